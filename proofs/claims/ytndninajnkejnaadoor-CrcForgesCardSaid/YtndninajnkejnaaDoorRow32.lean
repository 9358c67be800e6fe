/- Arrays of 32 words by value, in blocks of their own. -/
import Derived.Test.YtndninajnkejnaaDoorShiftWalk2
import Derived.Laws.Rows
import Derived.Laws.Tables
import Derived.Deep.MidRow
namespace Go.Proofs.YtndninajnkejnaaDoor
open Go Go.RowKit
set_option linter.unusedVariables false

/-- A block of 32 words that the call owns. -/
def RowU (w : World) (E : TypeId) (B g : Nat) (f : Nat → BitVec 32) : Prop := w.ownsRow B E 1 (.slice (some ⟨g, 0, none⟩) 32 32) 32 (Crc.rowL f)
/-- The array as a value. -/
def arrU (f : Nat → BitVec 32) : Value := .agg (Crc.rowL f).toArray
theorem RowU.cell {w : World} {E : TypeId} {B g : Nat} {f : Nat → BitVec 32} (h : RowU w E B g f) (i : Nat) (hi : i < 32) : w.cell? ⟨g, i, none⟩ = some (.int .u32 ((f i).toNat : Int)) := by
  rw [World.ownsRow.cellAt h i (by simpa using hi), Crc.rowL_get f i hi]
theorem RowU.frozen {w : World} {E : TypeId} {B g : Nat} {f : Nat → BitVec 32} (h : RowU w E B g f) (i : Nat) : w.frozen? ⟨g, i, none⟩ = false := World.ownsRow.frozenAt h i
theorem RowU.later {w w' : World} {E : TypeId} {B g : Nat} {f : Nat → BitVec 32} (h : RowU w E B g f) (hb : Below w.heap.size w w') : RowU w' E B g f := own_later h hb
theorem RowU.stored {w : World} {E : TypeId} {B g : Nat} {f : Nat → BitVec 32} (h : RowU w E B g f) (k : Nat) (v : BitVec 32) : RowU (w.setCell ⟨g, k, none⟩ (.int .u32 (v.toNat : Int))) E B g (fun i => if i = k then v else f i) := by
  have := (World.ownsRow.stored h k (.int .u32 (v.toNat : Int))).1
  rw [Crc.rowL_set] at this
  exact this
theorem RowU.congr {w : World} {E : TypeId} {B g : Nat} {f f' : Nat → BitVec 32} (h : RowU w E B g f) (hf : ∀ i, i < 32 → f i = f' i) : RowU w E B g f' := by
  unfold RowU at h ⊢
  rw [← Crc.rowL_congr f f' hf]
  exact h
/-- A new block of them. -/
theorem RowU.new (w : World) (E : TypeId) (f : Nat → BitVec 32) : RowU (w.alloc (.cells (Crc.rowL f).toArray E)) E w.heap.size w.heap.size f :=
  World.ownsRow_lit w (Crc.rowL f).toArray 32 (base := w.heap.size) (e := E) (size := 1) (Nat.le_refl _) (by decide) (by simp [Crc.rowL_length])
theorem RowU.lt {w : World} {E : TypeId} {B g : Nat} {f : Nat → BitVec 32} (h : RowU w E B g f) : B ≤ g ∧ g < w.heap.size := World.ownsRow.lt h g rfl
/-- The block itself. -/
theorem RowU.block {w : World} {E : TypeId} {B g : Nat} {f : Nat → BitVec 32} (h : RowU w E B g f) : w.heap[g]? = some (.cells (Crc.rowL f).toArray E (0, 0)) := by
  rcases h.2 with ⟨hv, h0⟩ | ⟨g', cap', cur, hv, hb, hh, hf, hm, hcs, ht⟩
  · simp at hv
  · simp only [Value.slice.injEq, Option.some.injEq, Addr.mk.injEq] at hv
    obtain ⟨⟨rfl, _⟩, _, rfl⟩ := hv
    rw [hh]
    have e : cur.toList = Crc.rowL f := by
      have hl : cur.toList.length = 32 := by simpa using hcs
      have := ht
      simp at this
      rw [List.take_of_length_le (by omega)] at this
      exact this
    rw [← e]
/-- The whole array laid over the block. -/
theorem RowU.all {w : World} {E : TypeId} {B g : Nat} {f : Nat → BitVec 32} (h : RowU w E B g f) (f' : Nat → BitVec 32) : RowU (w.setRow g (Crc.rowL f').toArray) E B g f' := by
  have hb := h.block
  have hl := h.lt
  refine ⟨by simp [Crc.rowL_length], .inr ⟨g, 32, (Crc.rowL f').toArray, rfl, hl.1, setRow_heap w g _ _ E (0, 0) hb, Nat.le_refl _, by decide, by simp [Crc.rowL_length], ?_⟩⟩
  simp
  exact List.take_of_length_le (by rw [Crc.rowL_length]; omega)
theorem RowU.other {w : World} {E E' : TypeId} {B B' g g' : Nat} {f : Nat → BitVec 32} (h : RowU w E B g f) (hg : g ≠ g') (cs : Array Value) : RowU (w.setRow g' cs) E B g f := by
  have hb := h.block
  have hl := h.lt
  refine ⟨by simp [Crc.rowL_length], .inr ⟨g, 32, (Crc.rowL f).toArray, rfl, hl.1, by rw [setRow_other w g' g cs hg]; exact hb, Nat.le_refl _, by decide, by simp [Crc.rowL_length], ?_⟩⟩
  simp
  exact List.take_of_length_le (by rw [Crc.rowL_length]; omega)
theorem RowU.otherCell {w : World} {E : TypeId} {B g g' i : Nat} {f : Nat → BitVec 32} (h : RowU w E B g f) (hg : g ≠ g') (v : Value) : RowU (w.setCell ⟨g', i, none⟩ v) E B g f := by
  have hb := h.block
  have hl := h.lt
  refine ⟨by simp [Crc.rowL_length], .inr ⟨g, 32, (Crc.rowL f).toArray, rfl, hl.1, by rw [heap_setCell_other w ⟨g', i, none⟩ g v hg]; exact hb, Nat.le_refl _, by decide, by simp [Crc.rowL_length], ?_⟩⟩
  simp
  exact List.take_of_length_le (by rw [Crc.rowL_length]; omega)
theorem RowU.boxes (f : Nat → BitVec 32) : (arrU f).cells = (Crc.rowL f).toArray := rfl
theorem arrU_congr (f f' : Nat → BitVec 32) (hf : ∀ i, i < 32 → f i = f' i) : arrU f = arrU f' := by unfold arrU; rw [Crc.rowL_congr f f' hf]
/-- The whole array is read. -/
theorem RowU.load {w : World} {B g : Nat} {f : Nat → BitVec 32} (h : RowU w 67 B g f) : (Instr.loadAt 67 (.pointer (some ⟨g, 0, none⟩))).run Tryd.prog w = .ok (arrU f) w := by
  simp only [Instr.loadAt, Instr.sureAddr, Sem.run_bind, Sem.run_pure, Result.andThen_ok]
  exact run_loadVar_row w g 67 67 _ (0, 0) _ h.block Tryd.underlying67 rfl (by rw [List.size_toArray, Crc.rowL_length]; kernel_rfl)
theorem arrU_one (f : Nat → BitVec 32) : (Crc.rowL f).toArray.all (·.oneCell') = true := by
  simp [Crc.rowL, Value.oneCell']
/-- The whole array is written. -/
theorem RowU.store {w : World} {B g : Nat} {f : Nat → BitVec 32} (h : RowU w 67 B g f) (f' : Nat → BitVec 32) : (Instr.storeAt 67 (.pointer (some ⟨g, 0, none⟩)) (arrU f')).run Tryd.prog w = .ok () (w.setRow g (Crc.rowL f').toArray) := by
  simp only [Instr.storeAt, Instr.sureAddr, Sem.run_bind, Sem.run_pure, Result.andThen_ok, arrU]
  exact run_storeVar_row w g 67 67 _ _ h.block (by rw [List.size_toArray, Crc.rowL_length]; kernel_rfl) (by simp [Crc.rowL_length]) (arrU_one f')
/-- As the walk opens them. -/
theorem RowU.loadC {w : World} {E : TypeId} {B g : Nat} {f : Nat → BitVec 32} (h : RowU w E B g f) : (loadCellsFrom ⟨g, 0, none⟩ 0 32 #[]).run Tryd.prog w = .ok (Crc.rowL f).toArray w := by
  have := run_loadCells_list (P := Tryd.prog) w ⟨g, 0, none⟩ (Crc.rowL f) (fun j v hv => by
    have hadd : (⟨g, 0, none⟩ : Addr).add j = ⟨g, j, none⟩ := by unfold Addr.add; split <;> simp_all
    rw [hadd, cell_of_row _ _ j _ E (0, 0) h.block]
    simpa using hv)
  simpa [loadCells, Crc.rowL_length] using this
theorem RowU.storeC {w : World} {E : TypeId} {B g : Nat} {f : Nat → BitVec 32} (h : RowU w E B g f) (f' : Nat → BitVec 32) : (storeCells ⟨g, 0, none⟩ (Crc.rowL f') 0).run Tryd.prog w = .ok () (w.setRow g (Crc.rowL f').toArray) := by
  have := run_storeVar_row (P := Tryd.prog) w g E 67 _ (Crc.rowL f').toArray h.block (by rw [List.size_toArray, Crc.rowL_length]; kernel_rfl) (by simp [Crc.rowL_length]) (arrU_one f')
  have hi : (Tryd.prog.info? 67).map (·.size) = some 32 := by kernel_rfl
  cases hq : Tryd.prog.info? 67 with
  | none => simp [hq] at hi
  | some i =>
    have hs : i.size = 32 := by simpa [hq] using hi
    simpa [storeVar, sizeOf, typeInfo, hq, Value.cells, hs, Crc.rowL_length] using this
theorem RowU.range {w : World} {E : TypeId} {B g : Nat} {f : Nat → BitVec 32} (h : RowU w E B g f) : w.rangeAt g 0 (Crc.rowL f) := fun j v hv => by
  have := cell_of_row w g j _ E (0, 0) h.block
  rw [Nat.zero_add, this]
  simpa using hv
theorem infoU (f : Nat → BitVec 32) : (Tryd.prog.info? 67).map (·.size) = some (Crc.rowL f).toArray.size := by rw [List.size_toArray, Crc.rowL_length]; kernel_rfl
theorem infoUL (f : Nat → BitVec 32) : (Tryd.prog.info? 67).map (·.size) = some (Crc.rowL f).length := by rw [Crc.rowL_length]; kernel_rfl
end Go.Proofs.YtndninajnkejnaaDoor
