/- Arrays of 32 bools by value, in blocks of their own. -/
import Derived.Test.YtpihlaeioepbpaaDoorProg
import Derived.Test.YtpihlaeioepbpaaDoorBase
import Derived.Test.YtpihlaeioepbpaaDoorDrew
import Derived.Test.YtpihlaeioepbpaaDoorWords
import Derived.Laws.Rows
import Derived.Laws.Tables
import Derived.Laws.CopyOwn
import Derived.Deep.MidRow
namespace Go.Proofs.YtpihlaeioepbpaaDoor
open Go Go.RowKit
set_option linter.unusedVariables false
namespace Alu
/-- 32 bools as cells. -/
def rowL (f : Nat → Bool) : List Value := (List.range 32).map fun i => Value.bool (f i)
theorem rowL_length (f : Nat → Bool) : (rowL f).length = 32 := by simp [rowL]
theorem rowL_get (f : Nat → Bool) (i : Nat) (h : i < 32) : (rowL f)[i]? = some (.bool (f i)) := by simp [rowL, h]
theorem rowL_set (f : Nat → Bool) (k : Nat) (v : Bool) : (rowL f).set k (.bool v) = rowL (fun i => if i = k then v else f i) := by
  apply List.ext_getElem?
  intro i
  rw [List.getElem?_set]
  by_cases hi : i < 32
  · rw [rowL_get (fun i => if i = k then v else f i) i hi, rowL_get f i hi]
    by_cases e : k = i
    · subst e; simp [rowL_length, hi]
    · have : ¬ i = k := fun h => e h.symm
      simp [e, this]
  · have e1 : ∀ g, (rowL g)[i]? = none := fun g => List.getElem?_eq_none (by rw [rowL_length]; omega)
    rw [e1, e1]
    by_cases e : k = i <;> simp [e, rowL_length, hi]
theorem rowL_congr (f g : Nat → Bool) (h : ∀ i, i < 32 → f i = g i) : rowL f = rowL g := by
  unfold rowL
  apply List.map_congr_left
  intro i hi
  rw [h i (List.mem_range.1 hi)]
end Alu
/-- A block of 32 bools that the call owns. -/
def RowT (w : World) (E : TypeId) (B g : Nat) (f : Nat → Bool) : Prop := w.ownsRow B E 1 (.slice (some ⟨g, 0, none⟩) 32 32) 32 (Alu.rowL f)
/-- The array as a value. -/
def arrT (f : Nat → Bool) : Value := .agg (Alu.rowL f).toArray
theorem RowT.cell {w : World} {E : TypeId} {B g : Nat} {f : Nat → Bool} (h : RowT w E B g f) (i : Nat) (hi : i < 32) : w.cell? ⟨g, i, none⟩ = some (.bool (f i)) := by
  rw [World.ownsRow.cellAt h i (by simpa using hi), Alu.rowL_get f i hi]
theorem RowT.frozen {w : World} {E : TypeId} {B g : Nat} {f : Nat → Bool} (h : RowT w E B g f) (i : Nat) : w.frozen? ⟨g, i, none⟩ = false := World.ownsRow.frozenAt h i
theorem RowT.later {w w' : World} {E : TypeId} {B g : Nat} {f : Nat → Bool} (h : RowT w E B g f) (hb : Below w.heap.size w w') : RowT w' E B g f := wown_later h hb
theorem RowT.stored {w : World} {E : TypeId} {B g : Nat} {f : Nat → Bool} (h : RowT w E B g f) (k : Nat) (v : Bool) : RowT (w.setCell ⟨g, k, none⟩ (.bool v)) E B g (fun i => if i = k then v else f i) := by
  have := (World.ownsRow.stored h k (.bool v)).1
  rw [Alu.rowL_set] at this
  exact this
theorem RowT.congr {w : World} {E : TypeId} {B g : Nat} {f f' : Nat → Bool} (h : RowT w E B g f) (hf : ∀ i, i < 32 → f i = f' i) : RowT w E B g f' := by
  unfold RowT at h ⊢
  rw [← Alu.rowL_congr f f' hf]
  exact h
/-- A new block of them. -/
theorem RowT.new (w : World) (E : TypeId) (f : Nat → Bool) : RowT (w.alloc (.cells (Alu.rowL f).toArray E)) E w.heap.size w.heap.size f :=
  World.ownsRow_lit w (Alu.rowL f).toArray 32 (base := w.heap.size) (e := E) (size := 1) (Nat.le_refl _) (by decide) (by simp [Alu.rowL_length])
theorem RowT.lt {w : World} {E : TypeId} {B g : Nat} {f : Nat → Bool} (h : RowT w E B g f) : B ≤ g ∧ g < w.heap.size := World.ownsRow.lt h g rfl
/-- The block itself. -/
theorem RowT.block {w : World} {E : TypeId} {B g : Nat} {f : Nat → Bool} (h : RowT w E B g f) : w.heap[g]? = some (.cells (Alu.rowL f).toArray E (0, 0)) := by
  rcases h.2 with ⟨hv, h0⟩ | ⟨g', cap', cur, hv, hb, hh, hf, hm, hcs, ht⟩
  · simp at hv
  · simp only [Value.slice.injEq, Option.some.injEq, Addr.mk.injEq] at hv
    obtain ⟨⟨rfl, _⟩, _, rfl⟩ := hv
    rw [hh]
    have e : cur.toList = Alu.rowL f := by
      have hl : cur.toList.length = 32 := by simpa using hcs
      have := ht
      simp at this
      rw [List.take_of_length_le (by omega)] at this
      exact this
    rw [← e]
/-- The whole array laid over the block. -/
theorem RowT.all {w : World} {E : TypeId} {B g : Nat} {f : Nat → Bool} (h : RowT w E B g f) (f' : Nat → Bool) : RowT (w.setRow g (Alu.rowL f').toArray) E B g f' := by
  have hb := h.block
  have hl := h.lt
  refine ⟨by simp [Alu.rowL_length], .inr ⟨g, 32, (Alu.rowL f').toArray, rfl, hl.1, setRow_heap w g _ _ E (0, 0) hb, Nat.le_refl _, by decide, by simp [Alu.rowL_length], ?_⟩⟩
  simp
  exact List.take_of_length_le (by rw [Alu.rowL_length]; omega)
theorem RowT.other {w : World} {E : TypeId} {B g g' : Nat} {f : Nat → Bool} (h : RowT w E B g f) (hg : g ≠ g') (cs : Array Value) : RowT (w.setRow g' cs) E B g f := by
  have hb := h.block
  have hl := h.lt
  refine ⟨by simp [Alu.rowL_length], .inr ⟨g, 32, (Alu.rowL f).toArray, rfl, hl.1, by rw [setRow_other w g' g cs hg]; exact hb, Nat.le_refl _, by decide, by simp [Alu.rowL_length], ?_⟩⟩
  simp
  exact List.take_of_length_le (by rw [Alu.rowL_length]; omega)
theorem RowT.otherCell {w : World} {E : TypeId} {B g g' i : Nat} {f : Nat → Bool} (h : RowT w E B g f) (hg : g ≠ g') (v : Value) : RowT (w.setCell ⟨g', i, none⟩ v) E B g f := by
  have hb := h.block
  have hl := h.lt
  refine ⟨by simp [Alu.rowL_length], .inr ⟨g, 32, (Alu.rowL f).toArray, rfl, hl.1, by rw [heap_setCell_other w ⟨g', i, none⟩ g v hg]; exact hb, Nat.le_refl _, by decide, by simp [Alu.rowL_length], ?_⟩⟩
  simp
  exact List.take_of_length_le (by rw [Alu.rowL_length]; omega)
theorem RowT.boxes (f : Nat → Bool) : (arrT f).cells = (Alu.rowL f).toArray := rfl
theorem arrT_congr (f f' : Nat → Bool) (hf : ∀ i, i < 32 → f i = f' i) : arrT f = arrT f' := by unfold arrT; rw [Alu.rowL_congr f f' hf]
/-- The whole array is read. -/
theorem RowT.load {w : World} {B g : Nat} {f : Nat → Bool} (h : RowT w 79 B g f) : (Instr.loadAt 79 (.pointer (some ⟨g, 0, none⟩))).run Tryd.prog w = .ok (arrT f) w := by
  simp only [Instr.loadAt, Instr.sureAddr, Sem.run_bind, Sem.run_pure, Result.andThen_ok]
  exact run_loadVar_row w g 79 79 _ (0, 0) _ h.block Tryd.underlying79 rfl (by rw [List.size_toArray, Alu.rowL_length]; kernel_rfl)
theorem arrT_one (f : Nat → Bool) : (Alu.rowL f).toArray.all (·.oneCell') = true := by
  simp [Alu.rowL, Value.oneCell']
/-- The whole array is written. -/
theorem RowT.store {w : World} {B g : Nat} {f : Nat → Bool} (h : RowT w 79 B g f) (f' : Nat → Bool) : (Instr.storeAt 79 (.pointer (some ⟨g, 0, none⟩)) (arrT f')).run Tryd.prog w = .ok () (w.setRow g (Alu.rowL f').toArray) := by
  simp only [Instr.storeAt, Instr.sureAddr, Sem.run_bind, Sem.run_pure, Result.andThen_ok, arrT]
  exact run_storeVar_row w g 79 79 _ _ h.block (by rw [List.size_toArray, Alu.rowL_length]; kernel_rfl) (by simp [Alu.rowL_length]) (arrT_one f')
/-- As the walk opens them. -/
theorem RowT.loadC {w : World} {E : TypeId} {B g : Nat} {f : Nat → Bool} (h : RowT w E B g f) : (loadCellsFrom ⟨g, 0, none⟩ 0 32 #[]).run Tryd.prog w = .ok (Alu.rowL f).toArray w := by
  have := run_loadCells_list (P := Tryd.prog) w ⟨g, 0, none⟩ (Alu.rowL f) (fun j v hv => by
    have hadd : (⟨g, 0, none⟩ : Addr).add j = ⟨g, j, none⟩ := by unfold Addr.add; split <;> simp_all
    rw [hadd, cell_of_row _ _ j _ E (0, 0) h.block]
    simpa using hv)
  simpa [loadCells, Alu.rowL_length] using this
theorem RowT.storeC {w : World} {E : TypeId} {B g : Nat} {f : Nat → Bool} (h : RowT w E B g f) (f' : Nat → Bool) : (storeCells ⟨g, 0, none⟩ (Alu.rowL f') 0).run Tryd.prog w = .ok () (w.setRow g (Alu.rowL f').toArray) := by
  have := run_storeVar_row (P := Tryd.prog) w g E 79 _ (Alu.rowL f').toArray h.block (by rw [List.size_toArray, Alu.rowL_length]; kernel_rfl) (by simp [Alu.rowL_length]) (arrT_one f')
  have hi : (Tryd.prog.info? 79).map (·.size) = some 32 := by kernel_rfl
  cases hq : Tryd.prog.info? 79 with
  | none => simp [hq] at hi
  | some i =>
    have hs : i.size = 32 := by simpa [hq] using hi
    simpa [storeVar, sizeOf, typeInfo, hq, Value.cells, hs, Alu.rowL_length] using this
theorem RowT.range {w : World} {E : TypeId} {B g : Nat} {f : Nat → Bool} (h : RowT w E B g f) : w.rangeAt g 0 (Alu.rowL f) := fun j v hv => by
  have := cell_of_row w g j _ E (0, 0) h.block
  rw [Nat.zero_add, this]
  simpa using hv
theorem infoT (f : Nat → Bool) : (Tryd.prog.info? 79).map (·.size) = some (Alu.rowL f).toArray.size := by rw [List.size_toArray, Alu.rowL_length]; kernel_rfl
theorem infoTL (f : Nat → Bool) : (Tryd.prog.info? 79).map (·.size) = some (Alu.rowL f).length := by rw [Alu.rowL_length]; kernel_rfl
theorem RowT.mono {w : World} {E : TypeId} {B B' g : Nat} {f : Nat → Bool} (h : RowT w E B g f) (hB : B' ≤ B) : RowT w E B' g f := wown_mono h hB
noncomputable def zT : Array Value := (Alu.rowL fun _ => false).toArray
theorem zvT (w : World) : (zeroValue 79).run Tryd.prog w = .ok (.agg zT) w := by kernel_rfl
theorem RowT.zero (w : World) : RowT (w.alloc (.cells zT 79)) 79 w.heap.size w.heap.size (fun _ => false) := RowT.new w _ _
end Go.Proofs.YtpihlaeioepbpaaDoor
