
/- Pages as cells; slices of pages that are read or owned. -/
import Derived.Test.YtadikbmbadldpaaGreatDoorProg
import Derived.Test.YtadikbmbadldpaaGreatDoorBase
import Derived.Test.YtadikbmbadldpaaGreatDoorDrew
import Derived.Laws.AppendOwnNone
import Derived.Laws.OwnMore
import Derived.Laws.Rows
import Derived.Laws.Tables
import Derived.Laws.CopyOwn
import Derived.Deep.MidRow
import Derived.Deep.WholeRow
namespace Go.Proofs.YtadikbmbadldpaaGreatDoor
open Go Go.RowKit
set_option linter.unusedVariables false

/-- A page. -/
structure PageV where
  rights : Int
  dirty : Bool
  data : Nat → BitVec 8
/-- 64 bytes as cells. -/
def dataL (f : Nat → BitVec 8) : List Value := (List.range 64).map fun i => Value.int .u8 ((f i).toNat : Int)
theorem dataL_length (f : Nat → BitVec 8) : (dataL f).length = 64 := by simp [dataL]
theorem dataL_get (f : Nat → BitVec 8) (i : Nat) (h : i < 64) : (dataL f)[i]? = some (.int .u8 ((f i).toNat : Int)) := by simp [dataL, h]
theorem dataL_set (f : Nat → BitVec 8) (k : Nat) (v : BitVec 8) : (dataL f).set k (.int .u8 (v.toNat : Int)) = dataL (fun i => if i = k then v else f i) := by
  apply List.ext_getElem?
  intro i
  rw [List.getElem?_set]
  by_cases hi : i < 64
  · rw [dataL_get (fun i => if i = k then v else f i) i hi, dataL_get f i hi]
    by_cases e : k = i
    · subst e; simp [dataL_length, hi]
    · have : ¬ i = k := fun h => e h.symm
      simp [e, this]
  · have e1 : ∀ g, (dataL g)[i]? = none := fun g => List.getElem?_eq_none (by rw [dataL_length]; omega)
    rw [e1, e1]
    by_cases e : k = i <;> simp [e, dataL_length, hi]
theorem dataL_congr (f g : Nat → BitVec 8) (h : ∀ i, i < 64 → f i = g i) : dataL f = dataL g := by
  unfold dataL
  apply List.map_congr_left
  intro i hi
  rw [h i (List.mem_range.1 hi)]
/-- A page as cells. -/
def PageV.row (p : PageV) : List Value := .int .i64 p.rights :: .bool p.dirty :: dataL p.data
theorem PageV.row_length (p : PageV) : p.row.length = 66 := by simp [PageV.row, dataL_length]
theorem PageV.row_data (p : PageV) (j : Nat) (h : j < 64) : p.row[j + 2]? = some (.int .u8 ((p.data j).toNat : Int)) := by
  simp only [PageV.row, List.getElem?_cons_succ]
  exact dataL_get p.data j h
theorem PageV.row_one (p : PageV) : ∀ u ∈ p.row, u.oneCell' = true := by
  intro u hu
  simp only [PageV.row, List.mem_cons, dataL, List.mem_map] at hu
  rcases hu with rfl | rfl | ⟨i, _, rfl⟩ <;> rfl
/-- Pages behind one another, as cells. -/
def rowsL (P : Nat → PageV) : Nat → List Value
  | 0 => []
  | n + 1 => rowsL P n ++ (P n).row
theorem rowsL_length (P : Nat → PageV) (n : Nat) : (rowsL P n).length = n * 66 := by
  induction n with
  | zero => rfl
  | succ n ih => rw [rowsL, List.length_append, ih, PageV.row_length, Nat.add_mul]
theorem rowsL_get (P : Nat → PageV) (n i j : Nat) (hi : i < n) (hj : j < 66) : (rowsL P n)[i * 66 + j]? = (P i).row[j]? := by
  induction n with
  | zero => omega
  | succ n ih =>
    rw [rowsL]
    by_cases e : i = n
    · subst e
      rw [List.getElem?_append_right (by rw [rowsL_length]; omega), rowsL_length, Nat.add_sub_cancel_left]
    · rw [List.getElem?_append_left (by rw [rowsL_length]; omega)]
      exact ih (by omega)
theorem rowsL_congr (P Q : Nat → PageV) (n : Nat) (h : ∀ i, i < n → (P i).row = (Q i).row) : rowsL P n = rowsL Q n := by
  induction n with
  | zero => rfl
  | succ n ih => rw [rowsL, rowsL, ih (fun i hi => h i (by omega)), h n (by omega)]
theorem rowsL_one (P : Nat → PageV) (n : Nat) : ∀ u ∈ rowsL P n, u.oneCell' = true := by
  induction n with
  | zero => intro u hu; cases hu
  | succ n ih =>
    intro u hu
    rw [rowsL, List.mem_append] at hu
    rcases hu with hu | hu
    · exact ih u hu
    · exact (P n).row_one u hu
/-- One page of them changed. -/
def upd (P : Nat → PageV) (k : Nat) (p : PageV) : Nat → PageV := fun i => if i = k then p else P i
theorem rowsL_set (P : Nat → PageV) (n k j : Nat) (hk : k < n) (hj : j < 66) (p : PageV) (v : Value) (hp : p.row = (P k).row.set j v) : (rowsL P n).set (k * 66 + j) v = rowsL (upd P k p) n := by
  induction n with
  | zero => omega
  | succ n ih =>
    rw [rowsL, rowsL]
    by_cases e : k = n
    · subst e
      rw [List.set_append_right _ _ (by rw [rowsL_length]; omega), rowsL_length, Nat.add_sub_cancel_left, ← hp]
      have e1 : rowsL (upd P k p) k = rowsL P k := rowsL_congr _ _ _ (fun i hi => by simp [upd, Nat.ne_of_lt hi])
      have e2 : upd P k p k = p := by simp [upd]
      rw [e1, e2]
    · rw [List.set_append_left _ _ (by rw [rowsL_length]; omega), ih (by omega)]
      have e2 : upd P k p n = P n := by simp [upd, Ne.symm e]
      rw [e2]
theorem row_set_rights (p : PageV) (r : Int) : PageV.row { p with rights := r } = p.row.set 0 (.int .i64 r) := rfl
theorem row_set_dirty (p : PageV) (d : Bool) : PageV.row { p with dirty := d } = p.row.set 1 (.bool d) := rfl
theorem row_set_data (p : PageV) (j : Nat) (c : BitVec 8) : PageV.row { p with data := fun i => if i = j then c else p.data i } = p.row.set (j + 2) (.int .u8 (c.toNat : Int)) := by
  simp only [PageV.row, List.set_cons_succ]
  rw [dataL_set]
/-- A slice of pages that can be read. -/
structure RdP (w : World) (a : Option Addr) (n cap : Nat) (P : Nat → PageV) : Prop where
  fits : n ≤ cap
  bound : n ≤ 1759218604441
  nil : a = none → cap = 0
  cells : 0 < n → ∃ b off, a = some ⟨b, off, none⟩ ∧ ∀ i, i < n → w.rangeAt b (off + i * 66) (P i).row
theorem prange_later {w w' : World} {b o : Nat} {cs : List Value} (h : w.rangeAt b o cs) (hb : Below w.heap.size w w') : w'.rangeAt b o cs := fun j v hv => by
  have := h j v hv
  exact (hb.cell (p := ⟨b, o + j, none⟩) (World.block_lt_of_cell? w _ this)).trans this
theorem RdP.later {w w1 : World} {a : Option Addr} {n cap : Nat} {P : Nat → PageV} (h : RdP w a n cap P) (hb : Below w.heap.size w w1) : RdP w1 a n cap P :=
  ⟨h.fits, h.bound, h.nil, fun hn => by
    obtain ⟨b, off, e, hc⟩ := h.cells hn
    exact ⟨b, off, e, fun i hi => prange_later (hc i hi) hb⟩⟩
/-- Pages of the call's own. -/
def OwnP (w : World) (B : Nat) (v : Value) (n : Nat) (P : Nat → PageV) : Prop := w.ownsRow B 47 66 v n (rowsL P n)
theorem OwnP.later {w w1 : World} {B : Nat} {v : Value} {n : Nat} {P : Nat → PageV} (h : OwnP w B v n P) (hb : Below w.heap.size w w1) : OwnP w1 B v n P := by
  refine ⟨h.1, ?_⟩
  rcases h.2 with h' | ⟨g, cap, cur, hv, hg, hh, r⟩
  · exact .inl h'
  · exact .inr ⟨g, cap, cur, hv, hg, (hb.block _ (Array.getElem?_eq_some_iff.1 hh).1).trans hh, r⟩
theorem OwnP.mono {w : World} {B B' : Nat} {v : Value} {n : Nat} {P : Nat → PageV} (h : OwnP w B v n P) (hB : B' ≤ B) : OwnP w B' v n P := by
  refine ⟨h.1, ?_⟩
  rcases h.2 with h' | ⟨g, cap, cur, hv, hg, r⟩
  · exact .inl h'
  · exact .inr ⟨g, cap, cur, hv, by omega, r⟩
theorem OwnP.congr {w : World} {B : Nat} {v : Value} {n : Nat} {P Q : Nat → PageV} (h : OwnP w B v n P) (hq : ∀ i, i < n → (P i).row = (Q i).row) : OwnP w B v n Q := by
  unfold OwnP at h ⊢
  rw [← rowsL_congr P Q n hq]
  exact h
/-- It can be read. -/
theorem OwnP.rd {w : World} {B : Nat} {v : Value} {n : Nat} {P : Nat → PageV} (h : OwnP w B v n P) (hn : n ≤ 1759218604441) : ∃ a cap, v = .slice a n cap ∧ RdP w a n cap P := by
  rcases h.2 with ⟨hv, h0⟩ | ⟨g, cap, cur, hv, hb, hh, hf, hm, hcs, ht⟩
  · subst h0
    exact ⟨none, 0, hv, by omega, by omega, fun _ => rfl, fun h => by omega⟩
  · subst hv
    refine ⟨_, _, rfl, hf, hn, (fun h => by cases h), fun _ => ⟨g, 0, rfl, fun i hi j u hu => ?_⟩⟩
    have hj : j < 66 := by
      have := (List.getElem?_eq_some_iff.1 hu).1
      rwa [PageV.row_length] at this
    have hlt : i * 66 + j < n * 66 := by
      have : (i + 1) * 66 ≤ n * 66 := Nat.mul_le_mul_right _ hi
      omega
    rw [Nat.zero_add, World.ownsRow.cellAt h (i * 66 + j) hlt, rowsL_get P n i j hi hj]
    exact hu
theorem OwnP.nil (w : World) (B : Nat) (P : Nat → PageV) : OwnP w B (.slice none 0 0) 0 P := World.ownsRow_nil w B _ _
/-- A cell of them: what it holds, and that it may be written. -/
theorem OwnP.cell {w : World} {B g n cap : Nat} {P : Nat → PageV} (h : OwnP w B (.slice (some ⟨g, 0, none⟩) n cap) n P) (i j : Nat) (hi : i < n) (hj : j < 66) : w.cell? ⟨g, i * 66 + j, none⟩ = (P i).row[j]? := by
  have hlt : i * 66 + j < n * 66 := by
    have : (i + 1) * 66 ≤ n * 66 := Nat.mul_le_mul_right _ hi
    omega
  rw [World.ownsRow.cellAt h (i * 66 + j) hlt, rowsL_get P n i j hi hj]
theorem OwnP.frozen {w : World} {B g n cap : Nat} {P : Nat → PageV} (h : OwnP w B (.slice (some ⟨g, 0, none⟩) n cap) n P) (j : Nat) : w.frozen? ⟨g, j, none⟩ = false := World.ownsRow.frozenAt h j
theorem OwnP.stored {w : World} {B g n cap : Nat} {P : Nat → PageV} (h : OwnP w B (.slice (some ⟨g, 0, none⟩) n cap) n P) (i j : Nat) (hi : i < n) (hj : j < 66) (p : PageV) (v : Value) (hp : p.row = (P i).row.set j v) : OwnP (w.setCell ⟨g, i * 66 + j, none⟩ v) B (.slice (some ⟨g, 0, none⟩) n cap) n (upd P i p) := by
  have := (World.ownsRow.stored h (i * 66 + j) v).1
  rw [rowsL_set P n i j hi hj p v hp] at this
  exact this
noncomputable def zData : List Value := dataL fun _ => 0#8
theorem infoPage : (Tryz.prog.info? 47).map (fun i => (i.zero, i.size, i.bytes)) = some (some (.agg (PageV.row ⟨0, false, fun _ => 0#8⟩).toArray), 66, 80) := by kernel_rfl
/-- Appending pages to a row of the call's own. -/
theorem append_pages {w : World} {ops : Array Oper} {rest : List Oper} {o : Oper} {a : Act} {Q : Exit → Act → World → Prop} (hgd : o.guard = none) (s x : Operand)
    (ho : o.op = .call { callee := .builtin .append, args := #[s, x], argTypes := #[22, 22] })
    (base : Nat) (v : Value) (n : Nat) (xs : List Value) (hs : a.eval s = v) (hown : w.ownsRow base 47 66 v n xs)
    (x0 : Addr) (m c : Nat) (cs : List Value) (hx : a.eval x = .slice (some x0) m c) (hl : cs.length = m * 66) (hr : ∀ j u, cs[j]? = some u → w.cell? (x0.add j) = some u) (h1 : ∀ u ∈ cs, u.oneCell' = true)
    (hb : n + m ≤ 1759218604441) (hbase : base ≤ w.heap.size)
    (h : ∀ v' w', w'.ownsRow base 47 66 v' (n + m) (xs ++ cs) → w.grownBy w' v.ownBlock → (v' = .slice none 0 0 ↔ v = .slice none 0 0 ∧ m = 0) → wpList Tryz.prog ops Q rest (a.put o.dst v') w') : wpList Tryz.prog ops Q (o :: rest) a w := by
  obtain ⟨i, hi, hz0, hz1, hz2⟩ := info_parts infoPage
  exact wpList_append_own w hgd s x 22 ho base 47 i _ 66 80 Tryz.underlying22 hi hz0 hz1 hz2 (by simp [Value.cells, PageV.row_length]) (by decide) v n xs hs hown x0 m c cs hx hl hr h1 (by unfold maxLen; omega) (by omega) hbase h
end Go.Proofs.YtadikbmbadldpaaGreatDoor
