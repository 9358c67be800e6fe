
/- Pages that differ: the document's Differ, the program's. -/
import Derived.Test.YtadikbmbadldpaaGreatDoorPageCopy
import Derived.Test.YtadikbmbadldpaaGreatDoorPageEq
import Derived.Test.YtadikbmbadldpaaGreatDoorQuietLoad
namespace Go.Proofs.YtadikbmbadldpaaGreatDoor
open Go Go.RowKit
set_option linter.unusedVariables false

/-- Numbers of pages as cells. -/
def nv (l : List Nat) : List Value := l.map fun (i : Nat) => .int .i64 (i : Int)
theorem nv_length (l : List Nat) : (nv l).length = l.length := by simp [nv]
theorem nv_append (l m : List Nat) : nv (l ++ m) = nv l ++ nv m := by simp [nv]
theorem nv_one (l : List Nat) : ∀ u ∈ nv l, u.oneCell' = true := by
  intro u hu
  simp only [nv, List.mem_map] at hu
  obtain ⟨c, _, rfl⟩ := hu
  rfl
/-- Numbers of the call's own. -/
def OwnI (w : World) (B : Nat) (v : Value) (l : List Nat) : Prop := w.ownsRow B 3 1 v l.length (nv l)
theorem OwnI.nil (w : World) (B : Nat) : OwnI w B (.slice none 0 0) [] := World.ownsRow_nil w B _ _
theorem OwnI.later {w w1 : World} {B : Nat} {v : Value} {l : List Nat} (h : OwnI w B v l) (hb : Below w.heap.size w w1) : OwnI w1 B v l := by
  refine ⟨h.1, ?_⟩
  rcases h.2 with h' | ⟨g, cap, cur, hv, hg, hh, r⟩
  · exact .inl h'
  · exact .inr ⟨g, cap, cur, hv, hg, (hb.block _ (Array.getElem?_eq_some_iff.1 hh).1).trans hh, r⟩
theorem OwnI.mono {w : World} {B B' : Nat} {v : Value} {l : List Nat} (h : OwnI w B v l) (hB : B' ≤ B) : OwnI w B' v l := by
  refine ⟨h.1, ?_⟩
  rcases h.2 with h' | ⟨g, cap, cur, hv, hg, r⟩
  · exact .inl h'
  · exact .inr ⟨g, cap, cur, hv, by omega, r⟩
theorem infoInt : (Tryz.prog.info? 3).map (fun i => (i.zero, i.size, i.bytes)) = some (some (.int .i64 0), 1, 8) := by kernel_rfl
/-- The pages of the first n that differ. -/
def diffs (P Q : Nat → PageV) : Nat → List Nat
  | 0 => []
  | n + 1 => diffs P Q n ++ bif dataEq (P n).data (Q n).data then [] else [n]
theorem diffs_length (P Q : Nat → PageV) (n : Nat) : (diffs P Q n).length ≤ n := by
  induction n with
  | zero => simp [diffs]
  | succ n ih =>
    rw [diffs, List.length_append]
    cases dataEq (P n).data (Q n).data <;> simp <;> omega
theorem diffs_same {P Q : Nat → PageV} {n : Nat} (h : dataEq (P n).data (Q n).data = true) : diffs P Q (n + 1) = diffs P Q n := by rw [diffs, h]; simp
theorem diffs_more {P Q : Nat → PageV} {n : Nat} (h : dataEq (P n).data (Q n).data = false) : diffs P Q (n + 1) = diffs P Q n ++ [n] := by rw [diffs, h]; simp
/-- A page's bytes, where they lie. -/
theorem data_in {w : World} {b o : Nat} {p : PageV} (h : w.rangeAt b o p.row) : w.rangeAt b (o + 2) (dataL p.data) := by
  intro j v hv
  have h2 := h (j + 2) v (by simp only [PageV.row, List.getElem?_cons_succ]; exact hv)
  rw [← h2]
  congr 2
  omega
theorem data_at {w : World} {b o : Nat} {p : PageV} (h : w.rangeAt b o p.row) : ∀ w', (∃ n, w' = w.drewN n) → w'.rangeAt b (o + 2) (dataL p.data) := by
  rintro w' ⟨q, rfl⟩
  exact data_in (prange_later h (Drew.below ⟨q, rfl⟩))
theorem dataLen (p : PageV) : (Tryz.prog.info? 45).map (·.size) = some (dataL p.data).length := by rw [dataL_length]; exact infoData
end Go.Proofs.YtadikbmbadldpaaGreatDoor
