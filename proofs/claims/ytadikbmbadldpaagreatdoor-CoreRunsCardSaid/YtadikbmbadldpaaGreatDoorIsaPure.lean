
/- Instruction words: forms, the table, what a word decodes to: plain. -/
import Derived.Test.YtadikbmbadldpaaGreatDoorBase
namespace Go.Proofs.YtadikbmbadldpaaGreatDoor
open Go Go.RowKit
set_option linter.unusedVariables false

structure InsV where
  op : Int
  a : Int
  b : Int
  c : Int
  imm : Int
abbrev insA (op a b c imm : Int) : Array Value := #[.int .i64 op, .int .i64 a, .int .i64 b, .int .i64 c, .int .i64 imm]
/-- The form of an instruction; 0: there is none. -/
def formAt (op : Int) : Nat :=
  bif decide (1 ≤ op) && decide (op ≤ 15) then 1
  else bif decide (op = 16) || (decide (32 ≤ op) && decide (op ≤ 37)) || (decide (48 ≤ op) && decide (op ≤ 53)) then 2
  else bif decide (17 ≤ op) && decide (op ≤ 19) then 3
  else bif decide (op = 20) then 4
  else bif decide (op = 54) then 5
  else bif decide (op = 55) then 6
  else bif decide (op = 64) then 7 else 0
/-- The table's rows: number and form. -/
def addT (form : Nat) (op : Int) (n : Nat) : List (Int × Nat) := (List.range n).map fun i : Nat => (op + (i : Int), form)
def rowsT : List (Int × Nat) := addT 1 1 15 ++ addT 2 16 1 ++ addT 3 17 3 ++ addT 4 20 1 ++ addT 2 32 6 ++ addT 2 48 6 ++ addT 5 54 1 ++ addT 6 55 1 ++ addT 7 64 1
theorem rowsT_length : rowsT.length = 35 := by kernel_rfl
theorem tab_hit (i : Nat) (hi : i < 35) : formAt (rowsT.getD i (0, 0)).1 = (rowsT.getD i (0, 0)).2 := by
  have h : ∀ j : Fin 35, formAt (rowsT.getD j.val (0, 0)).1 = (rowsT.getD j.val (0, 0)).2 := of_decide_eq_true (by kernel_rfl)
  exact h ⟨i, hi⟩
theorem tab_miss {op : Int} (h : ∀ i, i < 35 → (rowsT.getD i (0, 0)).1 ≠ op) : formAt op = 0 := by
  by_cases hr : 0 ≤ op ∧ op ≤ 64
  · have ht : ∀ j : Fin 65, formAt (j.val : Int) = 0 ∨ ∃ i : Fin 35, (rowsT.getD i.val (0, 0)).1 = (j.val : Int) := of_decide_eq_true (by kernel_rfl)
    obtain ⟨k, hk⟩ : ∃ k : Nat, op = (k : Int) := ⟨op.toNat, by omega⟩
    subst hk
    rcases ht ⟨k, by omega⟩ with h1 | ⟨i, hi⟩
    · exact h1
    · exact absurd hi (h i.val i.isLt)
  · unfold formAt
    rw [decide_eq_false (by omega : ¬ op = 16), decide_eq_false (by omega : ¬ op = 20), decide_eq_false (by omega : ¬ op = 54), decide_eq_false (by omega : ¬ op = 55), decide_eq_false (by omega : ¬ op = 64)]
    by_cases h0 : 1 ≤ op
    · rw [decide_eq_false (by omega : ¬ op ≤ 15), decide_eq_false (by omega : ¬ op ≤ 37), decide_eq_false (by omega : ¬ op ≤ 53), decide_eq_false (by omega : ¬ op ≤ 19)]
      simp
    · rw [decide_eq_false h0, decide_eq_false (by omega : ¬ (32 : Int) ≤ op), decide_eq_false (by omega : ¬ (48 : Int) ≤ op), decide_eq_false (by omega : ¬ (17 : Int) ≤ op)]
      rfl
theorem form_le (op : Int) : formAt op ≤ 7 := by
  unfold formAt
  cases (decide (1 ≤ op) && decide (op ≤ 15)) <;> cases (decide (op = 16) || (decide (32 ≤ op) && decide (op ≤ 37)) || (decide (48 ≤ op) && decide (op ≤ 53))) <;> cases (decide (17 ≤ op) && decide (op ≤ 19)) <;> cases decide (op = 20) <;> cases decide (op = 54) <;> cases decide (op = 55) <;> cases decide (op = 64) <;> simp
/-- A word's parts. -/
def wOp (w : BitVec 32) : Nat := w.toNat / 16777216
def wA (w : BitVec 32) : Nat := w.toNat / 1048576 % 16
def wB (w : BitVec 32) : Nat := w.toNat / 65536 % 16
def wC (w : BitVec 32) : Nat := w.toNat / 4096 % 16
def wLow (w : BitVec 32) : Nat := w.toNat % 65536
/-- Is a word with a form no instruction? -/
def wBad (f : Nat) (w : BitVec 32) : Bool :=
  (decide (f = 1) && decide (wLow w % 4096 ≠ 0)) || ((decide (f = 4) || decide (f = 5) || decide (f = 7)) && decide (wB w ≠ 0)) || ((decide (f = 6) || decide (f = 7)) && decide (wA w ≠ 0))
def decC (w : BitVec 32) : Nat := bif decide (formAt (wOp w) = 0) then 7 else bif wBad (formAt (wOp w)) w then 4 else 0
def immOf (f : Nat) (w : BitVec 32) : Int :=
  bif decide (f = 1) then 0 else bif (decide (f = 2) || decide (f = 5) || decide (f = 6)) && decide (32768 ≤ wLow w) then (wLow w : Int) - 65536 else (wLow w : Int)
/-- The instruction that a word with a form tells. -/
def insOf (w : BitVec 32) : InsV := ⟨wOp w, wA w, wB w, bif decide (formAt (wOp w) = 1) then (wC w : Int) else 0, immOf (formAt (wOp w)) w⟩
def decI (w : BitVec 32) : InsV := bif decide (decC w = 0) then insOf w else ⟨0, 0, 0, 0, 0⟩
end Go.Proofs.YtadikbmbadldpaaGreatDoor
