/- Bytes patched for a sum: no program in sight. -/
import Derived.Test.YtndninajnkejnaaDoorSolvePure
import Derived.Test.YtndninajnkejnaaDoorSealPure
namespace Go.Proofs.YtndninajnkejnaaDoor
namespace Crc
open Go

/-- Four bytes laid over those from q on. -/
def patched (l : List B) (q : Nat) (v : R) : List B := l.take q ++ (laidB v ++ l.drop (q + 4))
theorem laidB_length (v : R) : (laidB v).length = 4 := rfl
theorem patched_length (l : List B) (q : Nat) (v : R) (h : q + 4 ≤ l.length) : (patched l q v).length = l.length := by
  unfold patched
  rw [List.length_append, List.length_append, laidB_length, List.length_take, List.length_drop]
  omega
theorem sum_patched (l : List B) (q : Nat) (v : R) (h : q + 4 ≤ l.length) : sum (patched l q v) = sum (patched l q 0#32) ^^^ steps (8 * (l.length - q)) v := by
  unfold sum patched
  rw [run_append, run_append, run_append, run_append, run_laid, run_laid, BitVec.xor_zero, steps_xor, run_xor_reg, ← steps_add, List.length_drop]
  rw [show 32 + 8 * (l.length - (q + 4)) = 8 * (l.length - q) by omega]
  rw [BitVec.xor_assoc, BitVec.xor_assoc]
  congr 1
  rw [BitVec.xor_comm]
theorem patched_unique (l : List B) (q : Nat) (v v' : R) (h : q + 4 ≤ l.length) (hs : sum (patched l q v) = sum (patched l q v')) : v = v' := by
  rw [sum_patched l q v h, sum_patched l q v' h] at hs
  have e : sum (patched l q 0#32) ^^^ (sum (patched l q 0#32) ^^^ steps (8 * (l.length - q)) v) = sum (patched l q 0#32) ^^^ (sum (patched l q 0#32) ^^^ steps (8 * (l.length - q)) v') := by rw [hs]
  rw [xxc, xxc] at e
  exact steps_inj _ _ _ e
/-- What of it solves the equations. -/
theorem patched_solved (l : List B) (q : Nat) (v want : R) (h : q + 4 ≤ l.length) (hv : steps (8 * (l.length - q)) v = sum (patched l q 0#32) ^^^ want) : sum (patched l q v) = want := by
  rw [sum_patched l q v h, hv, xxc]
/-- One byte back. -/
theorem bk_next (o : List B) (goal : R) (j : Nat) (reg : R) (hj : j < o.length) (h : run reg (o.drop (j + 1)) = goal) : run (bks 8 reg ^^^ (o.getD j 0#8).setWidth 32) (o.drop j) = goal := by
  have e : o.drop j = o.getD j 0#8 :: o.drop (j + 1) := by
    rw [List.drop_eq_getElem_cons hj, List.getD_eq_getElem?_getD, List.getElem?_eq_getElem hj, Option.getD_some]
  rw [e, run_cons]
  have e2 : mv (bks 8 reg ^^^ (o.getD j 0#8).setWidth 32) (o.getD j 0#8) = reg := by
    unfold mv
    rw [BitVec.xor_assoc, BitVec.xor_self, BitVec.xor_zero, steps_bks]
  rw [e2]
  exact h
theorem patched_take (l : List B) (q : Nat) (v : R) (h : q + 4 ≤ l.length) : (patched l q v).take q = l.take q := by
  unfold patched
  rw [List.take_append_of_le_length (by rw [List.length_take]; omega), List.take_take, Nat.min_self]
theorem patched_dropq (l : List B) (q : Nat) (v : R) (h : q + 4 ≤ l.length) : (patched l q v).drop q = laidB v ++ l.drop (q + 4) := by
  unfold patched
  have : (l.take q).length = q := by rw [List.length_take]; omega
  rw [List.drop_append_of_le_length (by omega)]
  rw [List.drop_of_length_le (by omega)]
  rfl
theorem patched_drop4 (l : List B) (q : Nat) (v : R) (h : q + 4 ≤ l.length) : (patched l q v).drop (q + 4) = l.drop (q + 4) := by
  rw [← List.drop_drop, patched_dropq l q v h]
  rfl
theorem patched_get (l : List B) (q i : Nat) (v : R) (h : q + 4 ≤ l.length) : (patched l q v).getD i 0#8 = if q ≤ i ∧ i < q + 4 then (laidB v).getD (i - q) 0#8 else l.getD i 0#8 := by
  have hq : (l.take q).length = q := by rw [List.length_take]; omega
  unfold patched
  simp only [List.getD_eq_getElem?_getD]
  by_cases h1 : i < q
  · rw [if_neg (by omega), List.getElem?_append_left (by omega), List.getElem?_take, if_pos h1]
  · rw [List.getElem?_append_right (by omega), hq]
    by_cases h2 : i < q + 4
    · rw [if_pos ⟨by omega, h2⟩, List.getElem?_append_left (by rw [laidB_length]; omega)]
    · rw [if_neg (by omega), List.getElem?_append_right (by rw [laidB_length]; omega), laidB_length, List.getElem?_drop]
      congr 2
      omega
theorem laid_zero (k : Nat) : (laidB 0#32).getD k 0#8 = 0#8 := by
  match k with
  | 0 => rfl
  | 1 => rfl
  | 2 => rfl
  | 3 => rfl
  | k + 4 => rfl
/-- What the row back came to: the word to lay. -/
theorem patched_back (l : List B) (q : Nat) (reg want : R) (h : q + 4 ≤ l.length) (hr : run reg ((patched l q 0#32).drop q) = want ^^^ ones) : sum (patched l q (reg ^^^ run ones (l.take q))) = want := by
  unfold sum
  rw [patched, run_append, run_append, run_laid]
  rw [patched_dropq l q _ h, run_append, run_laid, BitVec.xor_zero] at hr
  have e : run ones (l.take q) ^^^ (reg ^^^ run ones (l.take q)) = reg := by rw [BitVec.xor_comm reg, xxc]
  rw [e, hr, BitVec.xor_assoc, BitVec.xor_self, BitVec.xor_zero]
theorem laid_word (a b c d : B) : laidB (word a b c d) = [a, b, c, d] := by
  have key : ∀ (x y : B), x = y → ∀ l m : List B, l = m → x :: l = y :: m := by rintro x _ rfl l _ rfl; rfl
  unfold laidB word
  refine key _ _ ?_ _ _ (key _ _ ?_ _ _ (key _ _ ?_ _ _ (key _ _ ?_ _ _ rfl)))
  all_goals
    apply BitVec.eq_of_getLsbD_eq
    intro i hi
    simp only [BitVec.getLsbD_setWidth, BitVec.getLsbD_ushiftRight, BitVec.getLsbD_xor, BitVec.getLsbD_shiftLeft]
    match i, hi with
    | 0, _ => simp
    | 1, _ => simp
    | 2, _ => simp
    | 3, _ => simp
    | 4, _ => simp
    | 5, _ => simp
    | 6, _ => simp
    | 7, _ => simp
/-- Bytes are themselves patched. -/
theorem patched_self (l : List B) (q : Nat) (h : q + 4 ≤ l.length) : ∃ v, patched l q v = l := by
  refine ⟨word (l.getD q 0#8) (l.getD (q + 1) 0#8) (l.getD (q + 2) 0#8) (l.getD (q + 3) 0#8), ?_⟩
  unfold patched
  rw [laid_word]
  have g : ∀ j, j < l.length → l.drop j = l.getD j 0#8 :: l.drop (j + 1) := fun j hj => by
    rw [List.drop_eq_getElem_cons hj, List.getD_eq_getElem?_getD, List.getElem?_eq_getElem hj, Option.getD_some]
  conv => rhs; rw [← List.take_append_drop q l, g q (by omega), g (q + 1) (by omega), g (q + 2) (by omega), g (q + 3) (by omega)]
  rfl
theorem patched_twice (l : List B) (q : Nat) (v u : R) (h : q + 4 ≤ l.length) : patched (patched l q v) q u = patched l q u := by
  show (patched l q v).take q ++ (laidB u ++ (patched l q v).drop (q + 4)) = patched l q u
  rw [patched_take l q v h, patched_drop4 l q v h]
  rfl
/-- Patched back. -/
theorem patched_home (l : List B) (q : Nat) (v u : R) (h : q + 4 ≤ l.length) (hs : sum (patched (patched l q v) q u) = sum l) : patched (patched l q v) q u = l := by
  obtain ⟨v0, h0⟩ := patched_self l q h
  rw [patched_twice l q v u h] at hs ⊢
  rw [← h0] at hs
  have e : u = v0 := by
    have a := patched_unique l q u v0 h
    rw [h0] at a hs
    apply a
    rw [hs]
  rw [e, h0]
/-- The columns of the equations. -/
theorem col_eq (M i : Nat) (hi : i < 32) (hM : 32 ≤ M) : steps (M - 8 * (i / 8) - 8) (mv 0#32 (1#8 <<< (i % 8))) = steps M (1#32 <<< i) := by
  have e1 : mv 0#32 (1#8 <<< (i % 8)) = steps 8 (1#32 <<< (i % 8)) := by
    unfold mv
    rw [BitVec.zero_xor]
    have h8 : i % 8 < 8 := by omega
    have : ∀ k, k < 8 → (1#8 <<< k).setWidth 32 = 1#32 <<< k := by
      intro k h
      match k, h with
      | 0, _ => rfl
      | 1, _ => rfl
      | 2, _ => rfl
      | 3, _ => rfl
      | 4, _ => rfl
      | 5, _ => rfl
      | 6, _ => rfl
      | 7, _ => rfl
    rw [this _ h8]
  have e2 : steps (8 * (i / 8)) (1#32 <<< i) = 1#32 <<< (i % 8) := by
    rw [steps_high]
    · apply BitVec.eq_of_getLsbD_eq
      intro j hj
      rw [BitVec.getLsbD_ushiftRight, BitVec.getLsbD_shiftLeft, BitVec.getLsbD_shiftLeft, BitVec.getLsbD_one, BitVec.getLsbD_one]
      by_cases c : j = i % 8
      · subst c
        have h1 : ¬ (8 * (i / 8) + i % 8 < i) := by omega
        have h2 : 8 * (i / 8) + i % 8 - i = 0 := by omega
        have h3 : 8 * (i / 8) + i % 8 < 32 := by omega
        rw [h2]
        simp [h1, h3, hj]
      · by_cases c1 : j < i % 8
        · have : 8 * (i / 8) + j < i := by omega
          simp [c1, this]
        · have a1 : ¬ (8 * (i / 8) + j - i = 0) := by omega
          have a2 : ¬ (j - i % 8 = 0) := by omega
          simp [a1, a2]
    · intro j hj
      rw [BitVec.getLsbD_shiftLeft]
      have : j < i := by omega
      simp [this]
  rw [e1, ← e2, ← steps_add, ← steps_add]
  congr 1
  omega
end Crc
end Go.Proofs.YtndninajnkejnaaDoor
