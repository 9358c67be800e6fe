/- Bursts as plain mathematics: bits turned in a row of bytes, and what becomes of the sum. -/
import Derived.Test.YtndninajnkejnaaDoorCrcPure
namespace Go.Proofs.YtndninajnkejnaaDoor
namespace Crc
open Go

/-- Bit q turned. -/
def flip (l : List B) (q : Nat) : List B := l.set (q / 8) (l.getD (q / 8) 0#8 ^^^ (1#8 <<< (q % 8)))
/-- The bits of a mask below k turned, laid at q. -/
def turnTo (l : List B) (q : Nat) (m : R) : Nat → List B
  | 0 => l
  | k + 1 => if m.getLsbD k then flip (turnTo l q m k) (q + k) else turnTo l q m k
/-- The bits of a mask below k. -/
def lowBits (m : R) : Nat → R
  | 0 => 0#32
  | k + 1 => lowBits m k ^^^ (if m.getLsbD k then 1#32 <<< k else 0#32)
/-- The mask fits at q into n bytes. -/
def Fits (n q : Nat) (m : R) (k : Nat) : Prop := ∀ i, i < k → m.getLsbD i = true → q + i < 8 * n

theorem flip_length (l : List B) (q : Nat) : (flip l q).length = l.length := by simp [flip]
theorem turnTo_length (l : List B) (q : Nat) (m : R) (k : Nat) : (turnTo l q m k).length = l.length := by
  induction k with
  | zero => rfl
  | succ k ih => unfold turnTo; split
                 · rw [flip_length, ih]
                 · exact ih
theorem steps_bit (k : Nat) (h : k < 32) : steps k (1#32 <<< k) = 1#32 := by
  rw [steps_high k]
  · apply BitVec.eq_of_getLsbD_eq
    intro i hi
    simp only [BitVec.getLsbD_ushiftRight, BitVec.getLsbD_shiftLeft, BitVec.getLsbD_one]
    by_cases h0 : i = 0
    · subst h0; simp [h]
    · have : ¬ (k + i < k) := by omega
      simp [h0]
  · intro i hi
    simp [BitVec.getLsbD_shiftLeft, hi]
theorem mv_flip (s : R) (c : B) (k : Nat) (h : k < 8) : mv s (c ^^^ (1#8 <<< k)) = mv s c ^^^ steps (8 - k) 1#32 := by
  have e := mv_xor s 0#32 c (1#8 <<< k)
  rw [BitVec.xor_zero] at e
  rw [e]
  congr 1
  unfold mv
  rw [BitVec.zero_xor]
  have e2 : (1#8 <<< k).setWidth 32 = 1#32 <<< k := by
    match k, h with
    | 0, _ => rfl
    | 1, _ => rfl
    | 2, _ => rfl
    | 3, _ => rfl
    | 4, _ => rfl
    | 5, _ => rfl
    | 6, _ => rfl
    | 7, _ => rfl
  rw [e2, show 8 = k + (8 - k) by omega, steps_add, steps_bit k (by omega)]
  congr 1
  omega
theorem run_xor_reg (l : List B) (s t : R) : run (s ^^^ t) l = run s l ^^^ steps (8 * l.length) t := by
  induction l generalizing s t with
  | nil => rfl
  | cons c l ih =>
    have e := mv_xor s t c 0#8
    rw [BitVec.xor_zero] at e
    rw [run_cons, e, ih, run_cons]
    congr 1
    have : mv t 0#8 = steps 8 t := by unfold mv; simp
    rw [this, ← steps_add]
    congr 1
    simp only [List.length_cons]; omega
theorem run_flip (r : R) (l : List B) (q : Nat) (h : q < 8 * l.length) : run r (flip l q) = run r l ^^^ steps (8 * l.length - q) 1#32 := by
  have hj : q / 8 < l.length := by omega
  have e : l = l.take (q / 8) ++ l.getD (q / 8) 0#8 :: l.drop (q / 8 + 1) := by
    rw [List.getD_eq_getElem?_getD, List.getElem?_eq_getElem hj, Option.getD_some, ← List.drop_eq_getElem_cons hj, List.take_append_drop]
  have f : flip l q = l.take (q / 8) ++ (l.getD (q / 8) 0#8 ^^^ (1#8 <<< (q % 8))) :: l.drop (q / 8 + 1) := by
    unfold flip
    rw [List.set_eq_take_append_cons_drop, if_pos hj]
  rw [f]
  conv => rhs; rw [e]
  have hl : (l.take (q / 8) ++ l.getD (q / 8) 0#8 :: l.drop (q / 8 + 1)).length = l.length := by rw [← e]
  rw [hl]
  simp only [run_append, run_cons]
  rw [mv_flip _ _ _ (by omega), run_xor_reg, ← steps_add]
  congr 2
  simp only [List.length_drop]; omega
theorem run_turn (r : R) (l : List B) (q : Nat) (m : R) (k : Nat) (hk : k ≤ 32) (h : Fits l.length q m k) (hq : q ≤ 8 * l.length) : run r (turnTo l q m k) = run r l ^^^ steps (8 * l.length - q) (lowBits m k) := by
  induction k with
  | zero => simp [turnTo, lowBits, steps_zero]
  | succ k ih =>
    have ih := ih (by omega) (fun i hi => h i (by omega))
    unfold turnTo lowBits
    by_cases hb : m.getLsbD k = true
    · rw [if_pos hb, if_pos hb, steps_xor, ← BitVec.xor_assoc, ← ih]
      have hq2 := h k (by omega) hb
      rw [run_flip _ _ _ (by rw [turnTo_length]; exact hq2), turnTo_length]
      congr 1
      rw [show 8 * l.length - q = k + (8 * l.length - (q + k)) by omega, steps_add, steps_bit k (by omega)]
    · rw [if_neg hb, if_neg hb, BitVec.xor_zero, ih]
theorem lowBits_get (m : R) (k i : Nat) (hk : k ≤ 32) : (lowBits m k).getLsbD i = (decide (i < k) && m.getLsbD i) := by
  induction k with
  | zero => simp [lowBits]
  | succ k ih =>
    unfold lowBits
    rw [BitVec.getLsbD_xor, ih (by omega)]
    have e : (if m.getLsbD k = true then 1#32 <<< k else 0#32).getLsbD i = (decide (i = k) && m.getLsbD k) := by
      by_cases hb : m.getLsbD k = true
      · rw [if_pos hb, hb, BitVec.getLsbD_shiftLeft, BitVec.getLsbD_one]
        by_cases hi : i = k
        · subst hi; simp; omega
        · by_cases h2 : i < k
          · simp [hi, h2]
          · have : i - k ≠ 0 := by omega
            simp [hi, this]
      · simp only [Bool.not_eq_true] at hb
        rw [if_neg (by simp [hb]), hb]; simp
    rw [e]
    by_cases h1 : i < k
    · have h3 : i ≠ k := by omega
      simp [h1, show i < k + 1 by omega, h3]
    · by_cases h2 : i = k
      · subst h2; simp
      · simp [h1, h2, show ¬ i < k + 1 by omega]
theorem lowBits_all (m : R) : lowBits m 32 = m := by
  apply BitVec.eq_of_getLsbD_eq
  intro i hi
  rw [lowBits_get m 32 i (by omega)]
  simp [hi]
theorem step_eq_zero (x : R) (h : step x = 0#32) : x = 0#32 := by
  cases hb : x.getLsbD 0
  · rw [step_even x hb] at h
    apply BitVec.eq_of_getLsbD_eq
    intro i hi
    by_cases h0 : i = 0
    · subst h0; rw [hb]; rfl
    · have := congrArg (fun y => y.getLsbD (i - 1)) h
      simp only [BitVec.getLsbD_ushiftRight] at this
      rw [show 1 + (i - 1) = i by omega] at this
      rw [this]; simp
  · rw [step_odd x hb] at h
    have := congrArg (fun y => y.getLsbD 31) h
    simp [poly] at this
theorem steps_eq_zero (n : Nat) (x : R) (h : steps n x = 0#32) : x = 0#32 := by
  induction n generalizing x with
  | zero => exact h
  | succ n ih => exact step_eq_zero x (ih _ h)
/-- Bytes that differ by a burst have unlike sums. -/
theorem sum_turn_ne (l : List B) (q : Nat) (m : R) (h : Fits l.length q m 32) (hq : q ≤ 8 * l.length) (hm : m ≠ 0#32) : sum (turnTo l q m 32) ≠ sum l := by
  intro e
  unfold sum at e
  rw [run_turn _ _ _ _ 32 (by omega) h hq, lowBits_all] at e
  have : steps (8 * l.length - q) m = 0#32 := by
    have e1 := congrArg (fun y => run ones l ^^^ (y ^^^ ones)) e
    simp only [BitVec.xor_assoc, BitVec.xor_self, BitVec.xor_zero] at e1
    rw [xxc] at e1
    exact e1
  exact hm (steps_eq_zero _ _ this)

theorem flip_int (c : B) (k : Nat) (h : k < 8) : bits .xor .u8 (c.toNat : Int) (2 ^ k % 256) = ((c ^^^ (1#8 <<< k)).toNat : Int) := by
  rw [← xor8]
  congr 1
  match k, h with
  | 0, _ => rfl
  | 1, _ => rfl
  | 2, _ => rfl
  | 3, _ => rfl
  | 4, _ => rfl
  | 5, _ => rfl
  | 6, _ => rfl
  | 7, _ => rfl
theorem bit_int (m : R) (k : Nat) (_h : k < 32) : (bits .and .u32 ((m.toNat : Int) / 2 ^ k) 1 == 0) = !(m.getLsbD k) := by
  rw [← shr32]
  have h1 := low1 (m >>> k)
  have h2 := and32 (m >>> k) 1#32
  have e : ((1#32).toNat : Int) = 1 := rfl
  rw [e] at h2
  have g : (m >>> k &&& 1#32).toNat = (m >>> k).toNat % 2 := by rw [BitVec.toNat_and]; exact Nat.and_one_is_mod _
  rw [h2, g] at h1 ⊢
  have hk : (m >>> k).getLsbD 0 = m.getLsbD k := by rw [BitVec.getLsbD_ushiftRight, Nat.add_zero]
  rw [hk] at h1
  rw [← h1]
  generalize hz : (m >>> k).toNat % 2 = z
  have : z = 0 ∨ z = 1 := by omega
  rcases this with rfl | rfl <;> rfl
theorem zero_int (m : R) : ((m.toNat : Int) == 0) = decide (m = 0#32) := by
  by_cases h : m = 0#32
  · subst h; rfl
  · have : m.toNat ≠ 0 := fun e => h (BitVec.eq_of_toNat_eq e)
    simp [h]; omega
end Crc
end Go.Proofs.YtndninajnkejnaaDoor
