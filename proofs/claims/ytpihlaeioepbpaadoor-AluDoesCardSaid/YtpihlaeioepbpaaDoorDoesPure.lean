/- What Do makes of two words, by the document's road: no program in sight. -/
import Derived.Test.YtpihlaeioepbpaaDoorWidesPure
import Derived.Test.YtpihlaeioepbpaaDoorAluPure
namespace Go.Proofs.YtpihlaeioepbpaaDoor
namespace Alu
open Go
theorem adc_add (b c : R) : (adc b c false).1 = b + c := by
  apply BitVec.eq_of_toNat_eq
  simp [adc, cn, BitVec.toNat_add]
theorem adc_sub (b c : R) : (adc b (~~~c) true).1 = b - c := by
  apply BitVec.eq_of_toNat_eq
  have h1 := b.isLt
  have h2 := c.isLt
  simp only [adc, BitVec.toNat_ofNat, BitVec.toNat_not, BitVec.toNat_sub, cn, if_true]
  omega
theorem adc_neg (c : R) : (adc 0#32 (~~~c) true).1 = -c := by rw [adc_sub, BitVec.zero_sub]
/-- Without its sign. -/
def mag (x : R) : R := if x.toInt < 0 then -x else x
theorem mag_int (x : R) : x.toInt = if x.toInt < 0 then -((mag x).toNat : Int) else ((mag x).toNat : Int) := by
  have h := x.isLt
  by_cases c : x.toInt < 0
  · rw [if_pos c]
    unfold mag
    rw [if_pos c]
    rw [BitVec.toInt_eq_toNat_cond] at c ⊢
    by_cases d : 2 * x.toNat < 2 ^ 32
    · rw [if_pos d] at c; omega
    · rw [if_neg d] at c ⊢
      rw [BitVec.toNat_neg]
      omega
  · rw [if_neg c]
    unfold mag
    rw [if_neg c]
    rw [BitVec.toInt_eq_toNat_cond] at c ⊢
    by_cases d : 2 * x.toNat < 2 ^ 32
    · rw [if_pos d]
    · rw [if_neg d] at c; omega
theorem mag_zero (x : R) (h : x ≠ 0#32) : mag x ≠ 0#32 := by
  intro e
  apply h
  unfold mag at e
  by_cases c : x.toInt < 0
  · rw [if_pos c] at e
    have : -(-x) = -(0#32) := by rw [e]
    rw [BitVec.neg_neg, BitVec.neg_zero] at this
    exact this
  · rwa [if_neg c] at e
theorem ofInt_nat (n : Nat) : BitVec.ofInt 32 (n : Int) = BitVec.ofNat 32 n := BitVec.ofInt_natCast 32 n
theorem sdiv_mag (b c : R) : BitVec.ofInt 32 (b.toInt.tdiv c.toInt) = if (decide (b.toInt < 0) != decide (c.toInt < 0)) = true then -(BitVec.ofNat 32 ((mag b).toNat / (mag c).toNat)) else BitVec.ofNat 32 ((mag b).toNat / (mag c).toNat) := by
  have h1 := mag_int b
  have h2 := mag_int c
  obtain ⟨m, hm⟩ : ∃ m, m = (mag b).toNat := ⟨_, rfl⟩
  obtain ⟨n, hn⟩ : ∃ n, n = (mag c).toNat := ⟨_, rfl⟩
  rw [← hm] at h1 ⊢
  rw [← hn] at h2 ⊢
  by_cases p : b.toInt < 0 <;> by_cases q : c.toInt < 0
  · rw [if_pos p] at h1; rw [if_pos q] at h2
    rw [decide_eq_true p, decide_eq_true q, h1, h2, Int.neg_tdiv, Int.tdiv_neg, Int.neg_neg, ← Int.ofNat_tdiv, ofInt_nat]
    rfl
  · rw [if_pos p] at h1; rw [if_neg q] at h2
    rw [decide_eq_true p, decide_eq_false q, h1, h2, Int.neg_tdiv, ← Int.ofNat_tdiv, BitVec.ofInt_neg, ofInt_nat]
    rfl
  · rw [if_neg p] at h1; rw [if_pos q] at h2
    rw [decide_eq_false p, decide_eq_true q, h1, h2, Int.tdiv_neg, ← Int.ofNat_tdiv, BitVec.ofInt_neg, ofInt_nat]
    rfl
  · rw [if_neg p] at h1; rw [if_neg q] at h2
    rw [decide_eq_false p, decide_eq_false q, h1, h2, ← Int.ofNat_tdiv, ofInt_nat]
    rfl
theorem smod_mag (b c : R) : BitVec.ofInt 32 (b.toInt.tmod c.toInt) = if decide (b.toInt < 0) = true then -(BitVec.ofNat 32 ((mag b).toNat % (mag c).toNat)) else BitVec.ofNat 32 ((mag b).toNat % (mag c).toNat) := by
  have h1 := mag_int b
  have h2 := mag_int c
  obtain ⟨m, hm⟩ : ∃ m, m = (mag b).toNat := ⟨_, rfl⟩
  obtain ⟨n, hn⟩ : ∃ n, n = (mag c).toNat := ⟨_, rfl⟩
  rw [← hm] at h1 ⊢
  rw [← hn] at h2 ⊢
  by_cases p : b.toInt < 0 <;> by_cases q : c.toInt < 0
  · rw [if_pos p] at h1; rw [if_pos q] at h2
    rw [decide_eq_true p, h1, h2, Int.neg_tmod, Int.tmod_neg, ← Int.ofNat_tmod, BitVec.ofInt_neg, ofInt_nat]
    rfl
  · rw [if_pos p] at h1; rw [if_neg q] at h2
    rw [decide_eq_true p, h1, h2, Int.neg_tmod, ← Int.ofNat_tmod, BitVec.ofInt_neg, ofInt_nat]
    rfl
  · rw [if_neg p] at h1; rw [if_pos q] at h2
    rw [decide_eq_false p, h1, h2, Int.tmod_neg, ← Int.ofNat_tmod, ofInt_nat]
    rfl
  · rw [if_neg p] at h1; rw [if_neg q] at h2
    rw [decide_eq_false p, h1, h2, ← Int.ofNat_tmod, ofInt_nat]
    rfl
/-- A row moved. -/
def moved (f : Nat → Bool) (n : Int) (fill : Bool) (i : Nat) : Bool := if 0 ≤ (i : Int) - n ∧ (i : Int) - n < 32 then f ((i : Int) - n).toNat else fill
theorem moved_shl (b : R) (s i : Nat) (hi : i < 32) : moved (fun i => b.getLsbD i) s false i = (b <<< s).getLsbD i := by
  unfold moved
  rw [BitVec.getLsbD_shiftLeft]
  by_cases h : s ≤ i
  · rw [if_pos (by omega)]
    have e : ((i : Int) - (s : Int)).toNat = i - s := by omega
    have h2 : ¬ i < s := by omega
    rw [e]; simp [hi, h2]
  · rw [if_neg (by omega)]
    have h2 : i < s := by omega
    simp [h2]
theorem moved_shr (b : R) (s i : Nat) (hi : i < 32) : moved (fun i => b.getLsbD i) (-(s : Int)) false i = (b >>> s).getLsbD i := by
  unfold moved
  rw [BitVec.getLsbD_ushiftRight]
  by_cases h : s + i < 32
  · rw [if_pos (by omega)]
    have e : ((i : Int) - -(s : Int)).toNat = s + i := by omega
    rw [e]
  · rw [if_neg (by omega)]
    exact (BitVec.getLsbD_of_ge b (s + i) (by omega)).symm
theorem moved_sar (b : R) (s i : Nat) (hi : i < 32) : moved (fun i => b.getLsbD i) (-(s : Int)) (b.getLsbD 31) i = (b.sshiftRight s).getLsbD i := by
  unfold moved
  rw [BitVec.getLsbD_sshiftRight]
  have h32 : ¬ (32 ≤ i) := by omega
  by_cases h : s + i < 32
  · rw [if_pos (by omega)]
    have e : ((i : Int) - -(s : Int)).toNat = s + i := by omega
    rw [e]; simp [h32, h]
  · rw [if_neg (by omega)]
    simp only [h32, decide_false, Bool.not_false, Bool.true_and, h, if_false]
    rw [BitVec.msb_eq_getLsbD_last]
/-- Bit by bit. -/
def logicW (op : Nat) (b c : R) : R := if op = 3 then b &&& c else if op = 4 then b ||| c else b ^^^ c
theorem udiv_of {q c r b : R} (h : q.toNat * c.toNat + r.toNat = (0#32 : R).toNat * 4294967296 + b.toNat) (hr : r.toNat < c.toNat) : q = b / c ∧ r = b % c := by
  have h0 : (0#32 : R).toNat = 0 := rfl
  rw [h0, Nat.zero_mul, Nat.zero_add] at h
  have e := Nat.div_add_mod' b.toNat c.toNat
  obtain ⟨a1, a2⟩ := quot_unique c.toNat q.toNat r.toNat _ _ hr (Nat.mod_lt _ (by omega)) (h.trans e.symm)
  exact ⟨BitVec.eq_of_toNat_eq (by rw [a1, BitVec.toNat_udiv]), BitVec.eq_of_toNat_eq (by rw [a2, BitVec.toNat_umod])⟩
theorem udiv_nat (b c : R) : b / c = BitVec.ofNat 32 (b.toNat / c.toNat) := by
  apply BitVec.eq_of_toNat_eq
  rw [BitVec.toNat_udiv, BitVec.toNat_ofNat, Nat.mod_eq_of_lt (Nat.lt_of_le_of_lt (Nat.div_le_self _ _) b.isLt)]
theorem umod_nat (b c : R) : b % c = BitVec.ofNat 32 (b.toNat % c.toNat) := by
  apply BitVec.eq_of_toNat_eq
  rw [BitVec.toNat_umod, BitVec.toNat_ofNat, Nat.mod_eq_of_lt (Nat.lt_of_le_of_lt (Nat.mod_le _ _) b.isLt)]
theorem lo_mul {h l b c : R} (e : h.toNat * 4294967296 + l.toNat = b.toNat * c.toNat) : l = b * c := by
  apply BitVec.eq_of_toNat_eq
  rw [BitVec.toNat_mul, ← e]
  have := l.isLt
  omega
end Alu
end Go.Proofs.YtpihlaeioepbpaaDoor
