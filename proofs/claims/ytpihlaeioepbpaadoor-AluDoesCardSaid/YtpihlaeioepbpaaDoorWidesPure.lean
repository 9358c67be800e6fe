/- Sums with a carry bit by bit, products and quotients from above, bits turned and counted: no program in sight. -/
import Derived.Test.YtpihlaeioepbpaaDoorLongPure
import Derived.Test.YtpihlaeioepbpaaDoorAluBits
import Derived.Test.YtpihlaeioepbpaaDoorRowsWalk
namespace Go.Proofs.YtpihlaeioepbpaaDoor
namespace Alu
open Go

/-- The carry into bit i. -/
def car (x y : R) (k : Bool) (i : Nat) : Bool := BitVec.carry i x y k
theorem car_zero (x y : R) (k : Bool) : car x y k 0 = k := by unfold car; simp
theorem car_succ (x y : R) (k : Bool) (i : Nat) : car x y k (i + 1) = decide (1 < (if x.getLsbD i then 1 else 0) + (if y.getLsbD i then 1 else 0) + (if car x y k i then 1 else 0 : Nat)) := by
  unfold car
  rw [BitVec.carry_succ]
  cases x.getLsbD i <;> cases y.getLsbD i <;> cases BitVec.carry i x y k <;> rfl
theorem bool_cn (k : Bool) : k.toNat = cn k := by cases k <;> rfl
theorem car_end (x y : R) (k : Bool) : car x y k 32 = (adc x y k).2 := by
  unfold car BitVec.carry adc
  rw [Nat.mod_eq_of_lt x.isLt, Nat.mod_eq_of_lt y.isLt, bool_cn]
theorem adc_bit (x y : R) (k : Bool) (i : Nat) (hi : i < 32) : (adc x y k).1.getLsbD i = decide (((if x.getLsbD i then 1 else 0) + (if y.getLsbD i then 1 else 0) + (if car x y k i then 1 else 0 : Nat)) % 2 = 1) := by
  have e : (adc x y k).1 = x + y + BitVec.setWidth 32 (BitVec.ofBool k) := by
    apply BitVec.eq_of_toNat_eq
    have hk : (BitVec.setWidth 32 (BitVec.ofBool k)).toNat = cn k := by cases k <;> rfl
    rw [BitVec.toNat_add, BitVec.toNat_add, hk]
    simp only [adc, BitVec.toNat_ofNat]
    omega
  rw [e, BitVec.getLsbD_add_add_bool hi]
  unfold car
  cases x.getLsbD i <;> cases y.getLsbD i <;> cases BitVec.carry i x y k <;> rfl
/-- What is taken away. -/
theorem sub_adc (b c : R) (k : Bool) {s : R} {o : Bool} (h : s.toNat + c.toNat + cn k = b.toNat + 4294967296 * cn o) : s = (adc b (~~~c) (!k)).1 ∧ o = !(adc b (~~~c) (!k)).2 := by
  have hn := adc_nat b (~~~c) (!k)
  have hc : (~~~c).toNat = 4294967295 - c.toNat := by rw [BitVec.toNat_not]
  rw [hc] at hn
  have h1 := s.isLt
  have h2 := c.isLt
  have h3 := b.isLt
  have h4 := (adc b (~~~c) (!k)).1.isLt
  obtain ⟨q, hq⟩ : ∃ q, q = (adc b (~~~c) (!k)).2 := ⟨_, rfl⟩
  obtain ⟨z, hz⟩ : ∃ z, z = (adc b (~~~c) (!k)).1 := ⟨_, rfl⟩
  rw [← hq, ← hz] at hn
  rw [← hz] at h4
  rw [← hq, ← hz]
  have : s.toNat = z.toNat ∧ o = !q := by
    cases o <;> cases q <;> cases k <;> simp only [cn, if_true, Bool.false_eq_true, if_false, Bool.not_true, Bool.not_false] at h hn <;> first | exact ⟨by omega, rfl⟩ | (exfalso; omega)
  exact ⟨BitVec.eq_of_toNat_eq this.1, this.2⟩
/-- The product of the highest bits. -/
theorem mul_top (b : R) (c j : Nat) : (b.toNat / 2 ^ j) * c = 2 * (b.toNat / 2 ^ (j + 1) * c) + (if b.getLsbD j then c else 0) := by
  rw [double_bit b j, Nat.add_mul, Nat.mul_assoc]
  cases b.getLsbD j <;> simp
theorem mul_lt (b c : R) (j : Nat) : (b.toNat / 2 ^ j) * c.toNat ≤ 18446744065119617025 := by
  have h1 : b.toNat / 2 ^ j ≤ 4294967295 := Nat.le_trans (Nat.div_le_self _ _) (by have := b.isLt; omega)
  have h2 : c.toNat ≤ 4294967295 := by have := c.isLt; omega
  exact Nat.mul_le_mul h1 h2
/-- The highest bits of two words. -/
def topV (h : Nat) (l : R) (j : Nat) : Nat := h * 2 ^ (32 - j) + l.toNat / 2 ^ j
theorem topV_start (h : Nat) (l : R) : topV h l 32 = h := by
  unfold topV
  rw [top_zero, Nat.sub_self, Nat.pow_zero, Nat.mul_one, Nat.add_zero]
theorem topV_end (h : Nat) (l : R) : topV h l 0 = h * 4294967296 + l.toNat := by
  unfold topV
  rw [Nat.pow_zero, Nat.div_one]
theorem topV_step (h : Nat) (l : R) (j : Nat) (hj : j < 32) : topV h l j = 2 * topV h l (j + 1) + (if l.getLsbD j then 1 else 0) := by
  unfold topV
  rw [double_bit l j, show 32 - j = (32 - (j + 1)) + 1 by omega, Nat.pow_succ]
  have : h * (2 ^ (32 - (j + 1)) * 2) = 2 * (h * 2 ^ (32 - (j + 1))) := by rw [← Nat.mul_assoc, Nat.mul_comm]
  omega
theorem topV_lt (h c : Nat) (l : R) (j : Nat) (hj : j ≤ 32) (hc : h < c) : topV h l j < c * 2 ^ (32 - j) := by
  unfold topV
  have h1 : l.toNat / 2 ^ j < 2 ^ (32 - j) := by
    rw [Nat.div_lt_iff_lt_mul (Nat.pow_pos (by omega)), ← Nat.pow_add, show 32 - j + j = 32 by omega]
    exact l.isLt
  have h2 : (h + 1) * 2 ^ (32 - j) ≤ c * 2 ^ (32 - j) := Nat.mul_le_mul_right _ hc
  rw [Nat.add_mul, Nat.one_mul] at h2
  omega
theorem quot_lt (h c q r : Nat) (l : R) (j : Nat) (hj : j ≤ 32) (hc : h < c) (hq : q * c + r = topV h l j) : q < 2 ^ (32 - j) := by
  have h1 := topV_lt h c l j hj hc
  apply Classical.byContradiction
  intro hn
  have h2 : 2 ^ (32 - j) * c ≤ q * c := Nat.mul_le_mul_right _ (by omega)
  rw [Nat.mul_comm] at h2
  omega
theorem quot_unique (c q r q2 r2 : Nat) (h1 : r < c) (h2 : r2 < c) (h : q * c + r = q2 * c + r2) : q = q2 ∧ r = r2 := by
  have e1 : (q * c + r) / c = q := by rw [Nat.add_comm, Nat.add_mul_div_right _ _ (by omega), Nat.div_eq_of_lt h1, Nat.zero_add]
  have e2 : (q2 * c + r2) / c = q2 := by rw [Nat.add_comm, Nat.add_mul_div_right _ _ (by omega), Nat.div_eq_of_lt h2, Nat.zero_add]
  have : q = q2 := by rw [← e1, ← e2, h]
  subst this
  exact ⟨rfl, by omega⟩
/-- The bit that comes to place j. -/
theorem turn_row (x : R) (m j : Nat) (hm : m < 32) (hj : j < 32) : x.getLsbD ((j + 32 - m) % 32) = (x.rotateLeft m).getLsbD j := by
  rw [BitVec.getLsbD_rotateLeft, Nat.mod_eq_of_lt hm]
  by_cases h : j < m
  · simp only [h, decide_true, cond_true]
    congr 1
    omega
  · simp only [h, decide_false, cond_false, hj, decide_true, Bool.true_and]
    congr 1
    omega
theorem turn_place (i m j : Nat) (hi : i < 32) (hm : m < 32) (hj : j < 32) : j = (i + m) % 32 ↔ (j + 32 - m) % 32 = i := by omega
/-- The highest bits are 0. -/
theorem lead_none (x : R) (k : Nat) (hk : k ≤ 32) (h : ∀ i, i < k → x.getLsbD (31 - i) = false) (hb : k < 32 → x.getLsbD (31 - k) = true) : (32 : Int) - (Lib.bitLen x.toNat : Int) = (k : Int) := by
  by_cases h0 : x.toNat = 0
  · have hx : x = 0#32 := BitVec.eq_of_toNat_eq h0
    have : k = 32 := by
      apply Classical.byContradiction
      intro hn
      have := hb (by omega)
      rw [hx] at this
      simp at this
    rw [h0, this]
    decide
  · obtain ⟨t1, t2⟩ := bitLen_top x.toNat h0 x.isLt
    have hk32 : k < 32 := by
      apply Classical.byContradiction
      intro hn
      apply h0
      have : x = 0#32 := by
        apply BitVec.eq_of_getLsbD_eq
        intro i hi
        have := h (31 - i) (by omega)
        rw [show 31 - (31 - i) = i by omega] at this
        rw [this]; simp
      rw [this]; rfl
    have hx := x.isLt
    -- the highest bit lies at 31 - k
    have hlt : x.toNat < 2 ^ (32 - k) := by
      apply Nat.lt_pow_two_of_testBit
      intro i hi
      by_cases c : i < 32
      · have := h (31 - i) (by omega)
        rw [show 31 - (31 - i) = i by omega] at this
        exact this
      · exact BitVec.getLsbD_of_ge x i (by omega)
    have hge : 2 ^ (31 - k) ≤ x.toNat := Nat.ge_two_pow_of_testBit (hb hk32)
    obtain ⟨L, hL⟩ : ∃ L, L = Lib.bitLen x.toNat := ⟨_, rfl⟩
    rw [← hL] at t1 t2 ⊢
    have a1 : 2 ^ (L - 1) ≤ x.toNat := by
      have := Nat.div_mul_le_self x.toNat (2 ^ (L - 1))
      rw [t1] at this
      omega
    have a2 : x.toNat < 2 ^ L := by
      have h3 := Nat.lt_mul_div_succ x.toNat (Nat.pow_pos (n := L - 1) (show 0 < 2 by omega))
      rw [t1] at h3
      have h4 : 2 ^ L = 2 ^ (L - 1) * 2 := by rw [← Nat.pow_succ]; congr 1; omega
      omega
    have b1 : 31 - k < L := by
      apply Classical.byContradiction
      intro hn
      have : 2 ^ L ≤ 2 ^ (31 - k) := Nat.pow_le_pow_right (by omega) (by omega)
      omega
    have b2 : L - 1 < 32 - k := by
      apply Classical.byContradiction
      intro hn
      have : 2 ^ (32 - k) ≤ 2 ^ (L - 1) := Nat.pow_le_pow_right (by omega) (by omega)
      omega
    omega
end Alu
end Go.Proofs.YtpihlaeioepbpaaDoor
