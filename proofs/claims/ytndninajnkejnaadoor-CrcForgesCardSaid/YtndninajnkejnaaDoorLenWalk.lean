/- math/bits.Len32, walked; the place of the highest bit. -/
import Derived.Test.YtndninajnkejnaaDoorCrcPure
import Derived.Test.YtndninajnkejnaaDoorProg
import Derived.Test.YtndninajnkejnaaDoorBase
import Derived.Lib.Strings
import Derived.Lib.Slices
import Derived.Lib.Small
import Derived.Lib.Walk
import Derived.Lib.BitFns
namespace Go.Proofs.YtndninajnkejnaaDoor
open Go Go.RowKit
set_option linter.unusedVariables false

theorem len8_small (x : Int) (h0 : 0 ≤ x) (h1 : x ≤ 255) : Lib.len8 x = (Lib.bitLen x.toNat : Int) ∧ Lib.bitLen x.toNat ≤ 8 := ⟨Lib.len8_of x h0 h1, Lib.bitLen_le8' x h0 h1⟩
set_option maxHeartbeats 4000000 in
set_option maxRecDepth 100000 in
theorem bits_len (x : Int) (w : World) (h0 : 0 ≤ x) (h1 : x < 4294967296) :
    Calls Tryd.prog 59 #[.int .u32 x] w fun e w' => e = .returned (.int .i64 (Lib.bitLen x.toNat : Int)) ∧ w = w' := by
  by_cases c1 : x < 256
  · have n1 : decide (65536 ≤ x) = false := decide_eq_false (by omega)
    have n2 : decide (256 ≤ x) = false := decide_eq_false (by omega)
    have b1 : x ≤ 255 := by omega
    have HQ := Kp.mk (len8_small x h0 b1)
    go_enter Tryd.func59, Tryd.ntmps59
    go_wp2
    go_ret
    refine ⟨ret_int ?_, rfl⟩
    obtain ⟨q, l⟩ := HQ.out
    rw [q]; simp only [wrap64]; omega
  · by_cases c2 : x < 65536
    · have n1 : decide (65536 ≤ x) = false := decide_eq_false (by omega)
      have n2 : decide (256 ≤ x) = true := decide_eq_true (by omega)
      have b0 : 0 ≤ x / 256 := by omega
      have b1 : x / 256 ≤ 255 := by omega
      have HQ := Kp.mk (len8_small (x / 256) b0 b1)
      go_enter Tryd.func59, Tryd.ntmps59
      go_wp2
      go_ret
      refine ⟨ret_int ?_, rfl⟩
      obtain ⟨q, l⟩ := HQ.out
      have s := Lib.bitLen_shift8 x.toNat (by omega) (by omega)
      rw [show (x / 256).toNat = x.toNat / 256 by omega] at q l
      rw [q]; simp only [wrap64]; omega
    · by_cases c3 : x < 16777216
      · have n1 : decide (65536 ≤ x) = true := decide_eq_true (by omega)
        have n2 : decide (256 ≤ x / 65536) = false := decide_eq_false (by omega)
        have b0 : 0 ≤ x / 65536 := by omega
        have b1 : x / 65536 ≤ 255 := by omega
        have HQ := Kp.mk (len8_small (x / 65536) b0 b1)
        go_enter Tryd.func59, Tryd.ntmps59
        go_wp2
        go_ret
        refine ⟨ret_int ?_, rfl⟩
        obtain ⟨q, l⟩ := HQ.out
        have s := Lib.bitLen_shift16 x.toNat (by omega) (by omega)
        rw [show (x / 65536).toNat = x.toNat / 65536 by omega] at q l
        rw [q]; simp only [wrap64]; omega
      · have n1 : decide (65536 ≤ x) = true := decide_eq_true (by omega)
        have n2 : decide (256 ≤ x / 65536) = true := decide_eq_true (by omega)
        have b0 : 0 ≤ x / 65536 / 256 := by omega
        have b1 : x / 65536 / 256 ≤ 255 := by omega
        have HQ := Kp.mk (len8_small (x / 65536 / 256) b0 b1)
        go_enter Tryd.func59, Tryd.ntmps59
        go_wp2
        go_ret
        refine ⟨ret_int ?_, rfl⟩
        obtain ⟨q, l⟩ := HQ.out
        have s := Lib.bitLen_shift24 x.toNat (by omega) (by omega)
        rw [show (x / 65536 / 256).toNat = x.toNat / 16777216 by omega] at q l
        rw [q]; simp only [wrap64]; omega
namespace Crc
/-- The place of the highest bit. -/
theorem bitLen_top (x : Nat) (h0 : x ≠ 0) (h : x < 4294967296) : x / 2 ^ (Lib.bitLen x - 1) = 1 ∧ 1 ≤ Lib.bitLen x := by
  induction x using Nat.strongRecOn with
  | _ x ih =>
    have e := Lib.bitLen_half x h0 (by omega)
    by_cases h2 : x / 2 = 0
    · have : x = 1 := by omega
      subst this
      exact ⟨by decide, by decide⟩
    · obtain ⟨i1, i2⟩ := ih (x / 2) (by omega) h2 (by omega)
      rw [e]
      refine ⟨?_, by omega⟩
      rw [show 1 + Lib.bitLen (x / 2) - 1 = (Lib.bitLen (x / 2) - 1) + 1 by omega, Nat.pow_succ, Nat.mul_comm, ← Nat.div_div_eq_div_mul]
      exact i1
theorem len_bits (m : R) (h : m ≠ 0#32) : 1 ≤ Lib.bitLen m.toNat ∧ Lib.bitLen m.toNat ≤ 32 ∧ m.getLsbD (Lib.bitLen m.toNat - 1) = true ∧ ∀ i, Lib.bitLen m.toNat ≤ i → m.getLsbD i = false := by
  have h0 : m.toNat ≠ 0 := fun e => h (BitVec.eq_of_toNat_eq e)
  obtain ⟨t1, t2⟩ := bitLen_top m.toNat h0 m.isLt
  have t3 := Lib.bitLen_le m.toNat 32 (by omega) m.isLt
  generalize Lib.bitLen m.toNat = L at t1 t2 t3
  refine ⟨t2, t3, ?_, fun i hi => ?_⟩
  · rw [BitVec.getLsbD, Nat.testBit_eq_decide_div_mod_eq, t1]; rfl
  · rw [BitVec.getLsbD, Nat.testBit_eq_decide_div_mod_eq]
    have e : i = (L - 1) + (i - (L - 1) - 1) + 1 := by omega
    rw [e, Nat.pow_succ, Nat.pow_add, Nat.mul_assoc, ← Nat.div_div_eq_div_mul, t1]
    have : 1 / (2 ^ (i - (L - 1) - 1) * 2) = 0 := Nat.div_eq_of_lt (by have := Nat.one_le_two_pow (n := i - (L - 1) - 1); omega)
    rw [this]; rfl
end Crc
end Go.Proofs.YtndninajnkejnaaDoor
