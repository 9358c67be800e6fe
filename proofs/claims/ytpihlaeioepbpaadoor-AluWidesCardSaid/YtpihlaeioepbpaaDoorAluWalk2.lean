/- math/bits' counts of a word of 32 bits, walked; package alu's Rotate, Ones, Lead. -/
import Derived.Test.YtpihlaeioepbpaaDoorAluDo
import Derived.Lib.Strings
import Derived.Lib.Slices
import Derived.Lib.Small
import Derived.Lib.Walk
import Derived.Lib.BitFns
import Derived.Deep.QuietTactic
import Derived.BigQuiet
namespace Go.Proofs.YtpihlaeioepbpaaDoor
open Go Go.RowKit
set_option linter.unusedVariables false

theorem and255 (x : Int) (h0 : 0 ≤ x) (h1 : x < 4294967296) : bits .and .u32 x 255 = x % 256 := by
  rw [u32_and x 255 h0 h1 (by omega) (by omega)]
  have : (255 : Int).toNat = 2 ^ 8 - 1 := rfl
  rw [this, Nat.and_two_pow_sub_one_eq_mod]; omega
set_option maxHeartbeats 1000000 in
set_option maxRecDepth 100000 in
theorem bits_ones (x : Int) (w : World) (h0 : 0 ≤ x) (h1 : x < 4294967296) :
    Calls Tryd.prog 46 #[.int .u32 x] w fun e w' => e = .returned (.int .i64 ((Lib.onesCount (x / 16777216).toNat + Lib.onesCount (x / 65536 % 256).toNat + Lib.onesCount (x / 256 % 256).toNat + Lib.onesCount (x % 256).toNat : Nat) : Int)) ∧ Drew w w' := by
  have h24 : 0 ≤ x / 16777216 := by omega
  have h25 : x / 16777216 ≤ 255 := by omega
  have e1 := and255 (x / 65536) (by omega) (by omega)
  have e2 := and255 (x / 256) (by omega) (by omega)
  have e3 := and255 x (by omega) (by omega)
  have p0 : ∀ b : Int, 0 ≤ b → b ≤ 255 → Lib.pop8 b = (Lib.onesCount b.toNat : Int) ∧ Lib.onesCount b.toNat ≤ 8 := fun b h0 h1 => by
    have e := Lib.pop8_eq ⟨b.toNat, by omega⟩
    have l := Lib.onesCount_le8 ⟨b.toNat, by omega⟩
    simp only [Int.toNat_of_nonneg h0] at e
    exact ⟨e, l⟩
  have q1 := p0 (x / 16777216) h24 h25
  have q2 := p0 (x / 65536 % 256) (by omega) (by omega)
  have q3 := p0 (x / 256 % 256) (by omega) (by omega)
  have q4 := p0 (x % 256) (by omega) (by omega)
  have HQ := Kp.mk (And.intro q1 (And.intro q2 (And.intro q3 q4)))
  clear p0 q1 q2 q3 q4
  go_enter Tryd.func46, Tryd.ntmps46
  go_wp2
  go_quiet (fail)
  go_wp2
  go_ret
  refine ⟨ret_int ?_, ⟨_, rfl⟩⟩
  obtain ⟨⟨q1, l1⟩, ⟨q2, l2⟩, ⟨q3, l3⟩, ⟨q4, l4⟩⟩ := HQ.out
  rw [q1, q2, q3, q4]
  omega

theorem len8_small (x : Int) (h0 : 0 ≤ x) (h1 : x ≤ 255) : Lib.len8 x = (Lib.bitLen x.toNat : Int) ∧ Lib.bitLen x.toNat ≤ 8 := ⟨Lib.len8_of x h0 h1, Lib.bitLen_le8' x h0 h1⟩
set_option maxHeartbeats 4000000 in
set_option maxRecDepth 100000 in
theorem bits_len (x : Int) (w : World) (h0 : 0 ≤ x) (h1 : x < 4294967296) :
    Calls Tryd.prog 68 #[.int .u32 x] w fun e w' => e = .returned (.int .i64 (Lib.bitLen x.toNat : Int)) ∧ w = w' := by
  by_cases c1 : x < 256
  · have n1 : decide (65536 ≤ x) = false := decide_eq_false (by omega)
    have n2 : decide (256 ≤ x) = false := decide_eq_false (by omega)
    have b1 : x ≤ 255 := by omega
    have HQ := Kp.mk (len8_small x h0 b1)
    go_enter Tryd.func68, Tryd.ntmps68
    go_wp2
    go_ret
    refine ⟨ret_int ?_, rfl⟩
    obtain ⟨q, l⟩ := HQ.out
    rw [q]; simp only [wrap64]; omega
  · by_cases c2 : x < 65536
    · have n1 : decide (65536 ≤ x) = false := decide_eq_false (by omega)
      have n2 : decide (256 ≤ x) = true := decide_eq_true (by omega)
      have b0 : 0 ≤ x / 256 := by omega
      have b1 : x / 256 ≤ 255 := by omega
      have HQ := Kp.mk (len8_small (x / 256) b0 b1)
      go_enter Tryd.func68, Tryd.ntmps68
      go_wp2
      go_ret
      refine ⟨ret_int ?_, rfl⟩
      obtain ⟨q, l⟩ := HQ.out
      have s := Lib.bitLen_shift8 x.toNat (by omega) (by omega)
      rw [show (x / 256).toNat = x.toNat / 256 by omega] at q l
      rw [q]; simp only [wrap64]; omega
    · by_cases c3 : x < 16777216
      · have n1 : decide (65536 ≤ x) = true := decide_eq_true (by omega)
        have n2 : decide (256 ≤ x / 65536) = false := decide_eq_false (by omega)
        have b0 : 0 ≤ x / 65536 := by omega
        have b1 : x / 65536 ≤ 255 := by omega
        have HQ := Kp.mk (len8_small (x / 65536) b0 b1)
        go_enter Tryd.func68, Tryd.ntmps68
        go_wp2
        go_ret
        refine ⟨ret_int ?_, rfl⟩
        obtain ⟨q, l⟩ := HQ.out
        have s := Lib.bitLen_shift16 x.toNat (by omega) (by omega)
        rw [show (x / 65536).toNat = x.toNat / 65536 by omega] at q l
        rw [q]; simp only [wrap64]; omega
      · have n1 : decide (65536 ≤ x) = true := decide_eq_true (by omega)
        have n2 : decide (256 ≤ x / 65536) = true := decide_eq_true (by omega)
        have b0 : 0 ≤ x / 65536 / 256 := by omega
        have b1 : x / 65536 / 256 ≤ 255 := by omega
        have HQ := Kp.mk (len8_small (x / 65536 / 256) b0 b1)
        go_enter Tryd.func68, Tryd.ntmps68
        go_wp2
        go_ret
        refine ⟨ret_int ?_, rfl⟩
        obtain ⟨q, l⟩ := HQ.out
        have s := Lib.bitLen_shift24 x.toNat (by omega) (by omega)
        rw [show (x / 65536 / 256).toNat = x.toNat / 16777216 by omega] at q l
        rw [q]; simp only [wrap64]; omega
theorem bits_lead (x : Int) (w : World) (h0 : 0 ≤ x) (h1 : x < 4294967296) :
    Calls Tryd.prog 47 #[.int .u32 x] w fun e w' => e = .returned (.int .i64 (32 - (Lib.bitLen x.toNat : Int))) ∧ w = w' := by
  have K0 := bits_len x w h0 h1
  have l := Lib.bitLen_le x.toNat 32 (by omega) (by omega)
  obtain ⟨n, hn⟩ : ∃ n, n = Lib.bitLen x.toNat := ⟨_, rfl⟩
  rw [← hn] at K0 l ⊢
  have K := Kp.mk K0
  clear K0
  clear hn
  go_enter Tryd.func47, Tryd.ntmps47
  go_wp2_with (go_at_call 68; refine K.out.mono ?_; rintro e w' ⟨rfl, rfl⟩)
  go_ret
  exact ⟨rfl, rfl⟩
theorem alu_lead (x : BitVec 32) (w : World) :
    Calls Tryd.prog 17 #[.int .u32 (x.toNat : Int)] w fun e w' => e = .returned (.int .i64 (32 - (Lib.bitLen x.toNat : Int))) ∧ w = w' := by
  have K := Kp.mk (bits_lead (x.toNat : Int) w (Alu.ge0 x) (Alu.lt32 x))
  rw [Int.toNat_natCast] at K
  go_enter Tryd.func17, Tryd.ntmps17
  go_wp2_with (go_at_call 47; refine K.out.mono ?_; rintro e w' ⟨rfl, rfl⟩)
  go_ret
  exact ⟨rfl, rfl⟩
end Go.Proofs.YtpihlaeioepbpaaDoor
