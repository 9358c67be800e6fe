/- The document's Burst and package crc's, walked. -/
import Derived.Test.YtndninajnkejnaaDoorBurstSpec
import Derived.Test.YtndninajnkejnaaDoorBytesWalk
import Derived.Test.YtndninajnkejnaaDoorLaid
import Derived.Lib.Small
import Derived.Deep.QuietTactic
import Derived.BigQuiet
namespace Go.Proofs.YtndninajnkejnaaDoor
open Go Go.RowKit
set_option linter.unusedVariables false
namespace Crc
def bitOf (l : List B) (i : Nat) : Int := if (l.getD (i / 8) 0#8).getLsbD (i % 8) then 1 else 0
theorem dif_bits (l k : List B) (i : Nat) : (bitOf l i != bitOf k i) = difAt l k i := by
  unfold bitOf difAt
  rw [BitVec.getLsbD_xor]
  cases (l.getD (i / 8) 0#8).getLsbD (i % 8) <;> cases (k.getD (i / 8) 0#8).getLsbD (i % 8) <;> rfl
theorem and1_i64 (y : B) : bits .and .i64 (y.toNat : Int) 1 = if y.getLsbD 0 then 1 else 0 := by
  have hb : y.getLsbD 0 = decide (y.toNat % 2 = 1) := by rw [BitVec.getLsbD, Nat.testBit_zero]
  rw [hb]
  have : ∀ n : Fin 256, bits .and .i64 (n.val : Int) 1 = if decide (n.val % 2 = 1) = true then 1 else 0 := by decide +kernel
  exact this ⟨y.toNat, y.isLt⟩
end Crc
set_option maxRecDepth 100000 in
theorem ref_bit (a : Option Addr) (n cap : Nat) (l : List (BitVec 8)) (i : Nat) (v : Int) (w : World) (h : RdB w a n cap l) (hi : i < 8 * n) (hv : Crc.bitOf l i = v) :
    Calls Tryd.prog 49 #[.slice a n cap, .int .i64 (i : Int)] w fun e w' => e = .returned (.int .i64 v) ∧ w' = w := by
  have hb := h.bound
  obtain ⟨b, off, rfl, hc⟩ := h.cells (by omega)
  have hj : i / 8 < n := by omega
  have hcell := hc (i / 8) hj
  obtain ⟨c, hcc⟩ : ∃ c, c = l.getD (i / 8) 0#8 := ⟨_, rfl⟩
  rw [← hcc] at hcell
  obtain ⟨y, hy⟩ : ∃ y, y = c >>> (i % 8) := ⟨_, rfl⟩
  have hs : (c.toNat : Int) / 2 ^ (i % 8) = (y.toNat : Int) := by rw [hy, BitVec.toNat_ushiftRight, Nat.shiftRight_eq_div_pow]; simp
  have hx := Crc.and1_i64 y
  have he : (if y.getLsbD 0 then (1 : Int) else 0) = v := by rw [hy, BitVec.getLsbD_ushiftRight, Nat.add_zero, hcc]; exact hv
  rw [he] at hx
  have hyl : (y.toNat : Int) < 256 := by have := y.isLt; omega
  clear hc h hv hcc he hy
  go_enter Tryd.func49, Tryd.ntmps49
  go_wp2
  go_ret
  exact ⟨rfl, rfl⟩
set_option maxRecDepth 100000 in
theorem bits_tz8 (x : BitVec 8) (w : World) :
    Calls Tryd.prog 47 #[.int .u8 (x.toNat : Int)] w fun e w' => e = .returned (.int .i64 (Lib.trailingZeros8 x.toNat : Int)) ∧ w' = w := by
  have b0 : 0 ≤ (x.toNat : Int) := by omega
  have b1 : (x.toNat : Int) ≤ 255 := by have := x.isLt; omega
  go_enter Tryd.func47, Tryd.ntmps47
  go_wp2
  go_ret
  exact ⟨ret_int (by simp only [wrap64]; exact Lib.ntz8_int _ b0 b1), rfl⟩
set_option maxRecDepth 100000 in
theorem bits_len8 (x : BitVec 8) (w : World) :
    Calls Tryd.prog 48 #[.int .u8 (x.toNat : Int)] w fun e w' => e = .returned (.int .i64 (Lib.bitLen x.toNat : Int)) ∧ w' = w := by
  have b0 : 0 ≤ (x.toNat : Int) := by omega
  have b1 : (x.toNat : Int) ≤ 255 := by have := x.isLt; omega
  go_enter Tryd.func48, Tryd.ntmps48
  go_wp2
  go_ret
  exact ⟨ret_int (by simp only [wrap64]; exact Lib.len8_int _ b0 b1), rfl⟩
theorem ret_arg {k : IntKind} {a b : Int} (h : a = b) : Value.int k a = .int k b := by rw [h]
/-- 1 shifted, as the walk has it. -/
theorem one_shl (j : Nat) (hj : j ≤ 31) : (2 : Int) ^ j = ((1#32 <<< j).toNat : Int) := by
  rw [BitVec.toNat_shiftLeft, Nat.shiftLeft_eq]
  have h1 : 2 ^ j ≤ 2 ^ 31 := Nat.pow_le_pow_right (by omega) hj
  have : ((2 : Int) ^ j) = ((2 ^ j : Nat) : Int) := by simp
  rw [this]
  have e : (1#32).toNat * 2 ^ j % 2 ^ 32 = 2 ^ j := by rw [show (1#32).toNat = 1 from rfl, Nat.one_mul]; exact Nat.mod_eq_of_lt (by omega)
  rw [e]
set_option maxRecDepth 100000 in
set_option maxHeartbeats 1000000 in
theorem ref_burst (a b : Option Addr) (n na m mb : Nat) (l k : List (BitVec 8)) (w : World) (h1 : RdB w a n na l) (h2 : RdB w b m mb k) :
    Calls Tryd.prog 29 #[.slice a n na, .slice b m mb] w fun e w' => ∃ (p : Int) (s : BitVec 32) (c : Nat), e = .returned (.tuple #[.int .i64 p, .int .u32 (s.toNat : Int), .int .i64 (c : Int)]) ∧ Crc.BurstIs l k n m p s c ∧ w' = w := by
  have hn := h1.bound
  have H1 := Kp.mk h1
  have H2 := Kp.mk h2
  clear h1 h2
  by_cases hl : n = m
  · subst hl
    have hb : ((n : Int) != (n : Int)) = false := by simp
    obtain ⟨D, hD⟩ : ∃ D, D = Crc.difAt l k := ⟨_, rfl⟩
    have HD := Kp.mk hD
    clear hD
    go_enter Tryd.func29, Tryd.ntmps29
    go_wp2
    go_loop [7, 8, 9] (fun f t i => ∃ (j : Nat) (fi ti : Int), j ≤ 8 * n ∧ i = .int .i64 j ∧ f = .int .i64 fi ∧ t = .int .i64 ti ∧ Kp (Crc.Isscan D j fi ti)) (fun _ _ i => 8 * n - (intOf i).toNat)
    case atStart => exact ⟨0, -1, -1, by omega, rfl, rfl, rfl, ⟨Crc.Isscan.zero D⟩⟩
    case round =>
      obtain ⟨j, fi, ti, hj, rfl, rfl, rfl, HS⟩ := hrel
      have hr := HS.out.range
      by_cases hlt : j < 8 * n
      · have hbt : decide ((j : Int) < 8 * (n : Int)) = true := decide_eq_true (by omega)
        obtain ⟨x, hx⟩ : ∃ x, Crc.bitOf l j = x := ⟨_, rfl⟩
        obtain ⟨y, hy⟩ : ∃ y, Crc.bitOf k j = y := ⟨_, rfl⟩
        have hxy := Crc.dif_bits l k j
        rw [hx, hy, ← HD.out] at hxy
        have HX := Kp.mk hx
        have HY := Kp.mk hy
        clear hx hy
        go_wp2_with fail
        refine (ref_bit a n na l j x _ H1.out hlt HX.out).mono ?_
        rintro e w1 ⟨rfl, rfl⟩
        go_wp2_with fail
        refine (ref_bit b n mb k j y _ H2.out hlt HY.out).mono ?_
        rintro e w2 ⟨rfl, rfl⟩
        cases hd : D j with
        | false =>
          rw [hd] at hxy
          have HDJ := Kp.mk hd
          clear hd
          go_wp2
          go_round
          case rel => exact ⟨j + 1, fi, ti, by omega, by go_num, rfl, rfl, ⟨HS.out.no HDJ.out⟩⟩
          case measure => simp [intOf]; omega
        | true =>
          rw [hd] at hxy
          have HY1 := Kp.mk (HS.out.yes hd)
          clear hd
          by_cases hf : fi < 0
          · have hfb : decide (fi < 0) = true := decide_eq_true hf
            have hy1 := HY1.out
            rw [if_pos hf] at hy1
            have HY2 := Kp.mk hy1
            clear hy1 hf
            go_wp2
            go_round
            case rel => exact ⟨j + 1, _, _, by omega, by go_num, rfl, rfl, HY2⟩
            case measure => simp [intOf]; omega
          · have hfb : decide (fi < 0) = false := decide_eq_false hf
            have hy1 := HY1.out
            rw [if_neg hf] at hy1
            have HY2 := Kp.mk hy1
            clear hy1 hf
            go_wp2
            go_round
            case rel => exact ⟨j + 1, _, _, by omega, by go_num, rfl, rfl, HY2⟩
            case measure => simp [intOf]; omega
      · have : j = 8 * n := by omega
        subst this
        have hbt : decide (((8 * n : Nat) : Int) < 8 * (n : Int)) = false := decide_eq_false (by omega)
        by_cases hf : fi < 0
        · have hfb : decide (fi < 0) = true := decide_eq_true hf
          have HF := Kp.mk hf
          clear hf
          go_wp2
          go_ret3
          exact ⟨0, 0#32, 17, rfl, .inr ⟨rfl, fi, ti, HD.out ▸ HS.out, .inl ⟨HF.out, rfl, rfl, rfl⟩⟩, rfl⟩
        · have hfb : decide (fi < 0) = false := decide_eq_false hf
          have hp := HS.out.pos hf
          obtain ⟨p, rfl⟩ := Int.eq_ofNat_of_zero_le hp.1
          obtain ⟨q, rfl⟩ := Int.eq_ofNat_of_zero_le (show 0 ≤ ti by omega)
          have HF := Kp.mk hf
          clear hf
          by_cases hw : 31 < (q : Int) - (p : Int)
          · have hwb : decide (31 < (q : Int) - (p : Int)) = true := decide_eq_true hw
            have HW := Kp.mk hw
            clear hw
            go_wp2
            go_ret3
            exact ⟨0, 0#32, 4, rfl, .inr ⟨rfl, p, q, HD.out ▸ HS.out, .inr (.inl ⟨by omega, by have := HW.out; omega, rfl, rfl, rfl⟩)⟩, rfl⟩
          · have hwb : decide (31 < (q : Int) - (p : Int)) = false := decide_eq_false hw
            have HW := Kp.mk hw
            obtain ⟨L, hL⟩ : ∃ L : Nat, q = p + L := ⟨q - p, by omega⟩
            subst hL
            have hL31 : L ≤ 31 := by omega
            clear hw
            go_wp2
            go_loop [10, 11] (fun s i => ∃ (r : Nat) (z : BitVec 32), r ≤ L + 1 ∧ i = .int .i64 ((p : Int) + (r : Int)) ∧ s = .int .u32 (z.toNat : Int) ∧ Kp (z = Crc.maskTo D p r)) (fun _ i => p + L + 1 - (intOf i).toNat)
            case atStart => exact ⟨0, 0#32, by omega, by simp, rfl, ⟨rfl⟩⟩
            case round =>
              obtain ⟨r, z, hr1, rfl, rfl, HZ⟩ := hrel
              by_cases hlt : r ≤ L
              · have hbt2 : decide ((p : Int) + (r : Int) ≤ (p : Int) + (L : Int)) = true := decide_eq_true (by omega)
                obtain ⟨x, hx⟩ : ∃ x, Crc.bitOf l (p + r) = x := ⟨_, rfl⟩
                obtain ⟨y, hy⟩ : ∃ y, Crc.bitOf k (p + r) = y := ⟨_, rfl⟩
                have hxy := Crc.dif_bits l k (p + r)
                rw [hx, hy, ← HD.out] at hxy
                have HX := Kp.mk hx
                have HY := Kp.mk hy
                clear hx hy
                obtain ⟨i, hi⟩ : ∃ i : Nat, i = p + r := ⟨_, rfl⟩
                have hi2 : (p : Int) + (r : Int) = (i : Int) := by omega
                have hi3 : (i : Int) - (p : Int) = (r : Int) := by omega
                have hi4 : i < 8 * n := by omega
                rw [← hi] at hxy HX HY
                obtain ⟨t, ht⟩ : ∃ t, t = 1#32 <<< r := ⟨_, rfl⟩
                have h2r := one_shl r (by omega)
                rw [← ht] at h2r
                have hor := Crc.or32 z t
                obtain ⟨z2, hz2⟩ : ∃ z2, z2 = z ||| t := ⟨_, rfl⟩
                rw [← hz2] at hor
                have HM : Kp (Crc.maskTo D p (r + 1) = if D i then z2 else z) := ⟨by rw [hz2, ht, HZ.out, hi]; rfl⟩
                have HI := Kp.mk hi
                clear hi ht hz2
                go_wp2_with fail
                refine (ref_bit a n na l i x _ H1.out hi4 HX.out).mono ?_
                rintro e w1 ⟨rfl, rfl⟩
                go_wp2_with fail
                refine (ref_bit b n mb k i y _ H2.out hi4 HY.out).mono ?_
                rintro e w2 ⟨rfl, rfl⟩
                cases hd : D i with
                | false =>
                  rw [hd] at hxy
                  have hm := HM.out
                  rw [hd] at hm
                  have HMM := Kp.mk hm
                  clear hd hm
                  go_wp2
                  go_round
                  case rel => exact ⟨r + 1, z, by omega, ret_arg (by have := HI.out; omega), rfl, ⟨HMM.out.symm⟩⟩
                  case measure => have := HI.out; simp [intOf]; omega
                | true =>
                  rw [hd] at hxy
                  have hm := HM.out
                  rw [hd] at hm
                  have HMM := Kp.mk hm
                  clear hd hm
                  go_wp2
                  go_round
                  case rel => exact ⟨r + 1, z2, by omega, ret_arg (by have := HI.out; omega), rfl, ⟨HMM.out.symm⟩⟩
                  case measure => have := HI.out; simp [intOf]; omega
              · have : r = L + 1 := by omega
                subst this
                have hbt2 : decide ((p : Int) + ((L + 1 : Nat) : Int) ≤ (p : Int) + (L : Int)) = false := decide_eq_false (by omega)
                go_wp2
                go_ret3
                refine ⟨p, z, 0, rfl, .inr ⟨rfl, p, p + L, HD.out ▸ HS.out, .inr (.inr ⟨by omega, by omega, rfl, ?_, rfl⟩)⟩, rfl⟩
                rw [HZ.out, HD.out, show ((p : Int) + L - p + 1).toNat = L + 1 by omega]
                rfl
  · have hb : ((n : Int) != (m : Int)) = true := by rw [bne_iff_ne]; omega
    have HL := Kp.mk hl
    clear hl
    go_enter Tryd.func29, Tryd.ntmps29
    go_wp2
    go_ret3
    exact ⟨0, 0#32, 5, rfl, .inl ⟨HL.out, rfl, rfl, rfl⟩, rfl⟩
end Go.Proofs.YtndninajnkejnaaDoor
