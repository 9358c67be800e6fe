/- Package crc's Burst, walked. -/
import Derived.Test.YtndninajnkejnaaDoorBurstWalk
import Derived.RegionTactic
import Derived.Test.YtndninajnkejnaaDoorCrcWalk1
namespace Go.Proofs.YtndninajnkejnaaDoor
open Go Go.RowKit
set_option linter.unusedVariables false
namespace Crc
theorem low1_u8 (y : B) : (bits .and .u8 (y.toNat : Int) 1 == 1) = y.getLsbD 0 := by
  have hb : y.getLsbD 0 = decide (y.toNat % 2 = 1) := by rw [BitVec.getLsbD, Nat.testBit_zero]
  rw [hb]
  have : ∀ n : Fin 256, (bits .and .u8 (n.val : Int) 1 == 1) = decide (n.val % 2 = 1) := by decide +kernel
  exact this ⟨y.toNat, y.isLt⟩
theorem ne0_u8 (x : B) : ((x.toNat : Int) != 0) = !decide (x = 0#8) := by
  by_cases h : x = 0#8
  · subst h; rfl
  · have : x.toNat ≠ 0 := fun e => h (BitVec.eq_of_toNat_eq e)
    simp [h]; omega
theorem dif_byte (l k : List B) (j i : Nat) (hi : i < 8) : difAt l k (8 * j + i) = ((l.getD j 0#8) ^^^ (k.getD j 0#8)).getLsbD i := by
  unfold difAt
  rw [show (8 * j + i) / 8 = j by omega, show (8 * j + i) % 8 = i by omega]
end Crc
set_option maxRecDepth 100000 in
set_option maxHeartbeats 2000000 in
theorem crc_burst (A : Nat → Addr) (a b : Option Addr) (n na m mb : Nat) (l k : List (BitVec 8)) (w : World) (h1 : RdB w a n na l) (h2 : RdB w b m mb k) (hE : Errs w [4, 5, 17] A) :
    Calls Tryd.prog 28 #[.slice a n na, .slice b m mb] w fun e w' => ∃ (p : Int) (s : BitVec 32) (c : Nat) (v : Value), e = .returned (.tuple #[.int .i64 p, .int .u32 (s.toNat : Int), v]) ∧ Crc.BurstIs l k n m p s c ∧ (v = if c = 0 then .nilIface else errv (A c)) ∧ Drew w w' := by
  have hn := h1.bound
  have H1 := Kp.mk h1
  have H2 := Kp.mk h2
  have HE := Kp.mk hE
  have E4 := hE.cell 4 (by simp)
  have E5 := hE.cell 5 (by simp)
  have E17 := hE.cell 17 (by simp)
  simp only [errVar] at E4 E5 E17
  clear h1 h2 hE
  by_cases hl : n = m
  · subst hl
    have hb : ((n : Int) != (n : Int)) = false := by simp
    obtain ⟨D, hD⟩ : ∃ D, D = Crc.difAt l k := ⟨_, rfl⟩
    have HD := Kp.mk hD
    clear hD
    go_enter Tryd.func28, Tryd.ntmps28
    go_wp2
    go_loopw [7, 8, 9, 10, 21] (fun f t _ _ i wr => ∃ (j : Nat) (fi ti : Int), j ≤ n ∧ i = .int .i64 j ∧ f = .int .i64 fi ∧ t = .int .i64 ti ∧ Kp (Crc.Isscan D (8 * j) fi ti) ∧ Kp (Drew w wr)) (fun _ _ _ _ i _ => n - (intOf i).toNat)
    case atStart => exact ⟨0, -1, -1, by omega, rfl, rfl, rfl, ⟨Crc.Isscan.zero D⟩, ⟨Drew.refl _⟩⟩
    case round =>
      obtain ⟨j, fi, ti, hj, rfl, rfl, rfl, HS, HW⟩ := hrel
      obtain ⟨nd, rfl⟩ := HW.out
      have hr := HS.out.range
      by_cases hlt : j < n
      · have hbt : decide ((j : Int) < (n : Int)) = true := decide_eq_true (by omega)
        obtain ⟨b1, o1, rfl, c1⟩ := H1.out.cells (by omega)
        obtain ⟨b2, o2, rfl, c2⟩ := H2.out.cells (by omega)
        have d1 := c1 j hlt
        have d2 := c2 j hlt
        obtain ⟨x, hx⟩ : ∃ x, x = l.getD j 0#8 := ⟨_, rfl⟩
        obtain ⟨y, hy⟩ : ∃ y, y = k.getD j 0#8 := ⟨_, rfl⟩
        rw [← hx] at d1
        rw [← hy] at d2
        obtain ⟨z, hz⟩ : ∃ z, z = x ^^^ y := ⟨_, rfl⟩
        have hxz := Crc.xor8 x y
        rw [← hz] at hxz
        have HZ : Kp (∀ i, i < 8 → D (8 * j + i) = z.getLsbD i) := ⟨fun i hi => by rw [HD.out, Crc.dif_byte l k j i hi, ← hx, ← hy, hz]⟩
        have hz0 := Crc.ne0_u8 z
        clear c1 c2 hx hy hz
        by_cases hzz : z = 0#8
        · have hzb : ((z.toNat : Int) != 0) = false := by rw [hz0]; simp [hzz]
          have HN := Kp.mk (Crc.byte_zero D j fi ti HS.out (fun i hi => by rw [HZ.out i hi, hzz]; simp))
          clear hz0 hzz
          go_wp2
          go_quiet (fail)
          go_wp2
          go_roundw
          case rel => exact ⟨j + 1, fi, ti, by omega, by go_num, rfl, rfl, HN, ⟨⟨_, rfl⟩⟩⟩
          case measure => simp [intOf]; omega
        · have hzb : ((z.toNat : Int) != 0) = true := by rw [hz0]; simp [hzz]
          have HN0 := Kp.mk (Crc.byte_some D j fi ti z hzz HS.out HZ.out)
          have T8 := fun w => bits_tz8 z w
          have L8 := fun w => bits_len8 z w
          have ht8 : Lib.trailingZeros8 z.toNat ≤ 8 := Lib.trailingZeros8_le8 ⟨z.toNat, z.isLt⟩
          have hl8 : Lib.bitLen z.toNat ≤ 8 := Lib.bitLen_le8 ⟨z.toNat, z.isLt⟩
          generalize Lib.trailingZeros8 z.toNat = tz at T8 HN0 ht8
          generalize Lib.bitLen z.toNat = bl at L8 HN0 hl8
          have KT := Kp.mk T8
          have KL := Kp.mk L8
          clear hz0 hzz T8 L8
          by_cases hf : fi < 0
          · have hfb : decide (fi < 0) = true := decide_eq_true hf
            have hh := HN0.out
            rw [if_pos hf] at hh
            have HN := Kp.mk hh
            clear hh hf
            go_wp2
            go_quiet (fail)
            go_wp2_with fail
            refine (KT.out _).mono ?_
            rintro e w1 ⟨rfl, rfl⟩
            go_wp2_with fail
            refine (KL.out _).mono ?_
            rintro e w2 ⟨rfl, rfl⟩
            go_wp2
            go_roundw
            case rel => exact ⟨j + 1, _, _, by omega, by go_num, rfl, rfl, HN, ⟨⟨_, rfl⟩⟩⟩
            case measure => simp [intOf]; omega
          · have hfb : decide (fi < 0) = false := decide_eq_false hf
            have hh := HN0.out
            rw [if_neg hf] at hh
            have HN := Kp.mk hh
            clear hh hf
            go_wp2
            go_quiet (fail)
            go_wp2_with fail
            refine (KL.out _).mono ?_
            rintro e w2 ⟨rfl, rfl⟩
            go_wp2
            go_roundw
            case rel => exact ⟨j + 1, _, _, by omega, by go_num, rfl, rfl, HN, ⟨⟨_, rfl⟩⟩⟩
            case measure => simp [intOf]; omega
      · have : j = n := by omega
        subst this
        have hbt : decide ((j : Int) < (j : Int)) = false := decide_eq_false (by omega)
        by_cases hf : fi < 0
        · have hfb : decide (fi < 0) = true := decide_eq_true hf
          have HF := Kp.mk hf
          clear hf
          go_wp2
          go_region
          all_goals (go_wp2; go_ret3; exact ⟨0, 0#32, 17, _, rfl, .inr ⟨rfl, fi, ti, HD.out ▸ HS.out, .inl ⟨HF.out, rfl, rfl, rfl⟩⟩, rfl, ⟨_, rfl⟩⟩)
        · have hfb : decide (fi < 0) = false := decide_eq_false hf
          have hp := HS.out.pos hf
          obtain ⟨p, rfl⟩ := Int.eq_ofNat_of_zero_le hp.1
          clear hf
          by_cases hw : 31 < ti - (p : Int)
          · have hwb : decide (31 < ti - (p : Int)) = true := decide_eq_true hw
            have HW2 := Kp.mk hw
            clear hw
            go_wp2
            go_region
            all_goals (go_wp2; go_ret3; exact ⟨0, 0#32, 4, _, rfl, .inr ⟨rfl, p, ti, HD.out ▸ HS.out, .inr (.inl ⟨by omega, by have := HW2.out; omega, rfl, rfl, rfl⟩)⟩, rfl, ⟨_, rfl⟩⟩)
          · have hwb : decide (31 < ti - (p : Int)) = false := decide_eq_false hw
            obtain ⟨L, hL⟩ : ∃ L : Nat, ti = (p : Int) + L := ⟨(ti - p).toNat, by omega⟩
            have hL31 : L ≤ 31 := by omega
            have hpL : p + L < 8 * j := by omega
            have HL := Kp.mk hL
            have ht1 : (p : Int) ≤ ti := by omega
            have ht2 : ti < 8 * (j : Int) := by omega
            clear hw hL hp hr
            obtain ⟨b1, o1, rfl, c1⟩ := H1.out.cells (by omega)
            obtain ⟨b2, o2, rfl, c2⟩ := H2.out.cells (by omega)
            have C1 := Kp.mk c1
            have C2 := Kp.mk c2
            clear c1 c2
            go_wp2
            go_loopw [11, 12] (fun s i wr => ∃ (r : Nat) (z : BitVec 32), r ≤ L + 1 ∧ i = .int .i64 ((p : Int) + (r : Int)) ∧ s = .int .u32 (z.toNat : Int) ∧ Kp (z = Crc.maskTo D p r) ∧ Kp (Drew w wr)) (fun _ i _ => p + L + 1 - (intOf i).toNat)
            case atStart => exact ⟨0, 0#32, by omega, by simp, rfl, ⟨rfl⟩, ⟨⟨_, rfl⟩⟩⟩
            case round =>
              obtain ⟨r, z, hr1, rfl, rfl, HZ, HW2⟩ := hrel
              obtain ⟨nd2, rfl⟩ := HW2.out
              by_cases hlt : r ≤ L
              · have hbt2 : decide ((p : Int) + (r : Int) ≤ ti) = true := decide_eq_true (by have := HL.out; omega)
                obtain ⟨i, hi⟩ : ∃ i : Nat, i = p + r := ⟨_, rfl⟩
                have hi2 : (p : Int) + (r : Int) = (i : Int) := by omega
                have hi3 : (i : Int) - (p : Int) = (r : Int) := by omega
                have hi4 : i / 8 < j := by omega
                have hbt3 : decide ((i : Int) ≤ ti) = true := decide_eq_true (by have := HL.out; omega)
                obtain ⟨t, ht⟩ : ∃ t, t = 1#32 <<< r := ⟨_, rfl⟩
                have h2r := one_shl r (by omega)
                rw [← ht] at h2r
                have hor := Crc.or32 z t
                obtain ⟨z2, hz2⟩ : ∃ z2, z2 = z ||| t := ⟨_, rfl⟩
                rw [← hz2] at hor
                have HM : Kp (Crc.maskTo D p (r + 1) = if D i then z2 else z) := ⟨by rw [hz2, ht, HZ.out, hi]; rfl⟩
                have HI := Kp.mk hi
                have d1 := C1.out (i / 8) hi4
                have d2 := C2.out (i / 8) hi4
                obtain ⟨x, hx⟩ : ∃ x, x = l.getD (i / 8) 0#8 := ⟨_, rfl⟩
                obtain ⟨y, hy⟩ : ∃ y, y = k.getD (i / 8) 0#8 := ⟨_, rfl⟩
                rw [← hx] at d1
                rw [← hy] at d2
                obtain ⟨v, hv⟩ : ∃ v, v = x ^^^ y := ⟨_, rfl⟩
                have hxv := Crc.xor8 x y
                rw [← hv] at hxv
                obtain ⟨u, hu⟩ : ∃ u, u = v >>> (i % 8) := ⟨_, rfl⟩
                have hsu : (v.toNat : Int) / 2 ^ (i % 8) = (u.toNat : Int) := by rw [hu, BitVec.toNat_ushiftRight, Nat.shiftRight_eq_div_pow]; simp
                have hlow := Crc.low1_u8 u
                have hdi : u.getLsbD 0 = D i := by rw [hu, BitVec.getLsbD_ushiftRight, Nat.add_zero, hv, hx, hy, HD.out]; rfl
                rw [hdi] at hlow
                have hul : (u.toNat : Int) < 256 := by have := u.isLt; omega
                clear hi ht hz2 hx hy hv hu hdi
                cases hd : D i with
                | false =>
                  rw [hd] at hlow
                  have hm := HM.out
                  rw [hd] at hm
                  have HMM := Kp.mk hm
                  clear hd hm
                  go_wp2
                  go_quiet (fail)
                  go_wp2
                  go_roundw
                  case rel => exact ⟨r + 1, z, by omega, ret_arg (by have := HI.out; omega), rfl, ⟨HMM.out.symm⟩, ⟨⟨_, rfl⟩⟩⟩
                  case measure => have := HI.out; simp [intOf]; omega
                | true =>
                  rw [hd] at hlow
                  have hm := HM.out
                  rw [hd] at hm
                  have HMM := Kp.mk hm
                  clear hd hm
                  go_wp2
                  go_quiet (fail)
                  go_wp2
                  go_roundw
                  case rel => exact ⟨r + 1, z2, by omega, ret_arg (by have := HI.out; omega), rfl, ⟨HMM.out.symm⟩, ⟨⟨_, rfl⟩⟩⟩
                  case measure => have := HI.out; simp [intOf]; omega
              · have : r = L + 1 := by omega
                subst this
                have hbt2 : decide ((p : Int) + ((L + 1 : Nat) : Int) ≤ ti) = false := decide_eq_false (by have := HL.out; omega)
                have hbt3 : decide ((p : Int) + ((L : Int) + 1) ≤ ti) = false := decide_eq_false (by have := HL.out; omega)
                go_wp2
                go_ret3
                refine ⟨p, z, 0, _, rfl, .inr ⟨rfl, p, ti, HD.out ▸ HS.out, .inr (.inr ⟨by omega, by have := HL.out; omega, rfl, ?_, rfl⟩)⟩, rfl, ⟨_, rfl⟩⟩
                rw [HZ.out, HD.out, show (ti - p + 1).toNat = L + 1 by have := HL.out; omega]
                rfl
  · have hb : ((n : Int) != (m : Int)) = true := by rw [bne_iff_ne]; omega
    have HL := Kp.mk hl
    clear hl
    go_enter Tryd.func28, Tryd.ntmps28
    go_wp2
    go_region
    all_goals (go_wp2; go_ret3; exact ⟨0, 0#32, 5, _, rfl, .inl ⟨HL.out, rfl, rfl, rfl⟩, rfl, Drew.once _⟩)
end Go.Proofs.YtndninajnkejnaaDoor
