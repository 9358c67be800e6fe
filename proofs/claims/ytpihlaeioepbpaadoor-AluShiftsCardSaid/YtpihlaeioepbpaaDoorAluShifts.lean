/- 'AluShifts', walked: shifts are powers of two, turns lose nothing. -/
import Derived.Test.YtpihlaeioepbpaaDoorAluWalk3
namespace Go.Proofs.YtpihlaeioepbpaaDoor
open Go Go.RowKit
set_option linter.unusedVariables false
namespace Alu
theorem shl_succ (x : R) (i : Nat) : (x <<< i) + (x <<< i) = x <<< (i + 1) := by
  apply BitVec.eq_of_toNat_eq
  rw [BitVec.toNat_add, BitVec.toNat_shiftLeft, BitVec.toNat_shiftLeft, Nat.shiftLeft_eq, Nat.shiftLeft_eq]
  have e : x.toNat * 2 ^ (i + 1) = x.toNat * 2 ^ i * 2 := by rw [Nat.pow_succ, Nat.mul_assoc]
  rw [e]
  omega
theorem shr_succ (x : R) (i : Nat) : (x >>> i) / 2#32 = x >>> (i + 1) := by
  apply BitVec.eq_of_toNat_eq
  rw [BitVec.toNat_udiv, BitVec.toNat_ushiftRight, BitVec.toNat_ushiftRight, Nat.shiftRight_eq_div_pow, Nat.shiftRight_eq_div_pow, Nat.pow_succ, ← Nat.div_div_eq_div_mul]
  rfl
theorem sar_succ (x : R) (i : Nat) : (x.sshiftRight i).sshiftRight 1 = x.sshiftRight (i + 1) := by
  rw [BitVec.sshiftRight_add]
theorem mul_one_shl (x : R) (i : Nat) : x * (1#32 <<< i) = x <<< i := by
  apply BitVec.eq_of_toNat_eq
  rw [BitVec.toNat_mul, BitVec.toNat_shiftLeft, BitVec.toNat_shiftLeft, Nat.shiftLeft_eq, Nat.shiftLeft_eq, Nat.mul_mod_mod]
  simp
theorem half_floor (s : Int) : (if s < 0 then (s - 1).tdiv 2 else s.tdiv 2) = s / 2 := by
  split
  · rename_i h
    have : (s - 1).tdiv 2 = -((1 - s).tdiv 2) := by rw [← Int.neg_tdiv]; congr 1; omega
    rw [this, Int.tdiv_eq_ediv_of_nonneg (by omega)]
    omega
  · rw [Int.tdiv_eq_ediv_of_nonneg (by omega)]
theorem sar_toInt (x : R) (i : Nat) : (x.sshiftRight (i + 1)).toInt = (x.sshiftRight i).toInt / 2 := by
  rw [BitVec.toInt_sshiftRight, BitVec.toInt_sshiftRight, Int.shiftRight_eq_div_pow, Int.shiftRight_eq_div_pow, Nat.pow_succ, Int.natCast_mul]
  exact (Int.ediv_ediv_of_nonneg (Int.natCast_nonneg _)).symm
theorem tmod_facts (m : Int) : -31 ≤ m.tmod 32 ∧ m.tmod 32 ≤ 31 ∧ (m - m.tmod 32) % 32 = 0 := by
  have h1 := Int.tmod_add_mul_tdiv m 32
  have h2 : (m.tmod 32).natAbs < 32 := by rw [Int.natAbs_tmod]; exact Nat.mod_lt _ (by decide)
  omega
end Alu

set_option maxHeartbeats 1000000 in
set_option maxRecDepth 100000 in
theorem law_AluShifts (x n : BitVec 32) (m : Int) (w : World) (m0 : -9223372036854775808 ≤ m) (m1 : m ≤ 9223372036854775807) :
    Calls Tryd.prog 5 #[.int .u32 (x.toNat : Int), .int .u32 (n.toNat : Int), .int .i64 m] w fun e w' => e = .returned (.bool true) ∧ Below w.heap.size w w' := by
  have n0 := Alu.ge0 n
  have n1 := Alu.lt32 n
  obtain ⟨k, hk⟩ : ∃ k : Nat, k = n.toNat % 32 := ⟨_, rfl⟩
  have hkn : (n.toNat : Int) % 32 = (k : Int) := by rw [hk]; omega
  have hk2 : k < 32 := by rw [hk]; omega
  have HK := Kp.mk hk
  have HKN := Kp.mk hkn
  clear hk hkn
  go_enter Tryd.func5, Tryd.ntmps5
  go_wp2_with fail
  refine (law_do_to 8 4294967293#32 1#32 4294967294#32 _ (by omega) (by omega) (by decide)).mono ?_
  rintro e w' ⟨rfl, rfl⟩
  rw [show (((4294967294#32 : BitVec 32).toNat : Nat) : Int) = 4294967294 from rfl]
  go_wp2_with fail
  refine (alu_rotate 2147483649#32 1 _ (by omega) (by omega)).mono ?_
  rintro e w' ⟨rfl, rfl⟩
  rw [show ((((2147483649#32 : BitVec 32).rotateLeft ((1 : Int) % 32).toNat).toNat : Nat) : Int) = 3 from rfl]
  go_wp2_with fail
  rw [HKN.out]
  go_loop [8, 9, 10, 11, 12] (fun l r a p j => ∃ i : Nat, i ≤ k ∧ j = .int .u32 i ∧ l = .int .u32 ((x <<< i).toNat : Int) ∧ r = .int .u32 ((x >>> i).toNat : Int) ∧ a = .int .u32 ((x.sshiftRight i).toNat : Int) ∧ p = .int .u32 ((1#32 <<< i).toNat : Int)) (fun _ _ _ _ j => k - (intOf j).toNat)
  case atStart => exact ⟨0, by omega, rfl, by rw [BitVec.shiftLeft_zero], by rw [BitVec.ushiftRight_zero], by rw [BitVec.sshiftRight_zero], rfl⟩
  case round =>
    obtain ⟨i, hi, rfl, rfl, rfl, rfl, rfl⟩ := hrel
    obtain ⟨l, hl⟩ : ∃ l, l = x <<< i := ⟨_, rfl⟩
    obtain ⟨r, hr⟩ : ∃ r, r = x >>> i := ⟨_, rfl⟩
    obtain ⟨a, ha⟩ : ∃ a, a = x.sshiftRight i := ⟨_, rfl⟩
    obtain ⟨p, hp⟩ : ∃ p, p = 1#32 <<< i := ⟨_, rfl⟩
    rw [← hl, ← hr, ← ha, ← hp]
    have HL := Kp.mk hl
    have HR := Kp.mk hr
    have HA := Kp.mk ha
    have HP := Kp.mk hp
    clear hl hr ha hp
    by_cases hlt : i < k
    · have hb : decide ((i : Int) < k) = true := decide_eq_true (by omega)
      go_wp2_with fail
      refine (law_do_to 10 r 2#32 (x >>> (i + 1)) _ (by omega) (by intros; decide) (by rw [HR.out, ← Alu.shr_succ]; rfl)).mono ?_
      rintro e w' ⟨rfl, rfl⟩
      go_wp2_with fail
      refine (law_do_to 8 a 1#32 (x.sshiftRight (i + 1)) _ (by omega) (by omega) (by rw [HA.out, ← Alu.sar_succ]; rfl)).mono ?_
      rintro e w' ⟨rfl, rfl⟩
      go_wp2_with fail
      go_round
      case rel =>
        refine ⟨i + 1, by omega, by go_num, ?_, rfl, rfl, ?_⟩
        · rw [Alu.add_int, HL.out, Alu.shl_succ]
        · rw [Alu.add_int, HP.out, Alu.shl_succ]
      case measure => simp [intOf]; omega
    · have : i = k := by omega
      subst this
      have D6 : (Alu.do_ 6 x n).1 = l := by rw [HL.out, HK.out]; rfl
      have D7 : (Alu.do_ 7 x n).1 = r := by rw [HR.out, HK.out]; rfl
      have D8 : (Alu.do_ 8 x n).1 = a := by rw [HA.out, HK.out]; rfl
      have D9 : (Alu.do_ 9 x p).1 = l := by rw [HL.out, HP.out]; exact Alu.mul_one_shl x i
      have K6 := Kp.mk D6
      have K7 := Kp.mk D7
      have K8 := Kp.mk D8
      have K9 := Kp.mk D9
      clear D6 D7 D8 D9
      go_wp2_with fail
      refine (law_do_to 6 x n l _ (by omega) (by omega) K6.out).mono ?_
      rintro e w' ⟨rfl, rfl⟩
      go_wp2_with fail
      refine (law_do_to 7 x n r _ (by omega) (by omega) K7.out).mono ?_
      rintro e w' ⟨rfl, rfl⟩
      go_wp2_with fail
      refine (law_do_to 8 x n a _ (by omega) (by omega) K8.out).mono ?_
      rintro e w' ⟨rfl, rfl⟩
      go_wp2_with fail
      refine (law_do_to 9 x p l _ (by omega) (by omega) K9.out).mono ?_
      rintro e w' ⟨rfl, rfl⟩
      go_wp2_with fail
      refine (alu_signed x _).mono ?_
      rintro e w' ⟨rfl, rfl⟩
      go_wp2_with fail
      go_loop [13, 14] (fun s j => ∃ t : Nat, t ≤ i ∧ j = .int .u32 t ∧ s = .int .i64 (x.sshiftRight t).toInt) (fun _ j => i - (intOf j).toNat)
      case atStart => exact ⟨0, by omega, rfl, by rw [BitVec.sshiftRight_zero]⟩
      case round =>
        obtain ⟨t, ht, rfl, rfl⟩ := hrel
        have hb1 := Alu.toInt_lo (x.sshiftRight t)
        have hb2 := Alu.toInt_hi (x.sshiftRight t)
        have hsucc := Alu.sar_toInt x t
        obtain ⟨s, hs⟩ : ∃ s, s = (x.sshiftRight t).toInt := ⟨_, rfl⟩
        rw [← hs] at hb1 hb2 hsucc ⊢
        have HS := Kp.mk hs
        have HSS := Kp.mk hsucc
        have HF := Kp.mk (Alu.half_floor s)
        clear hs hsucc
        by_cases htl : t < i
        · have hb : decide ((t : Int) < i) = true := decide_eq_true (by omega)
          by_cases hneg : s < 0
          · go_wp2
            go_round
            case rel =>
              have h1 := HF.out
              rw [if_pos hneg] at h1
              exact ⟨t + 1, by omega, by go_num, by rw [HSS.out, ← h1]⟩
            case measure => simp [intOf]; omega
          · go_wp2
            go_round
            case rel =>
              have h1 := HF.out
              rw [if_neg hneg] at h1
              exact ⟨t + 1, by omega, by go_num, by rw [HSS.out]⟩
            case measure => simp [intOf]; omega
        · have : t = i := by omega
          subst this
          have hfin : s = a.toInt := by rw [HS.out, HA.out]
          have KS0 := fun w => alu_signed a w
          rw [← hfin] at KS0
          have KS := Kp.mk KS0
          clear hfin KS0
          obtain ⟨r2, hr2⟩ : ∃ r2, r2 = m.tmod 32 := ⟨_, rfl⟩
          have htm : m.tmod 32 = r2 := hr2.symm
          obtain ⟨f1, f2, f3⟩ := Alu.tmod_facts m
          rw [htm] at f1 f2 f3
          obtain ⟨T, hT⟩ : ∃ T, T = x.rotateLeft (m % 32).toNat := ⟨_, rfl⟩
          have KT0 := fun w => alu_rotate x m w m0 m1
          have KB0 := fun w => alu_rotate T (-r2) w (by omega) (by omega)
          have KR0 := fun w => alu_rotate x r2 w (by omega) (by omega)
          have e1 : T.rotateLeft (-r2 % 32).toNat = x := by rw [hT]; exact Alu.rotate_back x _ _ (by omega)
          have e2 : x.rotateLeft (r2 % 32).toNat = T := by rw [hT, show r2 % 32 = m % 32 by omega]
          rw [← hT] at KT0
          rw [e1] at KB0
          rw [e2] at KR0
          have KO0 := fun w => alu_ones T w
          have KP0 := fun w => alu_ones x w
          rw [show Alu.ones T = Alu.ones x by rw [hT]; exact Alu.ones_rotate x _] at KO0
          obtain ⟨c, hc⟩ : ∃ c, c = Alu.ones x := ⟨_, rfl⟩
          rw [← hc] at KO0 KP0
          have KT := Kp.mk KT0
          have KB := Kp.mk KB0
          have KR := Kp.mk KR0
          have KO := Kp.mk KO0
          have KP := Kp.mk KP0
          have HRR := Kp.mk htm
          clear KT0 KB0 KR0 KO0 KP0 hc hT e1 e2 hr2 htm f3
          go_wp2_with fail
          refine (KS.out _).mono ?_
          rintro e w' ⟨rfl, rfl⟩
          go_wp2_with fail
          refine (KT.out _).mono ?_
          rintro e w' ⟨rfl, rfl⟩
          go_wp2_with fail
          refine (KO.out _).mono ?_
          rintro e w' ⟨rfl, n1, rfl⟩
          go_wp2_with fail
          refine (KP.out _).mono ?_
          rintro e w' ⟨rfl, n2, rfl⟩
          have htm := HRR.out
          go_wp2_with fail
          refine (KB.out _).mono ?_
          rintro e w' ⟨rfl, rfl⟩
          go_wp2_with fail
          refine (KR.out _).mono ?_
          rintro e w' ⟨rfl, rfl⟩
          clear htm
          by_cases hx0 : x = 0#32
          · have KL0 := fun w => alu_lead x w
            rw [show (32 - (Lib.bitLen x.toNat : Int)) = 32 by rw [hx0]; rfl] at KL0
            have KL := Kp.mk KL0
            have hz : ((x.toNat : Int) == 0) = true := by rw [hx0]; rfl
            clear KL0 hx0
            go_wp2_with fail
            refine (KL.out _).mono ?_
            rintro e w' ⟨rfl, rfl⟩
            go_wp2
            go_ret
            exact ⟨rfl, Drew.below ⟨_, rfl⟩⟩
          · have KL0 := fun w => alu_lead x w
            have hxn : x.toNat ≠ 0 := fun e => hx0 (BitVec.eq_of_toNat_eq e)
            obtain ⟨htop, hbl1⟩ := Alu.bitLen_top x.toNat hxn x.isLt
            have hbl2 := Lib.bitLen_le x.toNat 32 (by omega) x.isLt
            obtain ⟨bl, hbl⟩ : ∃ bl, bl = Lib.bitLen x.toNat := ⟨_, rfl⟩
            rw [← hbl] at KL0 htop hbl1 hbl2
            have KD0 := fun w => law_do_to 7 x (BitVec.ofNat 32 (bl - 1)) 1#32 w (by omega) (by omega) (by
              apply BitVec.eq_of_toNat_eq
              show (x >>> ((BitVec.ofNat 32 (bl - 1)).toNat % 32)).toNat = 1
              rw [BitVec.toNat_ofNat, Nat.mod_eq_of_lt (a := bl - 1) (by omega), Nat.mod_eq_of_lt (a := bl - 1) (by omega), BitVec.toNat_ushiftRight, Nat.shiftRight_eq_div_pow]
              exact htop)
            rw [show ((BitVec.ofNat 32 (bl - 1)).toNat : Int) = (bl : Int) - 1 by rw [BitVec.toNat_ofNat, Nat.mod_eq_of_lt (by omega)]; omega, show (((1#32 : BitVec 32).toNat : Nat) : Int) = 1 from rfl] at KD0
            have KL := Kp.mk KL0
            have KD := Kp.mk KD0
            have q1 : (32 - (bl : Int) == 32) = false := by rw [beq_eq_false_iff_ne]; omega
            have q2 : decide (32 - (bl : Int) < 32) = true := decide_eq_true (by omega)
            have q3 : 31 - (32 - (bl : Int)) = (bl : Int) - 1 := by omega
            clear KL0 KD0 hx0 hxn htop hbl
            go_wp2_with fail
            refine (KL.out _).mono ?_
            rintro e w' ⟨rfl, rfl⟩
            go_wp2_with fail
            refine (KL.out _).mono ?_
            rintro e w' ⟨rfl, rfl⟩
            go_wp2_with fail
            refine (KL.out _).mono ?_
            rintro e w' ⟨rfl, rfl⟩
            go_wp2_with fail
            refine (KD.out _).mono ?_
            rintro e w' ⟨rfl, rfl⟩
            go_wp2
            go_ret
            exact ⟨rfl, Drew.below ⟨_, rfl⟩⟩
end Go.Proofs.YtpihlaeioepbpaaDoor
