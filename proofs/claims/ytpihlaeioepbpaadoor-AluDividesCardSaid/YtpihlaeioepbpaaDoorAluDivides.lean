/- 'AluDivides', walked: quotient, divisor and rest, with and without signs. -/
import Derived.Test.YtpihlaeioepbpaaDoorAluDo
import Derived.Test.YtpihlaeioepbpaaDoorCodeWalk
namespace Go.Proofs.YtpihlaeioepbpaaDoor
open Go Go.RowKit
set_option linter.unusedVariables false
namespace Alu
theorem toInt_ofInt (z : Int) (h1 : -2147483648 ≤ z) (h2 : z < 2147483648) : (BitVec.ofInt 32 z).toInt = z := by
  rw [BitVec.toInt_ofInt, Int.bmod_eq_of_le] <;> simp only [Nat.reducePow] <;> omega
theorem rest_small (x y : Int) (h : y ≠ 0) : (x.tmod y).natAbs < y.natAbs := by
  rw [Int.natAbs_tmod]; exact Nat.mod_lt _ (by omega)
theorem rest_sign (x y : Int) : (0 ≤ x → 0 ≤ x.tmod y) ∧ (x ≤ 0 → x.tmod y ≤ 0) := by
  constructor
  · intro h; exact Int.tmod_nonneg _ h
  · intro h
    have := Int.tmod_nonneg y (a := -x) (by omega)
    rw [Int.neg_tmod] at this
    omega
theorem back_signed (b c : R) (hc : ¬ c = 0#32) : (do_ 11 b c).1 * c + (do_ 13 b c).1 = b := by
  · have e1 : (do_ 11 b c).1 = BitVec.ofInt 32 (b.toInt.tdiv c.toInt) := by simp [do_, hc]
    have e2 : (do_ 13 b c).1 = BitVec.ofInt 32 (b.toInt.tmod c.toInt) := by simp [do_, hc]
    rw [e1, e2]
    have h := Int.tdiv_mul_add_tmod b.toInt c.toInt
    have k : b = BitVec.ofInt 32 b.toInt := (BitVec.ofInt_toInt).symm
    have kc : c = BitVec.ofInt 32 c.toInt := (BitVec.ofInt_toInt).symm
    conv => lhs; rw [show (BitVec.ofInt 32 (b.toInt.tdiv c.toInt)) * c = BitVec.ofInt 32 (b.toInt.tdiv c.toInt) * BitVec.ofInt 32 c.toInt by rw [← kc]]
    rw [← BitVec.ofInt_mul, ← BitVec.ofInt_add, h, ← k]
end Alu
theorem alu_div_no (A : Nat → Addr) (k : Nat) (hk : k ≤ 3) (b c : BitVec 32) (w : World) (h : Errs w [20] A) (hc : c = 0#32) :
    Calls Tryd.prog 22 #[.int .i64 (10 + (k : Int)), .int .u32 (b.toNat : Int), .int .u32 (c.toNat : Int)] w fun e w' => e = .returned (.tuple #[.int .u32 0, errv (A 20)]) ∧ Drew w w' := by
  subst hc
  have : k = 0 ∨ k = 1 ∨ k = 2 ∨ k = 3 := by omega
  rcases this with rfl | rfl | rfl | rfl
  · exact alu_do_10_no A b w h
  · exact alu_do_11_no A b w h
  · exact alu_do_12_no A b w h
  · exact alu_do_13_no A b w h
theorem alu_div_ok (k : Nat) (hk : k ≤ 3) (b c : BitVec 32) (w : World) (hc : ¬ c = 0#32) :
    Calls Tryd.prog 22 #[.int .i64 (10 + (k : Int)), .int .u32 (b.toNat : Int), .int .u32 (c.toNat : Int)] w fun e w' => ∃ z : BitVec 32, e = .returned (.tuple #[.int .u32 (z.toNat : Int), .nilIface]) ∧ w = w' :=
  (alu_do_ok (10 + (k : Int)) b c w (by omega) (fun _ _ => hc)).mono (fun e w' ⟨h1, h2⟩ => ⟨_, h1, h2⟩)
theorem api_code20 {A : Nat → Addr} (w : World) (hE : Errs w allCodes A) :
    Calls Tryd.prog 23 #[errv (A 20)] w fun e w' => e = .returned (.int .i64 20) ∧ w' = w := api_code w hE 20 (by decide) (by decide)
set_option maxHeartbeats 1000000 in
set_option maxRecDepth 100000 in
theorem law_AluDivides (A : Nat → Addr) (b c : BitVec 32) (w : World) (hE : Errs w allCodes A) :
    Calls Tryd.prog 7 #[.int .u32 (b.toNat : Int), .int .u32 (c.toNat : Int)] w fun e w' => e = .returned (.bool true) ∧ Below w.heap.size w w' := by
  have HE := Kp.mk hE
  clear hE
  by_cases hc : c = 0#32
  · have hz : ((c.toNat : Int) == 0) = true := by rw [hc]; rfl
    have hz' : ((c.toNat : Int) != 0) = false := by rw [hc]; rfl
    have HC := Kp.mk hc
    clear hc
    go_enter Tryd.func7, Tryd.ntmps7
    go_wp2_with fail
    refine (alu_do_12 7#32 2#32 _ (by decide)).mono ?_
    rintro e w' ⟨rfl, rfl⟩
    have h1 : ((Alu.do_ 12 7#32 2#32).1.toNat : Int) = 1 := by decide
    rw [h1]
    clear h1
    go_wp2
    go_loopw [7, 8, 9] (fun i _ _ wr => ∃ k : Nat, k ≤ 4 ∧ i = .int .i64 (10 + (k : Int)) ∧ Kp (Drew w wr)) (fun i _ _ _ => 14 - (intOf i).toNat)
    case atStart => exact ⟨0, by omega, rfl, ⟨Drew.refl _⟩⟩
    case round =>
      obtain ⟨k, hk, rfl, HD⟩ := hrel
      obtain ⟨n, rfl⟩ := HD.out
      by_cases hlt : k < 4
      · have hb : decide (10 + (k : Int) ≤ 13) = true := decide_eq_true (by omega)
        go_wp2_with fail
        refine (alu_div_no A k (by omega) b c _ ((HE.out.later (Drew.below ⟨n, rfl⟩)).sub (by decide)) HC.out).mono ?_
        rintro e w' ⟨rfl, hd⟩
        have HD1 := Kp.mk (Drew.trans ⟨n, rfl⟩ hd)
        clear hd
        go_wp2_with fail
        refine (api_code20 (A := A) _ (HE.out.later HD1.out.below)).mono ?_
        rintro e w' ⟨rfl, rfl⟩
        go_wp2
        go_roundw
        case rel => exact ⟨k + 1, by omega, by go_num, HD1⟩
        case measure => simp [intOf]; omega
      · have hb : decide (10 + (k : Int) ≤ 13) = false := decide_eq_false (by omega)
        go_wp2
        go_ret
        exact ⟨rfl, HD.out.below⟩
  · have hz : ((c.toNat : Int) == 0) = false := by rw [Alu.zero_int]; simp [hc]
    have hz' : ((c.toNat : Int) != 0) = true := by simp only [bne, hz]; rfl
    obtain ⟨q, hq⟩ : ∃ q, q = (Alu.do_ 10 b c).1 := ⟨_, rfl⟩
    obtain ⟨r, hr⟩ : ∃ r, r = (Alu.do_ 12 b c).1 := ⟨_, rfl⟩
    obtain ⟨s, hs⟩ : ∃ s, s = (Alu.do_ 11 b c).1 := ⟨_, rfl⟩
    obtain ⟨t, ht⟩ : ∃ t, t = (Alu.do_ 13 b c).1 := ⟨_, rfl⟩
    obtain ⟨u, hu⟩ : ∃ u, u = s * c := ⟨_, rfl⟩
    obtain ⟨X, hX⟩ : ∃ X, X = b.toInt := ⟨_, rfl⟩
    obtain ⟨Y, hY⟩ : ∃ Y, Y = c.toInt := ⟨_, rfl⟩
    obtain ⟨Z, hZ⟩ : ∃ Z, Z = t.toInt := ⟨_, rfl⟩
    have D10 := fun w => law_do_to 10 b c q w (by omega) (fun _ _ => hc) hq.symm
    have D11 := fun w => law_do_to 11 b c s w (by omega) (fun _ _ => hc) hs.symm
    have D12 := fun w => law_do_to 12 b c r w (by omega) (fun _ _ => hc) hr.symm
    have D13 := fun w => law_do_to 13 b c t w (by omega) (fun _ _ => hc) ht.symm
    have S1 := fun w => alu_signed b w
    have S2 := fun w => alu_signed c w
    have S3 := fun w => alu_signed t w
    rw [← hX] at S1
    rw [← hY] at S2
    rw [← hZ] at S3
    have hc1 := Alu.pos_of_ne c hc
    have eq : q = b / c := by rw [hq]; simp [Alu.do_, hc]
    have er : r = b % c := by rw [hr]; simp [Alu.do_, hc]
    have hrc : (r.toNat : Int) < c.toNat := by rw [er, BitVec.toNat_umod]; have := Nat.mod_lt b.toNat (y := c.toNat) (by omega); omega
    obtain ⟨P, hP⟩ : ∃ P : Int, P = (q.toNat : Int) * (c.toNat : Int) := ⟨_, rfl⟩
    have hPb : P + (r.toNat : Int) = (b.toNat : Int) := by
      rw [hP, eq, er, BitVec.toNat_udiv, BitVec.toNat_umod, ← Int.natCast_mul, ← Int.natCast_add, Nat.div_add_mod']
    have b1 := Alu.lt32 b
    have r0 := Alu.ge0 r
    have P0 : 0 ≤ P := by rw [hP, ← Int.natCast_mul]; omega
    have hsc : ((s.toNat : Int) * c.toNat) % 4294967296 = (u.toNat : Int) := by rw [hu]; exact Alu.mul_int s c
    have hut : ((u.toNat : Int) + t.toNat) % 4294967296 = (b.toNat : Int) := by
      rw [Alu.add_int, hu, hs, ht, Alu.back_signed b c hc]
    have hY0 : Y ≠ 0 := by rw [hY]; exact Alu.toInt_ne c hc
    have hZt : Z = X.tmod Y := by
      have e2 : t = BitVec.ofInt 32 (X.tmod Y) := by rw [ht, hX, hY]; simp [Alu.do_, hc]
      have l1 := Alu.toInt_lo b
      have l2 := Alu.toInt_hi b
      have l3 := Alu.toInt_lo c
      have l4 := Alu.toInt_hi c
      have l5 := Alu.rest_small X Y hY0
      rw [hZ, e2, Alu.toInt_ofInt] <;> omega
    have hsm := Alu.rest_small X Y hY0
    have hsg := Alu.rest_sign X Y
    rw [← hZt] at hsm hsg
    have hYl : -2147483648 ≤ Y ∧ Y < 2147483648 := by rw [hY]; exact ⟨Alu.toInt_lo c, Alu.toInt_hi c⟩
    have hP' := hP.symm
    clear hP
    have hne : ((P + (r.toNat : Int)) != (b.toNat : Int)) = false := by rw [hPb]; simp
    have P1 : P < 4294967296 := by omega
    have P2 : P + (r.toNat : Int) < 4294967296 := by omega
    have hge : decide ((c.toNat : Int) ≤ (r.toNat : Int)) = false := decide_eq_false (by omega)
    have hrn : r.toNat < c.toNat := by omega
    have HSC := Kp.mk hsc
    have HUT := Kp.mk hut
    have HYL := Kp.mk hYl
    have HPB := Kp.mk hPb
    have HY0 := Kp.mk hY0
    clear hsc hut hYl hPb hY0 hc1 b1 hrc
    have KD10 := Kp.mk D10
    have KD11 := Kp.mk D11
    have KD12 := Kp.mk D12
    have KD13 := Kp.mk D13
    have KS1 := Kp.mk S1
    have KS2 := Kp.mk S2
    have KS3 := Kp.mk S3
    have HC := Kp.mk hc
    have HSM := Kp.mk hsm
    have HSG := Kp.mk hsg
    clear hq hr hs ht hu hX hY hZ D10 D11 D12 D13 S1 S2 S3 hc eq er hZt hsm hsg
    go_enter Tryd.func7, Tryd.ntmps7
    go_wp2_with fail
    refine (alu_do_12 7#32 2#32 _ (by decide)).mono ?_
    rintro e w' ⟨rfl, rfl⟩
    have h1 : ((Alu.do_ 12 7#32 2#32).1.toNat : Int) = 1 := by decide
    rw [h1]
    clear h1
    go_wp2
    go_loopw [7, 8, 9] (fun i _ _ wr => ∃ k : Nat, k ≤ 4 ∧ i = .int .i64 (10 + (k : Int)) ∧ wr = w) (fun i _ _ _ => 14 - (intOf i).toNat)
    case atStart => exact ⟨0, by omega, rfl, rfl⟩
    case round =>
      obtain ⟨k, hk, rfl, rfl⟩ := hrel
      by_cases hlt : k < 4
      · have hb : decide (10 + (k : Int) ≤ 13) = true := decide_eq_true (by omega)
        go_wp2_with fail
        refine (alu_div_ok k (by omega) b c _ HC.out).mono ?_
        rintro e w' ⟨z, rfl, rfl⟩
        go_wp2_with fail
        refine (api_code_nil _).mono ?_
        rintro e w' ⟨rfl, rfl⟩
        go_wp2
        go_roundw
        case rel => exact ⟨k + 1, by omega, by go_num, by first | trivial | rfl⟩
        case measure => simp [intOf]; omega
      · have hb : decide (10 + (k : Int) ≤ 13) = false := decide_eq_false (by omega)
        go_wp2_with fail
        refine (KD10.out _).mono ?_
        rintro e w' ⟨rfl, rfl⟩
        go_wp2_with fail
        refine (KD12.out _).mono ?_
        rintro e w' ⟨rfl, rfl⟩
        go_wp2_with fail
        refine (KD11.out _).mono ?_
        rintro e w' ⟨rfl, rfl⟩
        go_wp2_with fail
        refine (KD13.out _).mono ?_
        rintro e w' ⟨rfl, rfl⟩
        have hsc := HSC.out
        have hut := HUT.out
        go_wp2_with fail
        refine (KS1.out _).mono ?_
        rintro e w' ⟨rfl, rfl⟩
        go_wp2_with fail
        refine (KS2.out _).mono ?_
        rintro e w' ⟨rfl, rfl⟩
        go_wp2_with fail
        refine (KS3.out _).mono ?_
        rintro e w' ⟨rfl, rfl⟩
        clear hsc hut
        have hsm := HSM.out
        have hsg := HSG.out
        have hyl := HYL.out
        have hy0 := HY0.out
        have hc3 : Z = 0 ∨ (Z < 0 ∧ X < 0) ∨ (0 < Z ∧ 0 ≤ X) := by omega
        have hc2 : (Y < 0 ∧ Y < Z ∧ Z < -Y ∧ -2147483648 ≤ Y) ∨ (0 ≤ Y ∧ -Y < Z ∧ Z < Y ∧ Y < 2147483648) := by omega
        clear hsm hsg hyl hy0
        rcases hc3 with rfl | ⟨z1, x1⟩ | ⟨z1, x1⟩
        · rcases hc2 with ⟨y1, y2, y3, y4⟩ | ⟨y1, y2, y3, y4⟩ <;> (go_wp2; go_ret; exact ⟨ret_bool (by simp <;> omega), Below.refl _ _⟩)
        · have b1 : (Z != 0) = true := by rw [bne_iff_ne]; omega
          have b2 : decide (Z < 0) = true := decide_eq_true z1
          have b3 : decide (X < 0) = true := decide_eq_true x1
          rcases hc2 with ⟨y1, y2, y3, y4⟩ | ⟨y1, y2, y3, y4⟩ <;> (go_wp2; go_ret; exact ⟨ret_bool (by simp <;> omega), Below.refl _ _⟩)
        · have b1 : (Z != 0) = true := by rw [bne_iff_ne]; omega
          have b2 : decide (Z < 0) = false := decide_eq_false (by omega)
          have b3 : decide (X < 0) = false := decide_eq_false (by omega)
          rcases hc2 with ⟨y1, y2, y3, y4⟩ | ⟨y1, y2, y3, y4⟩ <;> (go_wp2; go_ret; exact ⟨ret_bool (by simp <;> omega), Below.refl _ _⟩)
end Go.Proofs.YtpihlaeioepbpaaDoor
