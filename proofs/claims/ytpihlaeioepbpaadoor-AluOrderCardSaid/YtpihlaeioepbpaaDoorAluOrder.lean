/- 'AluOrder', walked: the tests and the comparing operations are two orders. -/
import Derived.Test.YtpihlaeioepbpaaDoorAluTest
namespace Go.Proofs.YtpihlaeioepbpaaDoor
open Go Go.RowKit
set_option linter.unusedVariables false

set_option maxHeartbeats 1000000 in
set_option maxRecDepth 100000 in
theorem law_AluOrder (a b : BitVec 32) (w : World) :
    Calls Tryd.prog 4 #[.int .u32 (a.toNat : Int), .int .u32 (b.toNat : Int)] w fun e w' => e = .returned (.bool true) ∧ Below w.heap.size w w' := by
  obtain ⟨x, hx⟩ : ∃ x, x = a.toInt := ⟨_, rfl⟩
  obtain ⟨y, hy⟩ : ∃ y, y = b.toInt := ⟨_, rfl⟩
  have S1 := fun w => alu_signed a w
  have S2 := fun w => alu_signed b w
  rw [← hx] at S1
  rw [← hy] at S2
  have K1 := Kp.mk S1
  have K2 := Kp.mk S2
  have e1 : ((b.toNat : Int) == (a.toNat : Int)) = ((a.toNat : Int) == (b.toNat : Int)) := by rw [Bool.eq_iff_iff]; simp only [beq_iff_eq]; omega
  have e2 : ((b.toNat : Int) != (a.toNat : Int)) = ((a.toNat : Int) != (b.toNat : Int)) := by rw [Bool.eq_iff_iff]; simp only [bne_iff_ne]; omega
  have T1 := fun w => alu_test_48 b a w
  have T2 := fun w => alu_test_49 b a w
  rw [e1] at T1
  rw [e2] at T2
  have KT1 := Kp.mk T1
  have KT2 := Kp.mk T2
  clear T1 T2 e1 e2
  have HX := Kp.mk hx
  have HY := Kp.mk hy
  clear S1 S2 hx hy
  go_enter Tryd.func4, Tryd.ntmps4
  go_wp2_with fail
  refine (alu_test_51 4294967295#32 0#32 (-1) 0 (by decide) (by decide) _).mono ?_
  rintro e w' ⟨rfl, rfl⟩
  go_wp2_with fail
  refine (law_do_to 14 0#32 4294967295#32 1#32 _ (by omega) (by omega) rfl).mono ?_
  rintro e w' ⟨rfl, rfl⟩
  go_wp2_with fail
  go_loop [7, 8, 9, 10, 11, 12, 13] (fun i _ _ _ _ _ _ => ∃ k : Nat, k ≤ 6 ∧ i = .int .i64 (48 + k)) (fun i _ _ _ _ _ _ => 54 - (intOf i).toNat)
  case atStart => exact ⟨0, by omega, rfl⟩
  case round =>
    obtain ⟨k, hk, rfl⟩ := hrel
    have : k = 0 ∨ k = 1 ∨ k = 2 ∨ k = 3 ∨ k = 4 ∨ k = 5 ∨ k = 6 := by omega
    rcases this with rfl | rfl | rfl | rfl | rfl | rfl | rfl
    · go_wp2_with fail
      refine (alu_test_48 a b _).mono ?_
      rintro e w' ⟨rfl, rfl⟩
      go_wp2_with fail
      refine (KT1.out _).mono ?_
      rintro e w' ⟨rfl, rfl⟩
      go_wp2
      go_round
      case rel => exact ⟨1, by omega, by go_num⟩
      case measure => simp [intOf]
    · go_wp2_with fail
      refine (alu_test_49 a b _).mono ?_
      rintro e w' ⟨rfl, rfl⟩
      go_wp2_with fail
      refine (KT2.out _).mono ?_
      rintro e w' ⟨rfl, rfl⟩
      go_wp2
      go_round
      case rel => exact ⟨2, by omega, by go_num⟩
      case measure => simp [intOf]
    · go_wp2_with fail
      refine (alu_test_50 a b _).mono ?_
      rintro e w' ⟨rfl, rfl⟩
      go_wp2_with fail
      refine (alu_test_50 b a _).mono ?_
      rintro e w' ⟨rfl, rfl⟩
      go_wp2
      go_round
      case rel => exact ⟨3, by omega, by go_num⟩
      case measure => simp [intOf]
    · go_wp2_with fail
      refine (alu_test_51 a b x y HX.out HY.out _).mono ?_
      rintro e w' ⟨rfl, rfl⟩
      go_wp2_with fail
      refine (alu_test_51 b a y x HY.out HX.out _).mono ?_
      rintro e w' ⟨rfl, rfl⟩
      go_wp2_with fail
      refine (K1.out _).mono ?_
      rintro e w' ⟨rfl, rfl⟩
      go_wp2_with fail
      refine (K2.out _).mono ?_
      rintro e w' ⟨rfl, rfl⟩
      go_wp2_with fail
      refine (K2.out _).mono ?_
      rintro e w' ⟨rfl, rfl⟩
      go_wp2_with fail
      refine (K1.out _).mono ?_
      rintro e w' ⟨rfl, rfl⟩
      go_wp2
      go_round
      case rel => exact ⟨4, by omega, by go_num⟩
      case measure => simp [intOf]
    · go_wp2_with fail
      refine (alu_test_52 a b _).mono ?_
      rintro e w' ⟨rfl, rfl⟩
      go_wp2_with fail
      refine (alu_test_52 b a _).mono ?_
      rintro e w' ⟨rfl, rfl⟩
      go_wp2
      go_round
      case rel => exact ⟨5, by omega, by go_num⟩
      case measure => simp [intOf]
    · go_wp2_with fail
      refine (alu_test_53 a b x y HX.out HY.out _).mono ?_
      rintro e w' ⟨rfl, rfl⟩
      go_wp2_with fail
      refine (alu_test_53 b a y x HY.out HX.out _).mono ?_
      rintro e w' ⟨rfl, rfl⟩
      go_wp2_with fail
      refine (K1.out _).mono ?_
      rintro e w' ⟨rfl, rfl⟩
      go_wp2_with fail
      refine (K2.out _).mono ?_
      rintro e w' ⟨rfl, rfl⟩
      go_wp2_with fail
      refine (K2.out _).mono ?_
      rintro e w' ⟨rfl, rfl⟩
      go_wp2_with fail
      refine (K1.out _).mono ?_
      rintro e w' ⟨rfl, rfl⟩
      go_wp2
      go_round
      case rel => exact ⟨6, by omega, by go_num⟩
      case measure => simp [intOf]
    · have E1 : ((Alu.do_ 14 a b).1.toNat : Int) = tr (decide ((a.toNat : Int) < b.toNat)) := by
        simp only [Alu.do_]
        by_cases h : a.toNat < b.toNat <;> simp [tr, h]
      have E2 : ((Alu.do_ 15 a b).1.toNat : Int) = tr (decide (x < y)) := by
        rw [HX.out, HY.out]
        simp only [Alu.do_]
        by_cases h : a.toInt < b.toInt <;> simp [tr, h]
      have D1 := fun w => (law_do_to 14 a b _ w (by omega) (by omega) rfl)
      have D2 := fun w => (law_do_to 15 a b _ w (by omega) (by omega) rfl)
      rw [E1] at D1
      rw [E2] at D2
      have KD1 := Kp.mk D1
      have KD2 := Kp.mk D2
      clear D1 D2 E1 E2
      have t0 : ∀ t, (tr t == 1) = t := by decide
      have t1 : ∀ t, decide (tr t < 2) = true := by decide
      go_wp2_with fail
      refine (alu_test_50 a b _).mono ?_
      rintro e w' ⟨rfl, rfl⟩
      go_wp2_with fail
      refine (alu_test_51 a b x y HX.out HY.out _).mono ?_
      rintro e w' ⟨rfl, rfl⟩
      go_wp2_with fail
      refine (KD1.out _).mono ?_
      rintro e w' ⟨rfl, rfl⟩
      go_wp2_with fail
      refine (KD2.out _).mono ?_
      rintro e w' ⟨rfl, rfl⟩
      go_wp2_with fail
      refine (KD1.out _).mono ?_
      rintro e w' ⟨rfl, rfl⟩
      go_wp2_with fail
      refine (KD2.out _).mono ?_
      rintro e w' ⟨rfl, rfl⟩
      go_wp2
      go_ret
      exact ⟨rfl, Below.refl _ _⟩
end Go.Proofs.YtpihlaeioepbpaaDoor
