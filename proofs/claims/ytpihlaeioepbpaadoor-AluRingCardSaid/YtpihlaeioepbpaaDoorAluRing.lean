/- 'AluRing', walked: numbers modulo 2^32; and, or and xor. -/
import Derived.Test.YtpihlaeioepbpaaDoorAluDo
namespace Go.Proofs.YtpihlaeioepbpaaDoor
open Go Go.RowKit
set_option linter.unusedVariables false

set_option maxRecDepth 100000 in
theorem law_AluRing (a b c : BitVec 32) (w : World) :
    Calls Tryd.prog 3 #[.int .u32 (a.toNat : Int), .int .u32 (b.toNat : Int), .int .u32 (c.toNat : Int)] w fun e w' => e = .returned (.bool true) ∧ Below w.heap.size w w' := by
  obtain ⟨s, p, q, ac, bc, pc, t, u, n, o, x, E⟩ : ∃ s p q ac bc pc t u n o x : BitVec 32, s = a + b ∧ p = a * b ∧ q = s * c ∧ ac = a * c ∧ bc = b * c ∧ pc = p * c ∧ t = s + c ∧ u = b + c ∧ n = a &&& b ∧ o = a ||| b ∧ x = a ^^^ b :=
    ⟨_, _, _, _, _, _, _, _, _, _, _, rfl, rfl, rfl, rfl, rfl, rfl, rfl, rfl, rfl, rfl, rfl⟩
  have HE := Kp.mk E; clear E
  go_enter Tryd.func3, Tryd.ntmps3
  go_wp2_with fail
  refine (law_do_to 9 3#32 5#32 15#32 _ (by omega) (by omega) rfl).mono ?_
  rintro e w' ⟨rfl, rfl⟩
  go_wp2_with fail
  refine (law_do_to 2 0#32 1#32 4294967295#32 _ (by omega) (by omega) rfl).mono ?_
  rintro e w' ⟨rfl, rfl⟩
  go_wp2_with fail
  refine (law_do_to 1 a b s _ (by omega) (by omega) HE.out.1.symm).mono ?_
  rintro e w' ⟨rfl, rfl⟩
  go_wp2_with fail
  refine (law_do_to 1 b a s _ (by omega) (by omega) (by rw [HE.out.1]; exact BitVec.add_comm b a)).mono ?_
  rintro e w' ⟨rfl, rfl⟩
  go_wp2_with fail
  refine (law_do_to 2 s b a _ (by omega) (by omega) (by rw [HE.out.1]; exact BitVec.add_sub_cancel a b)).mono ?_
  rintro e w' ⟨rfl, rfl⟩
  go_wp2_with fail
  refine (law_do_to 9 a b p _ (by omega) (by omega) HE.out.2.1.symm).mono ?_
  rintro e w' ⟨rfl, rfl⟩
  go_wp2_with fail
  refine (law_do_to 9 b a p _ (by omega) (by omega) (by rw [HE.out.2.1]; exact BitVec.mul_comm b a)).mono ?_
  rintro e w' ⟨rfl, rfl⟩
  go_wp2_with fail
  refine (law_do_to 9 s c q _ (by omega) (by omega) HE.out.2.2.1.symm).mono ?_
  rintro e w' ⟨rfl, rfl⟩
  go_wp2_with fail
  refine (law_do_to 9 a c ac _ (by omega) (by omega) HE.out.2.2.2.1.symm).mono ?_
  rintro e w' ⟨rfl, rfl⟩
  go_wp2_with fail
  refine (law_do_to 9 b c bc _ (by omega) (by omega) HE.out.2.2.2.2.1.symm).mono ?_
  rintro e w' ⟨rfl, rfl⟩
  go_wp2_with fail
  refine (law_do_to 1 ac bc q _ (by omega) (by omega) (by rw [HE.out.2.2.2.1, HE.out.2.2.2.2.1, HE.out.2.2.1, HE.out.1]; exact (BitVec.add_mul (x := a) (y := b) (z := c)).symm)).mono ?_
  rintro e w' ⟨rfl, rfl⟩
  go_wp2_with fail
  refine (law_do_to 9 a b p _ (by omega) (by omega) HE.out.2.1.symm).mono ?_
  rintro e w' ⟨rfl, rfl⟩
  go_wp2_with fail
  refine (law_do_to 9 p c pc _ (by omega) (by omega) HE.out.2.2.2.2.2.1.symm).mono ?_
  rintro e w' ⟨rfl, rfl⟩
  go_wp2_with fail
  refine (law_do_to 9 b c bc _ (by omega) (by omega) HE.out.2.2.2.2.1.symm).mono ?_
  rintro e w' ⟨rfl, rfl⟩
  go_wp2_with fail
  refine (law_do_to 9 a bc pc _ (by omega) (by omega) (by rw [HE.out.2.2.2.2.1, HE.out.2.2.2.2.2.1, HE.out.2.1]; exact (BitVec.mul_assoc a b c).symm)).mono ?_
  rintro e w' ⟨rfl, rfl⟩
  go_wp2_with fail
  refine (law_do_to 1 s c t _ (by omega) (by omega) HE.out.2.2.2.2.2.2.1.symm).mono ?_
  rintro e w' ⟨rfl, rfl⟩
  go_wp2_with fail
  refine (law_do_to 1 b c u _ (by omega) (by omega) HE.out.2.2.2.2.2.2.2.1.symm).mono ?_
  rintro e w' ⟨rfl, rfl⟩
  go_wp2_with fail
  refine (law_do_to 1 a u t _ (by omega) (by omega) (by rw [HE.out.2.2.2.2.2.2.2.1, HE.out.2.2.2.2.2.2.1, HE.out.1]; exact (BitVec.add_assoc a b c).symm)).mono ?_
  rintro e w' ⟨rfl, rfl⟩
  go_wp2_with fail
  refine (law_do_to 3 a b n _ (by omega) (by omega) HE.out.2.2.2.2.2.2.2.2.1.symm).mono ?_
  rintro e w' ⟨rfl, rfl⟩
  go_wp2_with fail
  refine (law_do_to 4 a b o _ (by omega) (by omega) HE.out.2.2.2.2.2.2.2.2.2.1.symm).mono ?_
  rintro e w' ⟨rfl, rfl⟩
  go_wp2_with fail
  refine (law_do_to 5 a b x _ (by omega) (by omega) HE.out.2.2.2.2.2.2.2.2.2.2.symm).mono ?_
  rintro e w' ⟨rfl, rfl⟩
  go_wp2_with fail
  refine (law_do_to 1 n o s _ (by omega) (by omega) (by rw [HE.out.2.2.2.2.2.2.2.2.1, HE.out.2.2.2.2.2.2.2.2.2.1, HE.out.1]; exact Alu.and_add_or a b)).mono ?_
  rintro e w' ⟨rfl, rfl⟩
  go_wp2_with fail
  refine (law_do_to 2 o n x _ (by omega) (by omega) (by rw [HE.out.2.2.2.2.2.2.2.2.1, HE.out.2.2.2.2.2.2.2.2.2.1, HE.out.2.2.2.2.2.2.2.2.2.2]; exact Alu.or_sub_and a b)).mono ?_
  rintro e w' ⟨rfl, rfl⟩
  go_wp2_with fail
  refine (law_do_to 5 x b a _ (by omega) (by omega) (by rw [HE.out.2.2.2.2.2.2.2.2.2.2]; exact Alu.xor_back a b)).mono ?_
  rintro e w' ⟨rfl, rfl⟩
  go_wp2_with fail
  refine (law_do_to 3 n x 0#32 _ (by omega) (by omega) (by rw [HE.out.2.2.2.2.2.2.2.2.1, HE.out.2.2.2.2.2.2.2.2.2.2]; exact Alu.and_and_xor a b)).mono ?_
  rintro e w' ⟨rfl, rfl⟩
  go_wp2
  go_ret
  exact ⟨rfl, Below.refl _ _⟩
end Go.Proofs.YtpihlaeioepbpaaDoor
