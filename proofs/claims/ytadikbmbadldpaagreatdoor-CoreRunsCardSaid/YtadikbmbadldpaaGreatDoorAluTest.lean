
/- Package alu's Test, walked. -/
import Derived.Test.YtadikbmbadldpaaGreatDoorAluDo
namespace Go.Proofs.YtadikbmbadldpaaGreatDoor
open Go Go.RowKit
set_option linter.unusedVariables false

set_option maxRecDepth 100000 in
theorem alu_test_48 (b c : BitVec 32) (w : World) :
    Calls Tryz.prog 47 #[.int .i64 48, .int .u32 (b.toNat : Int), .int .u32 (c.toNat : Int)] w fun e w' => e = .returned (.tuple #[.bool (((b.toNat : Int) == (c.toNat : Int))), .nilIface]) ∧ w = w' := by
  go_enter Tryz.func47, Tryz.ntmps47
  go_wp2
  go_ret2
  exact ⟨ret2_bool (by first | rfl | simp) rfl, rfl⟩
set_option maxRecDepth 100000 in
theorem alu_test_49 (b c : BitVec 32) (w : World) :
    Calls Tryz.prog 47 #[.int .i64 49, .int .u32 (b.toNat : Int), .int .u32 (c.toNat : Int)] w fun e w' => e = .returned (.tuple #[.bool (((b.toNat : Int) != (c.toNat : Int))), .nilIface]) ∧ w = w' := by
  go_enter Tryz.func47, Tryz.ntmps47
  go_wp2
  go_ret2
  exact ⟨ret2_bool (by first | rfl | simp) rfl, rfl⟩
set_option maxRecDepth 100000 in
theorem alu_test_50 (b c : BitVec 32) (w : World) :
    Calls Tryz.prog 47 #[.int .i64 50, .int .u32 (b.toNat : Int), .int .u32 (c.toNat : Int)] w fun e w' => e = .returned (.tuple #[.bool (decide ((b.toNat : Int) < (c.toNat : Int))), .nilIface]) ∧ w = w' := by
  go_enter Tryz.func47, Tryz.ntmps47
  go_wp2
  go_ret2
  exact ⟨ret2_bool (by first | rfl | simp) rfl, rfl⟩
set_option maxRecDepth 100000 in
theorem alu_test_51 (b c : BitVec 32) (x y : Int) (hx : x = b.toInt) (hy : y = c.toInt) (w : World) :
    Calls Tryz.prog 47 #[.int .i64 51, .int .u32 (b.toNat : Int), .int .u32 (c.toNat : Int)] w fun e w' => e = .returned (.tuple #[.bool (decide (x < y)), .nilIface]) ∧ w = w' := by
  have hw1 := Alu.wrap_int b
  have hw2 := Alu.wrap_int c
  rw [← hx] at hw1
  rw [← hy] at hw2
  clear hx hy
  go_enter Tryz.func47, Tryz.ntmps47
  go_wp2
  go_ret2
  exact ⟨ret2_bool (by first | rfl | simp) rfl, rfl⟩
set_option maxRecDepth 100000 in
theorem alu_test_52 (b c : BitVec 32) (w : World) :
    Calls Tryz.prog 47 #[.int .i64 52, .int .u32 (b.toNat : Int), .int .u32 (c.toNat : Int)] w fun e w' => e = .returned (.tuple #[.bool (decide ((c.toNat : Int) ≤ (b.toNat : Int))), .nilIface]) ∧ w = w' := by
  go_enter Tryz.func47, Tryz.ntmps47
  go_wp2
  go_ret2
  exact ⟨ret2_bool (by first | rfl | simp) rfl, rfl⟩
set_option maxRecDepth 100000 in
theorem alu_test_53 (b c : BitVec 32) (x y : Int) (hx : x = b.toInt) (hy : y = c.toInt) (w : World) :
    Calls Tryz.prog 47 #[.int .i64 53, .int .u32 (b.toNat : Int), .int .u32 (c.toNat : Int)] w fun e w' => e = .returned (.tuple #[.bool (decide (y ≤ x)), .nilIface]) ∧ w = w' := by
  have hw1 := Alu.wrap_int b
  have hw2 := Alu.wrap_int c
  rw [← hx] at hw1
  rw [← hy] at hw2
  clear hx hy
  go_enter Tryz.func47, Tryz.ntmps47
  go_wp2
  go_ret2
  exact ⟨ret2_bool (by first | rfl | simp) rfl, rfl⟩
set_option maxRecDepth 100000 in
theorem alu_test_no (A : Nat → Addr) (op : Int) (b c : BitVec 32) (w : World) (h : Errs w [7] A) (hop : ¬ (48 ≤ op ∧ op ≤ 53)) :
    Calls Tryz.prog 47 #[.int .i64 op, .int .u32 (b.toNat : Int), .int .u32 (c.toNat : Int)] w fun e w' => e = .returned (.tuple #[.bool false, errv (A 7)]) ∧ Drew w w' := by
  have HE' : w.cell? ⟨7, 0, none⟩ = some (errv (A 7)) := h.cell 7 (by simp)
  have n48 : (op == 48) = false := by rw [beq_eq_false_iff_ne]; omega
  have n49 : (op == 49) = false := by rw [beq_eq_false_iff_ne]; omega
  have n50 : (op == 50) = false := by rw [beq_eq_false_iff_ne]; omega
  have n51 : (op == 51) = false := by rw [beq_eq_false_iff_ne]; omega
  have n52 : (op == 52) = false := by rw [beq_eq_false_iff_ne]; omega
  have n53 : (op == 53) = false := by rw [beq_eq_false_iff_ne]; omega
  clear h hop
  go_enter Tryz.func47, Tryz.ntmps47
  go_wp2
  go_region
  all_goals (go_wp2; go_ret2; exact ⟨rfl, Drew.once _⟩)
theorem alu_test (A : Nat → Addr) (op : Int) (b c : BitVec 32) (w : World) (h : Errs w [7] A) :
    Calls Tryz.prog 47 #[.int .i64 op, .int .u32 (b.toNat : Int), .int .u32 (c.toNat : Int)] w fun e w' => e = .returned (.tuple #[.bool (Alu.test op b c).1, errVal A (Alu.test op b c).2]) ∧ Drew w w' := by
  by_cases hop : 48 ≤ op ∧ op ≤ 53
  · have : op = 48 ∨ op = 49 ∨ op = 50 ∨ op = 51 ∨ op = 52 ∨ op = 53 := by omega
    rcases this with rfl | rfl | rfl | rfl | rfl | rfl
    · exact (alu_test_48 b c w).mono fun e w' ⟨he, hw⟩ => ⟨by rw [he]; exact ret2_bool (by rw [Bool.eq_iff_iff]; simp [Alu.test] <;> omega) rfl, by rw [hw]; exact Drew.refl _⟩
    · exact (alu_test_49 b c w).mono fun e w' ⟨he, hw⟩ => ⟨by rw [he]; exact ret2_bool (by rw [Bool.eq_iff_iff]; simp [Alu.test] <;> omega) rfl, by rw [hw]; exact Drew.refl _⟩
    · exact (alu_test_50 b c w).mono fun e w' ⟨he, hw⟩ => ⟨by rw [he]; exact ret2_bool (by rw [Bool.eq_iff_iff]; simp [Alu.test] <;> omega) rfl, by rw [hw]; exact Drew.refl _⟩
    · exact (alu_test_51 b c _ _ rfl rfl w).mono fun e w' ⟨he, hw⟩ => ⟨by rw [he]; exact ret2_bool (by rw [Bool.eq_iff_iff]; simp [Alu.test] <;> omega) rfl, by rw [hw]; exact Drew.refl _⟩
    · exact (alu_test_52 b c w).mono fun e w' ⟨he, hw⟩ => ⟨by rw [he]; exact ret2_bool (by rw [Bool.eq_iff_iff]; simp [Alu.test] <;> omega) rfl, by rw [hw]; exact Drew.refl _⟩
    · exact (alu_test_53 b c _ _ rfl rfl w).mono fun e w' ⟨he, hw⟩ => ⟨by rw [he]; exact ret2_bool (by rw [Bool.eq_iff_iff]; simp [Alu.test] <;> omega) rfl, by rw [hw]; exact Drew.refl _⟩
  · have hfin : Alu.test op b c = (false, 7) := by
      unfold Alu.test
      rw [if_neg (by omega), if_neg (by omega), if_neg (by omega), if_neg (by omega), if_neg (by omega), if_neg (by omega)]
    rw [hfin]
    exact alu_test_no A op b c w h hop
end Go.Proofs.YtadikbmbadldpaaGreatDoor
