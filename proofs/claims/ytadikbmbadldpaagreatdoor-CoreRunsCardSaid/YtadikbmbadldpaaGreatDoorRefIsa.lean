
/- ferryref04.Form, Uses, within, walked (printed by gen_refisa.py). -/
import Derived.Test.YtadikbmbadldpaaGreatDoorIsaDecode
import Derived.Handy
namespace Go.Proofs.YtadikbmbadldpaaGreatDoor
open Go Go.RowKit
set_option linter.unusedVariables false

set_option maxRecDepth 100000 in
theorem ref_Form_lt1 (op : Int) (h : op < 1) (w : World) : Calls Tryz.prog 76 #[.int .i64 op] w fun e w' => e = .returned (.int .i64 0) ∧ w' = w := by
  have g0 : decide (op ≥ 1) = false := decide_eq_false (by omega)
  have g1 : decide (op ≤ 15) = true := decide_eq_true (by omega)
  have g2 : (op == 16) = false := by rw [beq_eq_false_iff_ne]; omega
  have g3 : decide (op ≥ 32) = false := decide_eq_false (by omega)
  have g4 : decide (op ≤ 37) = true := decide_eq_true (by omega)
  have g5 : decide (op ≥ 48) = false := decide_eq_false (by omega)
  have g6 : decide (op ≤ 53) = true := decide_eq_true (by omega)
  have g7 : decide (op ≥ 17) = false := decide_eq_false (by omega)
  have g8 : decide (op ≤ 19) = true := decide_eq_true (by omega)
  have g9 : (op == 20) = false := by rw [beq_eq_false_iff_ne]; omega
  have g10 : (op == 54) = false := by rw [beq_eq_false_iff_ne]; omega
  have g11 : (op == 55) = false := by rw [beq_eq_false_iff_ne]; omega
  have g12 : (op == 64) = false := by rw [beq_eq_false_iff_ne]; omega
  clear h
  go_enter Tryz.func76, Tryz.ntmps76
  go_wp2
  go_ret
  exact ⟨rfl, rfl⟩
theorem formAt_lt1 (op : Int) (h : op < 1) : formAt op = 0 := by
  unfold formAt
  have g0 : decide (1 ≤ op) = false := decide_eq_false (by omega)
  have g1 : decide (op ≤ 15) = true := decide_eq_true (by omega)
  have g2 : decide (op = 16) = false := decide_eq_false (by omega)
  have g3 : decide (32 ≤ op) = false := decide_eq_false (by omega)
  have g4 : decide (op ≤ 37) = true := decide_eq_true (by omega)
  have g5 : decide (48 ≤ op) = false := decide_eq_false (by omega)
  have g6 : decide (op ≤ 53) = true := decide_eq_true (by omega)
  have g7 : decide (17 ≤ op) = false := decide_eq_false (by omega)
  have g8 : decide (op ≤ 19) = true := decide_eq_true (by omega)
  have g9 : decide (op = 20) = false := decide_eq_false (by omega)
  have g10 : decide (op = 54) = false := decide_eq_false (by omega)
  have g11 : decide (op = 55) = false := decide_eq_false (by omega)
  have g12 : decide (op = 64) = false := decide_eq_false (by omega)
  simp only [g0, g1, g2, g3, g4, g5, g6, g7, g8, g9, g10, g11, g12]
  rfl
set_option maxRecDepth 100000 in
theorem ref_Form_c1 (op : Int) (h : 1 ≤ op ∧ op ≤ 15) (w : World) : Calls Tryz.prog 76 #[.int .i64 op] w fun e w' => e = .returned (.int .i64 1) ∧ w' = w := by
  have g0 : decide (op ≥ 1) = true := decide_eq_true (by omega)
  have g1 : decide (op ≤ 15) = true := decide_eq_true (by omega)
  have g2 : (op == 16) = false := by rw [beq_eq_false_iff_ne]; omega
  have g3 : decide (op ≥ 32) = false := decide_eq_false (by omega)
  have g4 : decide (op ≤ 37) = true := decide_eq_true (by omega)
  have g5 : decide (op ≥ 48) = false := decide_eq_false (by omega)
  have g6 : decide (op ≤ 53) = true := decide_eq_true (by omega)
  have g7 : decide (op ≥ 17) = false := decide_eq_false (by omega)
  have g8 : decide (op ≤ 19) = true := decide_eq_true (by omega)
  have g9 : (op == 20) = false := by rw [beq_eq_false_iff_ne]; omega
  have g10 : (op == 54) = false := by rw [beq_eq_false_iff_ne]; omega
  have g11 : (op == 55) = false := by rw [beq_eq_false_iff_ne]; omega
  have g12 : (op == 64) = false := by rw [beq_eq_false_iff_ne]; omega
  clear h
  go_enter Tryz.func76, Tryz.ntmps76
  go_wp2
  go_ret
  exact ⟨rfl, rfl⟩
theorem formAt_c1 (op : Int) (h : 1 ≤ op ∧ op ≤ 15) : formAt op = 1 := by
  unfold formAt
  have g0 : decide (1 ≤ op) = true := decide_eq_true (by omega)
  have g1 : decide (op ≤ 15) = true := decide_eq_true (by omega)
  have g2 : decide (op = 16) = false := decide_eq_false (by omega)
  have g3 : decide (32 ≤ op) = false := decide_eq_false (by omega)
  have g4 : decide (op ≤ 37) = true := decide_eq_true (by omega)
  have g5 : decide (48 ≤ op) = false := decide_eq_false (by omega)
  have g6 : decide (op ≤ 53) = true := decide_eq_true (by omega)
  have g7 : decide (17 ≤ op) = false := decide_eq_false (by omega)
  have g8 : decide (op ≤ 19) = true := decide_eq_true (by omega)
  have g9 : decide (op = 20) = false := decide_eq_false (by omega)
  have g10 : decide (op = 54) = false := decide_eq_false (by omega)
  have g11 : decide (op = 55) = false := decide_eq_false (by omega)
  have g12 : decide (op = 64) = false := decide_eq_false (by omega)
  simp only [g0, g1, g2, g3, g4, g5, g6, g7, g8, g9, g10, g11, g12]
  rfl
set_option maxRecDepth 100000 in
theorem ref_Form_c16 (op : Int) (h : op = 16) (w : World) : Calls Tryz.prog 76 #[.int .i64 op] w fun e w' => e = .returned (.int .i64 2) ∧ w' = w := by
  have g0 : decide (op ≥ 1) = true := decide_eq_true (by omega)
  have g1 : decide (op ≤ 15) = false := decide_eq_false (by omega)
  have g2 : (op == 16) = true := by rw [beq_iff_eq]; omega
  have g3 : decide (op ≥ 32) = false := decide_eq_false (by omega)
  have g4 : decide (op ≤ 37) = true := decide_eq_true (by omega)
  have g5 : decide (op ≥ 48) = false := decide_eq_false (by omega)
  have g6 : decide (op ≤ 53) = true := decide_eq_true (by omega)
  have g7 : decide (op ≥ 17) = false := decide_eq_false (by omega)
  have g8 : decide (op ≤ 19) = true := decide_eq_true (by omega)
  have g9 : (op == 20) = false := by rw [beq_eq_false_iff_ne]; omega
  have g10 : (op == 54) = false := by rw [beq_eq_false_iff_ne]; omega
  have g11 : (op == 55) = false := by rw [beq_eq_false_iff_ne]; omega
  have g12 : (op == 64) = false := by rw [beq_eq_false_iff_ne]; omega
  clear h
  go_enter Tryz.func76, Tryz.ntmps76
  go_wp2
  go_ret
  exact ⟨rfl, rfl⟩
theorem formAt_c16 (op : Int) (h : op = 16) : formAt op = 2 := by
  unfold formAt
  have g0 : decide (1 ≤ op) = true := decide_eq_true (by omega)
  have g1 : decide (op ≤ 15) = false := decide_eq_false (by omega)
  have g2 : decide (op = 16) = true := decide_eq_true (by omega)
  have g3 : decide (32 ≤ op) = false := decide_eq_false (by omega)
  have g4 : decide (op ≤ 37) = true := decide_eq_true (by omega)
  have g5 : decide (48 ≤ op) = false := decide_eq_false (by omega)
  have g6 : decide (op ≤ 53) = true := decide_eq_true (by omega)
  have g7 : decide (17 ≤ op) = false := decide_eq_false (by omega)
  have g8 : decide (op ≤ 19) = true := decide_eq_true (by omega)
  have g9 : decide (op = 20) = false := decide_eq_false (by omega)
  have g10 : decide (op = 54) = false := decide_eq_false (by omega)
  have g11 : decide (op = 55) = false := decide_eq_false (by omega)
  have g12 : decide (op = 64) = false := decide_eq_false (by omega)
  simp only [g0, g1, g2, g3, g4, g5, g6, g7, g8, g9, g10, g11, g12]
  rfl
set_option maxRecDepth 100000 in
theorem ref_Form_c17 (op : Int) (h : 17 ≤ op ∧ op ≤ 19) (w : World) : Calls Tryz.prog 76 #[.int .i64 op] w fun e w' => e = .returned (.int .i64 3) ∧ w' = w := by
  have g0 : decide (op ≥ 1) = true := decide_eq_true (by omega)
  have g1 : decide (op ≤ 15) = false := decide_eq_false (by omega)
  have g2 : (op == 16) = false := by rw [beq_eq_false_iff_ne]; omega
  have g3 : decide (op ≥ 32) = false := decide_eq_false (by omega)
  have g4 : decide (op ≤ 37) = true := decide_eq_true (by omega)
  have g5 : decide (op ≥ 48) = false := decide_eq_false (by omega)
  have g6 : decide (op ≤ 53) = true := decide_eq_true (by omega)
  have g7 : decide (op ≥ 17) = true := decide_eq_true (by omega)
  have g8 : decide (op ≤ 19) = true := decide_eq_true (by omega)
  have g9 : (op == 20) = false := by rw [beq_eq_false_iff_ne]; omega
  have g10 : (op == 54) = false := by rw [beq_eq_false_iff_ne]; omega
  have g11 : (op == 55) = false := by rw [beq_eq_false_iff_ne]; omega
  have g12 : (op == 64) = false := by rw [beq_eq_false_iff_ne]; omega
  clear h
  go_enter Tryz.func76, Tryz.ntmps76
  go_wp2
  go_ret
  exact ⟨rfl, rfl⟩
theorem formAt_c17 (op : Int) (h : 17 ≤ op ∧ op ≤ 19) : formAt op = 3 := by
  unfold formAt
  have g0 : decide (1 ≤ op) = true := decide_eq_true (by omega)
  have g1 : decide (op ≤ 15) = false := decide_eq_false (by omega)
  have g2 : decide (op = 16) = false := decide_eq_false (by omega)
  have g3 : decide (32 ≤ op) = false := decide_eq_false (by omega)
  have g4 : decide (op ≤ 37) = true := decide_eq_true (by omega)
  have g5 : decide (48 ≤ op) = false := decide_eq_false (by omega)
  have g6 : decide (op ≤ 53) = true := decide_eq_true (by omega)
  have g7 : decide (17 ≤ op) = true := decide_eq_true (by omega)
  have g8 : decide (op ≤ 19) = true := decide_eq_true (by omega)
  have g9 : decide (op = 20) = false := decide_eq_false (by omega)
  have g10 : decide (op = 54) = false := decide_eq_false (by omega)
  have g11 : decide (op = 55) = false := decide_eq_false (by omega)
  have g12 : decide (op = 64) = false := decide_eq_false (by omega)
  simp only [g0, g1, g2, g3, g4, g5, g6, g7, g8, g9, g10, g11, g12]
  rfl
set_option maxRecDepth 100000 in
theorem ref_Form_c20 (op : Int) (h : op = 20) (w : World) : Calls Tryz.prog 76 #[.int .i64 op] w fun e w' => e = .returned (.int .i64 4) ∧ w' = w := by
  have g0 : decide (op ≥ 1) = true := decide_eq_true (by omega)
  have g1 : decide (op ≤ 15) = false := decide_eq_false (by omega)
  have g2 : (op == 16) = false := by rw [beq_eq_false_iff_ne]; omega
  have g3 : decide (op ≥ 32) = false := decide_eq_false (by omega)
  have g4 : decide (op ≤ 37) = true := decide_eq_true (by omega)
  have g5 : decide (op ≥ 48) = false := decide_eq_false (by omega)
  have g6 : decide (op ≤ 53) = true := decide_eq_true (by omega)
  have g7 : decide (op ≥ 17) = true := decide_eq_true (by omega)
  have g8 : decide (op ≤ 19) = false := decide_eq_false (by omega)
  have g9 : (op == 20) = true := by rw [beq_iff_eq]; omega
  have g10 : (op == 54) = false := by rw [beq_eq_false_iff_ne]; omega
  have g11 : (op == 55) = false := by rw [beq_eq_false_iff_ne]; omega
  have g12 : (op == 64) = false := by rw [beq_eq_false_iff_ne]; omega
  clear h
  go_enter Tryz.func76, Tryz.ntmps76
  go_wp2
  go_ret
  exact ⟨rfl, rfl⟩
theorem formAt_c20 (op : Int) (h : op = 20) : formAt op = 4 := by
  unfold formAt
  have g0 : decide (1 ≤ op) = true := decide_eq_true (by omega)
  have g1 : decide (op ≤ 15) = false := decide_eq_false (by omega)
  have g2 : decide (op = 16) = false := decide_eq_false (by omega)
  have g3 : decide (32 ≤ op) = false := decide_eq_false (by omega)
  have g4 : decide (op ≤ 37) = true := decide_eq_true (by omega)
  have g5 : decide (48 ≤ op) = false := decide_eq_false (by omega)
  have g6 : decide (op ≤ 53) = true := decide_eq_true (by omega)
  have g7 : decide (17 ≤ op) = true := decide_eq_true (by omega)
  have g8 : decide (op ≤ 19) = false := decide_eq_false (by omega)
  have g9 : decide (op = 20) = true := decide_eq_true (by omega)
  have g10 : decide (op = 54) = false := decide_eq_false (by omega)
  have g11 : decide (op = 55) = false := decide_eq_false (by omega)
  have g12 : decide (op = 64) = false := decide_eq_false (by omega)
  simp only [g0, g1, g2, g3, g4, g5, g6, g7, g8, g9, g10, g11, g12]
  rfl
set_option maxRecDepth 100000 in
theorem ref_Form_c21 (op : Int) (h : 21 ≤ op ∧ op ≤ 31) (w : World) : Calls Tryz.prog 76 #[.int .i64 op] w fun e w' => e = .returned (.int .i64 0) ∧ w' = w := by
  have g0 : decide (op ≥ 1) = true := decide_eq_true (by omega)
  have g1 : decide (op ≤ 15) = false := decide_eq_false (by omega)
  have g2 : (op == 16) = false := by rw [beq_eq_false_iff_ne]; omega
  have g3 : decide (op ≥ 32) = false := decide_eq_false (by omega)
  have g4 : decide (op ≤ 37) = true := decide_eq_true (by omega)
  have g5 : decide (op ≥ 48) = false := decide_eq_false (by omega)
  have g6 : decide (op ≤ 53) = true := decide_eq_true (by omega)
  have g7 : decide (op ≥ 17) = true := decide_eq_true (by omega)
  have g8 : decide (op ≤ 19) = false := decide_eq_false (by omega)
  have g9 : (op == 20) = false := by rw [beq_eq_false_iff_ne]; omega
  have g10 : (op == 54) = false := by rw [beq_eq_false_iff_ne]; omega
  have g11 : (op == 55) = false := by rw [beq_eq_false_iff_ne]; omega
  have g12 : (op == 64) = false := by rw [beq_eq_false_iff_ne]; omega
  clear h
  go_enter Tryz.func76, Tryz.ntmps76
  go_wp2
  go_ret
  exact ⟨rfl, rfl⟩
theorem formAt_c21 (op : Int) (h : 21 ≤ op ∧ op ≤ 31) : formAt op = 0 := by
  unfold formAt
  have g0 : decide (1 ≤ op) = true := decide_eq_true (by omega)
  have g1 : decide (op ≤ 15) = false := decide_eq_false (by omega)
  have g2 : decide (op = 16) = false := decide_eq_false (by omega)
  have g3 : decide (32 ≤ op) = false := decide_eq_false (by omega)
  have g4 : decide (op ≤ 37) = true := decide_eq_true (by omega)
  have g5 : decide (48 ≤ op) = false := decide_eq_false (by omega)
  have g6 : decide (op ≤ 53) = true := decide_eq_true (by omega)
  have g7 : decide (17 ≤ op) = true := decide_eq_true (by omega)
  have g8 : decide (op ≤ 19) = false := decide_eq_false (by omega)
  have g9 : decide (op = 20) = false := decide_eq_false (by omega)
  have g10 : decide (op = 54) = false := decide_eq_false (by omega)
  have g11 : decide (op = 55) = false := decide_eq_false (by omega)
  have g12 : decide (op = 64) = false := decide_eq_false (by omega)
  simp only [g0, g1, g2, g3, g4, g5, g6, g7, g8, g9, g10, g11, g12]
  rfl
set_option maxRecDepth 100000 in
theorem ref_Form_c32 (op : Int) (h : 32 ≤ op ∧ op ≤ 37) (w : World) : Calls Tryz.prog 76 #[.int .i64 op] w fun e w' => e = .returned (.int .i64 2) ∧ w' = w := by
  have g0 : decide (op ≥ 1) = true := decide_eq_true (by omega)
  have g1 : decide (op ≤ 15) = false := decide_eq_false (by omega)
  have g2 : (op == 16) = false := by rw [beq_eq_false_iff_ne]; omega
  have g3 : decide (op ≥ 32) = true := decide_eq_true (by omega)
  have g4 : decide (op ≤ 37) = true := decide_eq_true (by omega)
  have g5 : decide (op ≥ 48) = false := decide_eq_false (by omega)
  have g6 : decide (op ≤ 53) = true := decide_eq_true (by omega)
  have g7 : decide (op ≥ 17) = true := decide_eq_true (by omega)
  have g8 : decide (op ≤ 19) = false := decide_eq_false (by omega)
  have g9 : (op == 20) = false := by rw [beq_eq_false_iff_ne]; omega
  have g10 : (op == 54) = false := by rw [beq_eq_false_iff_ne]; omega
  have g11 : (op == 55) = false := by rw [beq_eq_false_iff_ne]; omega
  have g12 : (op == 64) = false := by rw [beq_eq_false_iff_ne]; omega
  clear h
  go_enter Tryz.func76, Tryz.ntmps76
  go_wp2
  go_ret
  exact ⟨rfl, rfl⟩
theorem formAt_c32 (op : Int) (h : 32 ≤ op ∧ op ≤ 37) : formAt op = 2 := by
  unfold formAt
  have g0 : decide (1 ≤ op) = true := decide_eq_true (by omega)
  have g1 : decide (op ≤ 15) = false := decide_eq_false (by omega)
  have g2 : decide (op = 16) = false := decide_eq_false (by omega)
  have g3 : decide (32 ≤ op) = true := decide_eq_true (by omega)
  have g4 : decide (op ≤ 37) = true := decide_eq_true (by omega)
  have g5 : decide (48 ≤ op) = false := decide_eq_false (by omega)
  have g6 : decide (op ≤ 53) = true := decide_eq_true (by omega)
  have g7 : decide (17 ≤ op) = true := decide_eq_true (by omega)
  have g8 : decide (op ≤ 19) = false := decide_eq_false (by omega)
  have g9 : decide (op = 20) = false := decide_eq_false (by omega)
  have g10 : decide (op = 54) = false := decide_eq_false (by omega)
  have g11 : decide (op = 55) = false := decide_eq_false (by omega)
  have g12 : decide (op = 64) = false := decide_eq_false (by omega)
  simp only [g0, g1, g2, g3, g4, g5, g6, g7, g8, g9, g10, g11, g12]
  rfl
set_option maxRecDepth 100000 in
theorem ref_Form_c38 (op : Int) (h : 38 ≤ op ∧ op ≤ 47) (w : World) : Calls Tryz.prog 76 #[.int .i64 op] w fun e w' => e = .returned (.int .i64 0) ∧ w' = w := by
  have g0 : decide (op ≥ 1) = true := decide_eq_true (by omega)
  have g1 : decide (op ≤ 15) = false := decide_eq_false (by omega)
  have g2 : (op == 16) = false := by rw [beq_eq_false_iff_ne]; omega
  have g3 : decide (op ≥ 32) = true := decide_eq_true (by omega)
  have g4 : decide (op ≤ 37) = false := decide_eq_false (by omega)
  have g5 : decide (op ≥ 48) = false := decide_eq_false (by omega)
  have g6 : decide (op ≤ 53) = true := decide_eq_true (by omega)
  have g7 : decide (op ≥ 17) = true := decide_eq_true (by omega)
  have g8 : decide (op ≤ 19) = false := decide_eq_false (by omega)
  have g9 : (op == 20) = false := by rw [beq_eq_false_iff_ne]; omega
  have g10 : (op == 54) = false := by rw [beq_eq_false_iff_ne]; omega
  have g11 : (op == 55) = false := by rw [beq_eq_false_iff_ne]; omega
  have g12 : (op == 64) = false := by rw [beq_eq_false_iff_ne]; omega
  clear h
  go_enter Tryz.func76, Tryz.ntmps76
  go_wp2
  go_ret
  exact ⟨rfl, rfl⟩
theorem formAt_c38 (op : Int) (h : 38 ≤ op ∧ op ≤ 47) : formAt op = 0 := by
  unfold formAt
  have g0 : decide (1 ≤ op) = true := decide_eq_true (by omega)
  have g1 : decide (op ≤ 15) = false := decide_eq_false (by omega)
  have g2 : decide (op = 16) = false := decide_eq_false (by omega)
  have g3 : decide (32 ≤ op) = true := decide_eq_true (by omega)
  have g4 : decide (op ≤ 37) = false := decide_eq_false (by omega)
  have g5 : decide (48 ≤ op) = false := decide_eq_false (by omega)
  have g6 : decide (op ≤ 53) = true := decide_eq_true (by omega)
  have g7 : decide (17 ≤ op) = true := decide_eq_true (by omega)
  have g8 : decide (op ≤ 19) = false := decide_eq_false (by omega)
  have g9 : decide (op = 20) = false := decide_eq_false (by omega)
  have g10 : decide (op = 54) = false := decide_eq_false (by omega)
  have g11 : decide (op = 55) = false := decide_eq_false (by omega)
  have g12 : decide (op = 64) = false := decide_eq_false (by omega)
  simp only [g0, g1, g2, g3, g4, g5, g6, g7, g8, g9, g10, g11, g12]
  rfl
set_option maxRecDepth 100000 in
theorem ref_Form_c48 (op : Int) (h : 48 ≤ op ∧ op ≤ 53) (w : World) : Calls Tryz.prog 76 #[.int .i64 op] w fun e w' => e = .returned (.int .i64 2) ∧ w' = w := by
  have g0 : decide (op ≥ 1) = true := decide_eq_true (by omega)
  have g1 : decide (op ≤ 15) = false := decide_eq_false (by omega)
  have g2 : (op == 16) = false := by rw [beq_eq_false_iff_ne]; omega
  have g3 : decide (op ≥ 32) = true := decide_eq_true (by omega)
  have g4 : decide (op ≤ 37) = false := decide_eq_false (by omega)
  have g5 : decide (op ≥ 48) = true := decide_eq_true (by omega)
  have g6 : decide (op ≤ 53) = true := decide_eq_true (by omega)
  have g7 : decide (op ≥ 17) = true := decide_eq_true (by omega)
  have g8 : decide (op ≤ 19) = false := decide_eq_false (by omega)
  have g9 : (op == 20) = false := by rw [beq_eq_false_iff_ne]; omega
  have g10 : (op == 54) = false := by rw [beq_eq_false_iff_ne]; omega
  have g11 : (op == 55) = false := by rw [beq_eq_false_iff_ne]; omega
  have g12 : (op == 64) = false := by rw [beq_eq_false_iff_ne]; omega
  clear h
  go_enter Tryz.func76, Tryz.ntmps76
  go_wp2
  go_ret
  exact ⟨rfl, rfl⟩
theorem formAt_c48 (op : Int) (h : 48 ≤ op ∧ op ≤ 53) : formAt op = 2 := by
  unfold formAt
  have g0 : decide (1 ≤ op) = true := decide_eq_true (by omega)
  have g1 : decide (op ≤ 15) = false := decide_eq_false (by omega)
  have g2 : decide (op = 16) = false := decide_eq_false (by omega)
  have g3 : decide (32 ≤ op) = true := decide_eq_true (by omega)
  have g4 : decide (op ≤ 37) = false := decide_eq_false (by omega)
  have g5 : decide (48 ≤ op) = true := decide_eq_true (by omega)
  have g6 : decide (op ≤ 53) = true := decide_eq_true (by omega)
  have g7 : decide (17 ≤ op) = true := decide_eq_true (by omega)
  have g8 : decide (op ≤ 19) = false := decide_eq_false (by omega)
  have g9 : decide (op = 20) = false := decide_eq_false (by omega)
  have g10 : decide (op = 54) = false := decide_eq_false (by omega)
  have g11 : decide (op = 55) = false := decide_eq_false (by omega)
  have g12 : decide (op = 64) = false := decide_eq_false (by omega)
  simp only [g0, g1, g2, g3, g4, g5, g6, g7, g8, g9, g10, g11, g12]
  rfl
set_option maxRecDepth 100000 in
theorem ref_Form_c54 (op : Int) (h : op = 54) (w : World) : Calls Tryz.prog 76 #[.int .i64 op] w fun e w' => e = .returned (.int .i64 5) ∧ w' = w := by
  have g0 : decide (op ≥ 1) = true := decide_eq_true (by omega)
  have g1 : decide (op ≤ 15) = false := decide_eq_false (by omega)
  have g2 : (op == 16) = false := by rw [beq_eq_false_iff_ne]; omega
  have g3 : decide (op ≥ 32) = true := decide_eq_true (by omega)
  have g4 : decide (op ≤ 37) = false := decide_eq_false (by omega)
  have g5 : decide (op ≥ 48) = true := decide_eq_true (by omega)
  have g6 : decide (op ≤ 53) = false := decide_eq_false (by omega)
  have g7 : decide (op ≥ 17) = true := decide_eq_true (by omega)
  have g8 : decide (op ≤ 19) = false := decide_eq_false (by omega)
  have g9 : (op == 20) = false := by rw [beq_eq_false_iff_ne]; omega
  have g10 : (op == 54) = true := by rw [beq_iff_eq]; omega
  have g11 : (op == 55) = false := by rw [beq_eq_false_iff_ne]; omega
  have g12 : (op == 64) = false := by rw [beq_eq_false_iff_ne]; omega
  clear h
  go_enter Tryz.func76, Tryz.ntmps76
  go_wp2
  go_ret
  exact ⟨rfl, rfl⟩
theorem formAt_c54 (op : Int) (h : op = 54) : formAt op = 5 := by
  unfold formAt
  have g0 : decide (1 ≤ op) = true := decide_eq_true (by omega)
  have g1 : decide (op ≤ 15) = false := decide_eq_false (by omega)
  have g2 : decide (op = 16) = false := decide_eq_false (by omega)
  have g3 : decide (32 ≤ op) = true := decide_eq_true (by omega)
  have g4 : decide (op ≤ 37) = false := decide_eq_false (by omega)
  have g5 : decide (48 ≤ op) = true := decide_eq_true (by omega)
  have g6 : decide (op ≤ 53) = false := decide_eq_false (by omega)
  have g7 : decide (17 ≤ op) = true := decide_eq_true (by omega)
  have g8 : decide (op ≤ 19) = false := decide_eq_false (by omega)
  have g9 : decide (op = 20) = false := decide_eq_false (by omega)
  have g10 : decide (op = 54) = true := decide_eq_true (by omega)
  have g11 : decide (op = 55) = false := decide_eq_false (by omega)
  have g12 : decide (op = 64) = false := decide_eq_false (by omega)
  simp only [g0, g1, g2, g3, g4, g5, g6, g7, g8, g9, g10, g11, g12]
  rfl
set_option maxRecDepth 100000 in
theorem ref_Form_c55 (op : Int) (h : op = 55) (w : World) : Calls Tryz.prog 76 #[.int .i64 op] w fun e w' => e = .returned (.int .i64 6) ∧ w' = w := by
  have g0 : decide (op ≥ 1) = true := decide_eq_true (by omega)
  have g1 : decide (op ≤ 15) = false := decide_eq_false (by omega)
  have g2 : (op == 16) = false := by rw [beq_eq_false_iff_ne]; omega
  have g3 : decide (op ≥ 32) = true := decide_eq_true (by omega)
  have g4 : decide (op ≤ 37) = false := decide_eq_false (by omega)
  have g5 : decide (op ≥ 48) = true := decide_eq_true (by omega)
  have g6 : decide (op ≤ 53) = false := decide_eq_false (by omega)
  have g7 : decide (op ≥ 17) = true := decide_eq_true (by omega)
  have g8 : decide (op ≤ 19) = false := decide_eq_false (by omega)
  have g9 : (op == 20) = false := by rw [beq_eq_false_iff_ne]; omega
  have g10 : (op == 54) = false := by rw [beq_eq_false_iff_ne]; omega
  have g11 : (op == 55) = true := by rw [beq_iff_eq]; omega
  have g12 : (op == 64) = false := by rw [beq_eq_false_iff_ne]; omega
  clear h
  go_enter Tryz.func76, Tryz.ntmps76
  go_wp2
  go_ret
  exact ⟨rfl, rfl⟩
theorem formAt_c55 (op : Int) (h : op = 55) : formAt op = 6 := by
  unfold formAt
  have g0 : decide (1 ≤ op) = true := decide_eq_true (by omega)
  have g1 : decide (op ≤ 15) = false := decide_eq_false (by omega)
  have g2 : decide (op = 16) = false := decide_eq_false (by omega)
  have g3 : decide (32 ≤ op) = true := decide_eq_true (by omega)
  have g4 : decide (op ≤ 37) = false := decide_eq_false (by omega)
  have g5 : decide (48 ≤ op) = true := decide_eq_true (by omega)
  have g6 : decide (op ≤ 53) = false := decide_eq_false (by omega)
  have g7 : decide (17 ≤ op) = true := decide_eq_true (by omega)
  have g8 : decide (op ≤ 19) = false := decide_eq_false (by omega)
  have g9 : decide (op = 20) = false := decide_eq_false (by omega)
  have g10 : decide (op = 54) = false := decide_eq_false (by omega)
  have g11 : decide (op = 55) = true := decide_eq_true (by omega)
  have g12 : decide (op = 64) = false := decide_eq_false (by omega)
  simp only [g0, g1, g2, g3, g4, g5, g6, g7, g8, g9, g10, g11, g12]
  rfl
set_option maxRecDepth 100000 in
theorem ref_Form_c56 (op : Int) (h : 56 ≤ op ∧ op ≤ 63) (w : World) : Calls Tryz.prog 76 #[.int .i64 op] w fun e w' => e = .returned (.int .i64 0) ∧ w' = w := by
  have g0 : decide (op ≥ 1) = true := decide_eq_true (by omega)
  have g1 : decide (op ≤ 15) = false := decide_eq_false (by omega)
  have g2 : (op == 16) = false := by rw [beq_eq_false_iff_ne]; omega
  have g3 : decide (op ≥ 32) = true := decide_eq_true (by omega)
  have g4 : decide (op ≤ 37) = false := decide_eq_false (by omega)
  have g5 : decide (op ≥ 48) = true := decide_eq_true (by omega)
  have g6 : decide (op ≤ 53) = false := decide_eq_false (by omega)
  have g7 : decide (op ≥ 17) = true := decide_eq_true (by omega)
  have g8 : decide (op ≤ 19) = false := decide_eq_false (by omega)
  have g9 : (op == 20) = false := by rw [beq_eq_false_iff_ne]; omega
  have g10 : (op == 54) = false := by rw [beq_eq_false_iff_ne]; omega
  have g11 : (op == 55) = false := by rw [beq_eq_false_iff_ne]; omega
  have g12 : (op == 64) = false := by rw [beq_eq_false_iff_ne]; omega
  clear h
  go_enter Tryz.func76, Tryz.ntmps76
  go_wp2
  go_ret
  exact ⟨rfl, rfl⟩
theorem formAt_c56 (op : Int) (h : 56 ≤ op ∧ op ≤ 63) : formAt op = 0 := by
  unfold formAt
  have g0 : decide (1 ≤ op) = true := decide_eq_true (by omega)
  have g1 : decide (op ≤ 15) = false := decide_eq_false (by omega)
  have g2 : decide (op = 16) = false := decide_eq_false (by omega)
  have g3 : decide (32 ≤ op) = true := decide_eq_true (by omega)
  have g4 : decide (op ≤ 37) = false := decide_eq_false (by omega)
  have g5 : decide (48 ≤ op) = true := decide_eq_true (by omega)
  have g6 : decide (op ≤ 53) = false := decide_eq_false (by omega)
  have g7 : decide (17 ≤ op) = true := decide_eq_true (by omega)
  have g8 : decide (op ≤ 19) = false := decide_eq_false (by omega)
  have g9 : decide (op = 20) = false := decide_eq_false (by omega)
  have g10 : decide (op = 54) = false := decide_eq_false (by omega)
  have g11 : decide (op = 55) = false := decide_eq_false (by omega)
  have g12 : decide (op = 64) = false := decide_eq_false (by omega)
  simp only [g0, g1, g2, g3, g4, g5, g6, g7, g8, g9, g10, g11, g12]
  rfl
set_option maxRecDepth 100000 in
theorem ref_Form_c64 (op : Int) (h : op = 64) (w : World) : Calls Tryz.prog 76 #[.int .i64 op] w fun e w' => e = .returned (.int .i64 7) ∧ w' = w := by
  have g0 : decide (op ≥ 1) = true := decide_eq_true (by omega)
  have g1 : decide (op ≤ 15) = false := decide_eq_false (by omega)
  have g2 : (op == 16) = false := by rw [beq_eq_false_iff_ne]; omega
  have g3 : decide (op ≥ 32) = true := decide_eq_true (by omega)
  have g4 : decide (op ≤ 37) = false := decide_eq_false (by omega)
  have g5 : decide (op ≥ 48) = true := decide_eq_true (by omega)
  have g6 : decide (op ≤ 53) = false := decide_eq_false (by omega)
  have g7 : decide (op ≥ 17) = true := decide_eq_true (by omega)
  have g8 : decide (op ≤ 19) = false := decide_eq_false (by omega)
  have g9 : (op == 20) = false := by rw [beq_eq_false_iff_ne]; omega
  have g10 : (op == 54) = false := by rw [beq_eq_false_iff_ne]; omega
  have g11 : (op == 55) = false := by rw [beq_eq_false_iff_ne]; omega
  have g12 : (op == 64) = true := by rw [beq_iff_eq]; omega
  clear h
  go_enter Tryz.func76, Tryz.ntmps76
  go_wp2
  go_ret
  exact ⟨rfl, rfl⟩
theorem formAt_c64 (op : Int) (h : op = 64) : formAt op = 7 := by
  unfold formAt
  have g0 : decide (1 ≤ op) = true := decide_eq_true (by omega)
  have g1 : decide (op ≤ 15) = false := decide_eq_false (by omega)
  have g2 : decide (op = 16) = false := decide_eq_false (by omega)
  have g3 : decide (32 ≤ op) = true := decide_eq_true (by omega)
  have g4 : decide (op ≤ 37) = false := decide_eq_false (by omega)
  have g5 : decide (48 ≤ op) = true := decide_eq_true (by omega)
  have g6 : decide (op ≤ 53) = false := decide_eq_false (by omega)
  have g7 : decide (17 ≤ op) = true := decide_eq_true (by omega)
  have g8 : decide (op ≤ 19) = false := decide_eq_false (by omega)
  have g9 : decide (op = 20) = false := decide_eq_false (by omega)
  have g10 : decide (op = 54) = false := decide_eq_false (by omega)
  have g11 : decide (op = 55) = false := decide_eq_false (by omega)
  have g12 : decide (op = 64) = true := decide_eq_true (by omega)
  simp only [g0, g1, g2, g3, g4, g5, g6, g7, g8, g9, g10, g11, g12]
  rfl
set_option maxRecDepth 100000 in
theorem ref_Form_c65 (op : Int) (h : 65 ≤ op) (w : World) : Calls Tryz.prog 76 #[.int .i64 op] w fun e w' => e = .returned (.int .i64 0) ∧ w' = w := by
  have g0 : decide (op ≥ 1) = true := decide_eq_true (by omega)
  have g1 : decide (op ≤ 15) = false := decide_eq_false (by omega)
  have g2 : (op == 16) = false := by rw [beq_eq_false_iff_ne]; omega
  have g3 : decide (op ≥ 32) = true := decide_eq_true (by omega)
  have g4 : decide (op ≤ 37) = false := decide_eq_false (by omega)
  have g5 : decide (op ≥ 48) = true := decide_eq_true (by omega)
  have g6 : decide (op ≤ 53) = false := decide_eq_false (by omega)
  have g7 : decide (op ≥ 17) = true := decide_eq_true (by omega)
  have g8 : decide (op ≤ 19) = false := decide_eq_false (by omega)
  have g9 : (op == 20) = false := by rw [beq_eq_false_iff_ne]; omega
  have g10 : (op == 54) = false := by rw [beq_eq_false_iff_ne]; omega
  have g11 : (op == 55) = false := by rw [beq_eq_false_iff_ne]; omega
  have g12 : (op == 64) = false := by rw [beq_eq_false_iff_ne]; omega
  clear h
  go_enter Tryz.func76, Tryz.ntmps76
  go_wp2
  go_ret
  exact ⟨rfl, rfl⟩
theorem formAt_c65 (op : Int) (h : 65 ≤ op) : formAt op = 0 := by
  unfold formAt
  have g0 : decide (1 ≤ op) = true := decide_eq_true (by omega)
  have g1 : decide (op ≤ 15) = false := decide_eq_false (by omega)
  have g2 : decide (op = 16) = false := decide_eq_false (by omega)
  have g3 : decide (32 ≤ op) = true := decide_eq_true (by omega)
  have g4 : decide (op ≤ 37) = false := decide_eq_false (by omega)
  have g5 : decide (48 ≤ op) = true := decide_eq_true (by omega)
  have g6 : decide (op ≤ 53) = false := decide_eq_false (by omega)
  have g7 : decide (17 ≤ op) = true := decide_eq_true (by omega)
  have g8 : decide (op ≤ 19) = false := decide_eq_false (by omega)
  have g9 : decide (op = 20) = false := decide_eq_false (by omega)
  have g10 : decide (op = 54) = false := decide_eq_false (by omega)
  have g11 : decide (op = 55) = false := decide_eq_false (by omega)
  have g12 : decide (op = 64) = false := decide_eq_false (by omega)
  simp only [g0, g1, g2, g3, g4, g5, g6, g7, g8, g9, g10, g11, g12]
  rfl
theorem ref_Form (op : Int) (w : World) : Calls Tryz.prog 76 #[.int .i64 op] w fun e w' => e = .returned (.int .i64 (formAt op : Nat)) ∧ w' = w := by
  have hc : (op < 1) ∨ (1 ≤ op ∧ op ≤ 15) ∨ (op = 16) ∨ (17 ≤ op ∧ op ≤ 19) ∨ (op = 20) ∨ (21 ≤ op ∧ op ≤ 31) ∨ (32 ≤ op ∧ op ≤ 37) ∨ (38 ≤ op ∧ op ≤ 47) ∨ (48 ≤ op ∧ op ≤ 53) ∨ (op = 54) ∨ (op = 55) ∨ (56 ≤ op ∧ op ≤ 63) ∨ (op = 64) ∨ (65 ≤ op) := by omega
  rcases hc with h | h | h | h | h | h | h | h | h | h | h | h | h | h
  · rw [formAt_lt1 op h]; exact ref_Form_lt1 op h w
  · rw [formAt_c1 op h]; exact ref_Form_c1 op h w
  · rw [formAt_c16 op h]; exact ref_Form_c16 op h w
  · rw [formAt_c17 op h]; exact ref_Form_c17 op h w
  · rw [formAt_c20 op h]; exact ref_Form_c20 op h w
  · rw [formAt_c21 op h]; exact ref_Form_c21 op h w
  · rw [formAt_c32 op h]; exact ref_Form_c32 op h w
  · rw [formAt_c38 op h]; exact ref_Form_c38 op h w
  · rw [formAt_c48 op h]; exact ref_Form_c48 op h w
  · rw [formAt_c54 op h]; exact ref_Form_c54 op h w
  · rw [formAt_c55 op h]; exact ref_Form_c55 op h w
  · rw [formAt_c56 op h]; exact ref_Form_c56 op h w
  · rw [formAt_c64 op h]; exact ref_Form_c64 op h w
  · rw [formAt_c65 op h]; exact ref_Form_c65 op h w
set_option maxRecDepth 100000 in
theorem ref_Uses_1_65 (w : World) : Calls Tryz.prog 77 #[.int .i64 1, .int .u8 65] w fun e w' => e = .returned (.bool true) ∧ w' = w := by
  go_enter Tryz.func77, Tryz.ntmps77
  go_wp2
  go_rounds 5
  go_ret
  exact ⟨rfl, rfl⟩
set_option maxRecDepth 100000 in
theorem ref_Uses_1_66 (w : World) : Calls Tryz.prog 77 #[.int .i64 1, .int .u8 66] w fun e w' => e = .returned (.bool true) ∧ w' = w := by
  go_enter Tryz.func77, Tryz.ntmps77
  go_wp2
  go_rounds 5
  go_ret
  exact ⟨rfl, rfl⟩
set_option maxRecDepth 100000 in
theorem ref_Uses_1_67 (w : World) : Calls Tryz.prog 77 #[.int .i64 1, .int .u8 67] w fun e w' => e = .returned (.bool true) ∧ w' = w := by
  go_enter Tryz.func77, Tryz.ntmps77
  go_wp2
  go_rounds 5
  go_ret
  exact ⟨rfl, rfl⟩
set_option maxRecDepth 100000 in
theorem ref_Uses_1_73 (w : World) : Calls Tryz.prog 77 #[.int .i64 1, .int .u8 73] w fun e w' => e = .returned (.bool false) ∧ w' = w := by
  go_enter Tryz.func77, Tryz.ntmps77
  go_wp2
  go_rounds 5
  go_ret
  exact ⟨rfl, rfl⟩
set_option maxRecDepth 100000 in
theorem ref_Uses_1_85 (w : World) : Calls Tryz.prog 77 #[.int .i64 1, .int .u8 85] w fun e w' => e = .returned (.bool false) ∧ w' = w := by
  go_enter Tryz.func77, Tryz.ntmps77
  go_wp2
  go_rounds 5
  go_ret
  exact ⟨rfl, rfl⟩
set_option maxRecDepth 100000 in
theorem ref_Uses_2_65 (w : World) : Calls Tryz.prog 77 #[.int .i64 2, .int .u8 65] w fun e w' => e = .returned (.bool true) ∧ w' = w := by
  go_enter Tryz.func77, Tryz.ntmps77
  go_wp2
  go_rounds 5
  go_ret
  exact ⟨rfl, rfl⟩
set_option maxRecDepth 100000 in
theorem ref_Uses_2_66 (w : World) : Calls Tryz.prog 77 #[.int .i64 2, .int .u8 66] w fun e w' => e = .returned (.bool true) ∧ w' = w := by
  go_enter Tryz.func77, Tryz.ntmps77
  go_wp2
  go_rounds 5
  go_ret
  exact ⟨rfl, rfl⟩
set_option maxRecDepth 100000 in
theorem ref_Uses_2_67 (w : World) : Calls Tryz.prog 77 #[.int .i64 2, .int .u8 67] w fun e w' => e = .returned (.bool false) ∧ w' = w := by
  go_enter Tryz.func77, Tryz.ntmps77
  go_wp2
  go_rounds 5
  go_ret
  exact ⟨rfl, rfl⟩
set_option maxRecDepth 100000 in
theorem ref_Uses_2_73 (w : World) : Calls Tryz.prog 77 #[.int .i64 2, .int .u8 73] w fun e w' => e = .returned (.bool true) ∧ w' = w := by
  go_enter Tryz.func77, Tryz.ntmps77
  go_wp2
  go_rounds 5
  go_ret
  exact ⟨rfl, rfl⟩
set_option maxRecDepth 100000 in
theorem ref_Uses_2_85 (w : World) : Calls Tryz.prog 77 #[.int .i64 2, .int .u8 85] w fun e w' => e = .returned (.bool false) ∧ w' = w := by
  go_enter Tryz.func77, Tryz.ntmps77
  go_wp2
  go_rounds 5
  go_ret
  exact ⟨rfl, rfl⟩
set_option maxRecDepth 100000 in
theorem ref_Uses_3_65 (w : World) : Calls Tryz.prog 77 #[.int .i64 3, .int .u8 65] w fun e w' => e = .returned (.bool true) ∧ w' = w := by
  go_enter Tryz.func77, Tryz.ntmps77
  go_wp2
  go_rounds 5
  go_ret
  exact ⟨rfl, rfl⟩
set_option maxRecDepth 100000 in
theorem ref_Uses_3_66 (w : World) : Calls Tryz.prog 77 #[.int .i64 3, .int .u8 66] w fun e w' => e = .returned (.bool true) ∧ w' = w := by
  go_enter Tryz.func77, Tryz.ntmps77
  go_wp2
  go_rounds 5
  go_ret
  exact ⟨rfl, rfl⟩
set_option maxRecDepth 100000 in
theorem ref_Uses_3_67 (w : World) : Calls Tryz.prog 77 #[.int .i64 3, .int .u8 67] w fun e w' => e = .returned (.bool false) ∧ w' = w := by
  go_enter Tryz.func77, Tryz.ntmps77
  go_wp2
  go_rounds 5
  go_ret
  exact ⟨rfl, rfl⟩
set_option maxRecDepth 100000 in
theorem ref_Uses_3_73 (w : World) : Calls Tryz.prog 77 #[.int .i64 3, .int .u8 73] w fun e w' => e = .returned (.bool false) ∧ w' = w := by
  go_enter Tryz.func77, Tryz.ntmps77
  go_wp2
  go_rounds 5
  go_ret
  exact ⟨rfl, rfl⟩
set_option maxRecDepth 100000 in
theorem ref_Uses_3_85 (w : World) : Calls Tryz.prog 77 #[.int .i64 3, .int .u8 85] w fun e w' => e = .returned (.bool true) ∧ w' = w := by
  go_enter Tryz.func77, Tryz.ntmps77
  go_wp2
  go_rounds 5
  go_ret
  exact ⟨rfl, rfl⟩
set_option maxRecDepth 100000 in
theorem ref_Uses_4_65 (w : World) : Calls Tryz.prog 77 #[.int .i64 4, .int .u8 65] w fun e w' => e = .returned (.bool true) ∧ w' = w := by
  go_enter Tryz.func77, Tryz.ntmps77
  go_wp2
  go_rounds 5
  go_ret
  exact ⟨rfl, rfl⟩
set_option maxRecDepth 100000 in
theorem ref_Uses_4_66 (w : World) : Calls Tryz.prog 77 #[.int .i64 4, .int .u8 66] w fun e w' => e = .returned (.bool false) ∧ w' = w := by
  go_enter Tryz.func77, Tryz.ntmps77
  go_wp2
  go_rounds 5
  go_ret
  exact ⟨rfl, rfl⟩
set_option maxRecDepth 100000 in
theorem ref_Uses_4_67 (w : World) : Calls Tryz.prog 77 #[.int .i64 4, .int .u8 67] w fun e w' => e = .returned (.bool false) ∧ w' = w := by
  go_enter Tryz.func77, Tryz.ntmps77
  go_wp2
  go_rounds 5
  go_ret
  exact ⟨rfl, rfl⟩
set_option maxRecDepth 100000 in
theorem ref_Uses_4_73 (w : World) : Calls Tryz.prog 77 #[.int .i64 4, .int .u8 73] w fun e w' => e = .returned (.bool false) ∧ w' = w := by
  go_enter Tryz.func77, Tryz.ntmps77
  go_wp2
  go_rounds 5
  go_ret
  exact ⟨rfl, rfl⟩
set_option maxRecDepth 100000 in
theorem ref_Uses_4_85 (w : World) : Calls Tryz.prog 77 #[.int .i64 4, .int .u8 85] w fun e w' => e = .returned (.bool true) ∧ w' = w := by
  go_enter Tryz.func77, Tryz.ntmps77
  go_wp2
  go_rounds 5
  go_ret
  exact ⟨rfl, rfl⟩
set_option maxRecDepth 100000 in
theorem ref_Uses_5_65 (w : World) : Calls Tryz.prog 77 #[.int .i64 5, .int .u8 65] w fun e w' => e = .returned (.bool true) ∧ w' = w := by
  go_enter Tryz.func77, Tryz.ntmps77
  go_wp2
  go_rounds 5
  go_ret
  exact ⟨rfl, rfl⟩
set_option maxRecDepth 100000 in
theorem ref_Uses_5_66 (w : World) : Calls Tryz.prog 77 #[.int .i64 5, .int .u8 66] w fun e w' => e = .returned (.bool false) ∧ w' = w := by
  go_enter Tryz.func77, Tryz.ntmps77
  go_wp2
  go_rounds 5
  go_ret
  exact ⟨rfl, rfl⟩
set_option maxRecDepth 100000 in
theorem ref_Uses_5_67 (w : World) : Calls Tryz.prog 77 #[.int .i64 5, .int .u8 67] w fun e w' => e = .returned (.bool false) ∧ w' = w := by
  go_enter Tryz.func77, Tryz.ntmps77
  go_wp2
  go_rounds 5
  go_ret
  exact ⟨rfl, rfl⟩
set_option maxRecDepth 100000 in
theorem ref_Uses_5_73 (w : World) : Calls Tryz.prog 77 #[.int .i64 5, .int .u8 73] w fun e w' => e = .returned (.bool true) ∧ w' = w := by
  go_enter Tryz.func77, Tryz.ntmps77
  go_wp2
  go_rounds 5
  go_ret
  exact ⟨rfl, rfl⟩
set_option maxRecDepth 100000 in
theorem ref_Uses_5_85 (w : World) : Calls Tryz.prog 77 #[.int .i64 5, .int .u8 85] w fun e w' => e = .returned (.bool false) ∧ w' = w := by
  go_enter Tryz.func77, Tryz.ntmps77
  go_wp2
  go_rounds 5
  go_ret
  exact ⟨rfl, rfl⟩
set_option maxRecDepth 100000 in
theorem ref_Uses_6_65 (w : World) : Calls Tryz.prog 77 #[.int .i64 6, .int .u8 65] w fun e w' => e = .returned (.bool false) ∧ w' = w := by
  go_enter Tryz.func77, Tryz.ntmps77
  go_wp2
  go_rounds 5
  go_ret
  exact ⟨rfl, rfl⟩
set_option maxRecDepth 100000 in
theorem ref_Uses_6_66 (w : World) : Calls Tryz.prog 77 #[.int .i64 6, .int .u8 66] w fun e w' => e = .returned (.bool true) ∧ w' = w := by
  go_enter Tryz.func77, Tryz.ntmps77
  go_wp2
  go_rounds 5
  go_ret
  exact ⟨rfl, rfl⟩
set_option maxRecDepth 100000 in
theorem ref_Uses_6_67 (w : World) : Calls Tryz.prog 77 #[.int .i64 6, .int .u8 67] w fun e w' => e = .returned (.bool false) ∧ w' = w := by
  go_enter Tryz.func77, Tryz.ntmps77
  go_wp2
  go_rounds 5
  go_ret
  exact ⟨rfl, rfl⟩
set_option maxRecDepth 100000 in
theorem ref_Uses_6_73 (w : World) : Calls Tryz.prog 77 #[.int .i64 6, .int .u8 73] w fun e w' => e = .returned (.bool true) ∧ w' = w := by
  go_enter Tryz.func77, Tryz.ntmps77
  go_wp2
  go_rounds 5
  go_ret
  exact ⟨rfl, rfl⟩
set_option maxRecDepth 100000 in
theorem ref_Uses_6_85 (w : World) : Calls Tryz.prog 77 #[.int .i64 6, .int .u8 85] w fun e w' => e = .returned (.bool false) ∧ w' = w := by
  go_enter Tryz.func77, Tryz.ntmps77
  go_wp2
  go_rounds 5
  go_ret
  exact ⟨rfl, rfl⟩
set_option maxRecDepth 100000 in
theorem ref_Uses_7_65 (w : World) : Calls Tryz.prog 77 #[.int .i64 7, .int .u8 65] w fun e w' => e = .returned (.bool false) ∧ w' = w := by
  go_enter Tryz.func77, Tryz.ntmps77
  go_wp2
  go_rounds 5
  go_ret
  exact ⟨rfl, rfl⟩
set_option maxRecDepth 100000 in
theorem ref_Uses_7_66 (w : World) : Calls Tryz.prog 77 #[.int .i64 7, .int .u8 66] w fun e w' => e = .returned (.bool false) ∧ w' = w := by
  go_enter Tryz.func77, Tryz.ntmps77
  go_wp2
  go_rounds 5
  go_ret
  exact ⟨rfl, rfl⟩
set_option maxRecDepth 100000 in
theorem ref_Uses_7_67 (w : World) : Calls Tryz.prog 77 #[.int .i64 7, .int .u8 67] w fun e w' => e = .returned (.bool false) ∧ w' = w := by
  go_enter Tryz.func77, Tryz.ntmps77
  go_wp2
  go_rounds 5
  go_ret
  exact ⟨rfl, rfl⟩
set_option maxRecDepth 100000 in
theorem ref_Uses_7_73 (w : World) : Calls Tryz.prog 77 #[.int .i64 7, .int .u8 73] w fun e w' => e = .returned (.bool false) ∧ w' = w := by
  go_enter Tryz.func77, Tryz.ntmps77
  go_wp2
  go_rounds 5
  go_ret
  exact ⟨rfl, rfl⟩
set_option maxRecDepth 100000 in
theorem ref_Uses_7_85 (w : World) : Calls Tryz.prog 77 #[.int .i64 7, .int .u8 85] w fun e w' => e = .returned (.bool true) ∧ w' = w := by
  go_enter Tryz.func77, Tryz.ntmps77
  go_wp2
  go_rounds 5
  go_ret
  exact ⟨rfl, rfl⟩
def usU (f : Nat) : Bool := decide (f = 3) || decide (f = 4) || decide (f = 7)
theorem ref_Uses_A (f : Nat) (h1 : 1 ≤ f) (h7 : f ≤ 7) (w : World) : Calls Tryz.prog 77 #[.int .i64 (f : Int), .int .u8 65] w fun e w' => e = .returned (.bool (usA f)) ∧ w' = w := by
  rcases form_cases h1 h7 with rfl | rfl | rfl | rfl | rfl | rfl | rfl
  · exact ref_Uses_1_65 w
  · exact ref_Uses_2_65 w
  · exact ref_Uses_3_65 w
  · exact ref_Uses_4_65 w
  · exact ref_Uses_5_65 w
  · exact ref_Uses_6_65 w
  · exact ref_Uses_7_65 w
theorem ref_Uses_B (f : Nat) (h1 : 1 ≤ f) (h7 : f ≤ 7) (w : World) : Calls Tryz.prog 77 #[.int .i64 (f : Int), .int .u8 66] w fun e w' => e = .returned (.bool (usB f)) ∧ w' = w := by
  rcases form_cases h1 h7 with rfl | rfl | rfl | rfl | rfl | rfl | rfl
  · exact ref_Uses_1_66 w
  · exact ref_Uses_2_66 w
  · exact ref_Uses_3_66 w
  · exact ref_Uses_4_66 w
  · exact ref_Uses_5_66 w
  · exact ref_Uses_6_66 w
  · exact ref_Uses_7_66 w
theorem ref_Uses_C (f : Nat) (h1 : 1 ≤ f) (h7 : f ≤ 7) (w : World) : Calls Tryz.prog 77 #[.int .i64 (f : Int), .int .u8 67] w fun e w' => e = .returned (.bool (usC f)) ∧ w' = w := by
  rcases form_cases h1 h7 with rfl | rfl | rfl | rfl | rfl | rfl | rfl
  · exact ref_Uses_1_67 w
  · exact ref_Uses_2_67 w
  · exact ref_Uses_3_67 w
  · exact ref_Uses_4_67 w
  · exact ref_Uses_5_67 w
  · exact ref_Uses_6_67 w
  · exact ref_Uses_7_67 w
theorem ref_Uses_I (f : Nat) (h1 : 1 ≤ f) (h7 : f ≤ 7) (w : World) : Calls Tryz.prog 77 #[.int .i64 (f : Int), .int .u8 73] w fun e w' => e = .returned (.bool (usS f)) ∧ w' = w := by
  rcases form_cases h1 h7 with rfl | rfl | rfl | rfl | rfl | rfl | rfl
  · exact ref_Uses_1_73 w
  · exact ref_Uses_2_73 w
  · exact ref_Uses_3_73 w
  · exact ref_Uses_4_73 w
  · exact ref_Uses_5_73 w
  · exact ref_Uses_6_73 w
  · exact ref_Uses_7_73 w
theorem ref_Uses_U (f : Nat) (h1 : 1 ≤ f) (h7 : f ≤ 7) (w : World) : Calls Tryz.prog 77 #[.int .i64 (f : Int), .int .u8 85] w fun e w' => e = .returned (.bool (usU f)) ∧ w' = w := by
  rcases form_cases h1 h7 with rfl | rfl | rfl | rfl | rfl | rfl | rfl
  · exact ref_Uses_1_85 w
  · exact ref_Uses_2_85 w
  · exact ref_Uses_3_85 w
  · exact ref_Uses_4_85 w
  · exact ref_Uses_5_85 w
  · exact ref_Uses_6_85 w
  · exact ref_Uses_7_85 w
set_option maxRecDepth 100000 in
theorem ref_within (u : Bool) (n lo hi : Int) (t : Bool) (ht : (bif u then decide (lo ≤ n) && decide (n ≤ hi) else decide (n = 0)) = t) (w : World) :
    Calls Tryz.prog 95 #[.bool u, .int .i64 n, .int .i64 lo, .int .i64 hi] w fun e w' => e = .returned (.bool t) ∧ w' = w := by
  cases u
  · have g : (n == 0) = t := by rw [← ht]; by_cases h : n = 0 <;> simp [h]
    clear ht
    go_enter Tryz.func95, Tryz.ntmps95
    go_wp2
    go_ret
    exact ⟨by first | rfl | rw [g], rfl⟩
  · simp only [cond_true] at ht
    by_cases h1 : lo ≤ n
    · have g1 : decide (n ≥ lo) = true := decide_eq_true h1
      have g2 : decide (n ≤ hi) = t := by rw [← ht, decide_eq_true h1, Bool.true_and]
      clear ht h1
      go_enter Tryz.func95, Tryz.ntmps95
      go_wp2
      go_ret
      exact ⟨by first | rfl | rw [g2], rfl⟩
    · have g1 : decide (n ≥ lo) = false := decide_eq_false h1
      have g2 : t = false := by rw [← ht, decide_eq_false h1, Bool.false_and]
      subst g2
      clear ht h1
      go_enter Tryz.func95, Tryz.ntmps95
      go_wp2
      go_ret
      exact ⟨rfl, rfl⟩
end Go.Proofs.YtadikbmbadldpaaGreatDoor
