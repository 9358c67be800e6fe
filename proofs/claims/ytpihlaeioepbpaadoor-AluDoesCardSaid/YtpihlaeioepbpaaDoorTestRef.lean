/- The document's Test: walked. -/
import Derived.Test.YtpihlaeioepbpaaDoorDoesRef
namespace Go.Proofs.YtpihlaeioepbpaaDoor
open Go Go.RowKit
set_option linter.unusedVariables false

set_option maxRecDepth 100000 in
theorem ref_test_48 (b c : BitVec 32) (w : World) :
    Calls Tryd.prog 36 #[.int .i64 48, .int .u32 (b.toNat : Int), .int .u32 (c.toNat : Int)] w fun e w' => e = .returned (.tuple #[.bool (b.toNat == c.toNat), .int .i64 0]) ∧ w' = w := by
  obtain ⟨t, ht⟩ : ∃ t, t = (b.toNat == c.toNat) := ⟨_, rfl⟩
  have t1 : ((b.toNat : Int) == (c.toNat : Int)) = t := by rw [ht, Bool.eq_iff_iff]; simp <;> omega
  rw [← ht]
  clear ht
  go_enter Tryd.func36, Tryd.ntmps36
  go_wp2
  go_ret2
  exact ⟨rfl, rfl⟩
set_option maxRecDepth 100000 in
theorem ref_test_49 (b c : BitVec 32) (w : World) :
    Calls Tryd.prog 36 #[.int .i64 49, .int .u32 (b.toNat : Int), .int .u32 (c.toNat : Int)] w fun e w' => e = .returned (.tuple #[.bool (b.toNat != c.toNat), .int .i64 0]) ∧ w' = w := by
  obtain ⟨t, ht⟩ : ∃ t, t = (b.toNat != c.toNat) := ⟨_, rfl⟩
  have t1 : ((b.toNat : Int) != (c.toNat : Int)) = t := by rw [ht, Bool.eq_iff_iff]; simp <;> omega
  rw [← ht]
  clear ht
  go_enter Tryd.func36, Tryd.ntmps36
  go_wp2
  go_ret2
  exact ⟨rfl, rfl⟩
set_option maxRecDepth 100000 in
theorem ref_test_50 (b c : BitVec 32) (w : World) :
    Calls Tryd.prog 36 #[.int .i64 50, .int .u32 (b.toNat : Int), .int .u32 (c.toNat : Int)] w fun e w' => e = .returned (.tuple #[.bool (decide (b.toNat < c.toNat)), .int .i64 0]) ∧ w' = w := by
  obtain ⟨t, ht⟩ : ∃ t, t = (decide (b.toNat < c.toNat)) := ⟨_, rfl⟩
  have t1 : decide ((b.toNat : Int) < (c.toNat : Int)) = t := by rw [ht]; simp
  have t2 : decide (b.toNat < c.toNat) = t := ht.symm
  rw [← ht]
  clear ht
  go_enter Tryd.func36, Tryd.ntmps36
  go_wp2
  go_ret2
  exact ⟨rfl, rfl⟩
set_option maxRecDepth 100000 in
theorem ref_test_52 (b c : BitVec 32) (w : World) :
    Calls Tryd.prog 36 #[.int .i64 52, .int .u32 (b.toNat : Int), .int .u32 (c.toNat : Int)] w fun e w' => e = .returned (.tuple #[.bool (decide (c.toNat ≤ b.toNat)), .int .i64 0]) ∧ w' = w := by
  obtain ⟨t, ht⟩ : ∃ t, t = (decide (c.toNat ≤ b.toNat)) := ⟨_, rfl⟩
  have t1 : decide ((c.toNat : Int) ≤ (b.toNat : Int)) = t := by rw [ht]; simp
  have t2 : decide (c.toNat ≤ b.toNat) = t := ht.symm
  rw [← ht]
  clear ht
  go_enter Tryd.func36, Tryd.ntmps36
  go_wp2
  go_ret2
  exact ⟨rfl, rfl⟩
set_option maxRecDepth 100000 in
theorem ref_test_51 (b c : BitVec 32) (w : World) :
    Calls Tryd.prog 36 #[.int .i64 51, .int .u32 (b.toNat : Int), .int .u32 (c.toNat : Int)] w fun e w' => e = .returned (.tuple #[.bool (decide (b.toInt < c.toInt)), .int .i64 0]) ∧ w' = w := by
  obtain ⟨t, ht⟩ : ∃ t, t = (decide (b.toInt < c.toInt)) := ⟨_, rfl⟩
  have t1 : decide (b.toInt < c.toInt) = t := ht.symm
  rw [← ht]
  clear ht
  go_enter Tryd.func36, Tryd.ntmps36
  go_wp2_with fail
  refine (ref_signed b _).mono ?_
  rintro e w1 ⟨rfl, hw⟩
  obtain rfl := hw.symm
  clear hw
  go_wp2_with fail
  refine (ref_signed c _).mono ?_
  rintro e w1 ⟨rfl, hw⟩
  obtain rfl := hw.symm
  clear hw
  go_wp2
  go_ret2
  exact ⟨rfl, rfl⟩
set_option maxRecDepth 100000 in
theorem ref_test_53 (b c : BitVec 32) (w : World) :
    Calls Tryd.prog 36 #[.int .i64 53, .int .u32 (b.toNat : Int), .int .u32 (c.toNat : Int)] w fun e w' => e = .returned (.tuple #[.bool (decide (c.toInt ≤ b.toInt)), .int .i64 0]) ∧ w' = w := by
  obtain ⟨t, ht⟩ : ∃ t, t = (decide (c.toInt ≤ b.toInt)) := ⟨_, rfl⟩
  have t1 : decide (c.toInt ≤ b.toInt) = t := ht.symm
  rw [← ht]
  clear ht
  go_enter Tryd.func36, Tryd.ntmps36
  go_wp2_with fail
  refine (ref_signed b _).mono ?_
  rintro e w1 ⟨rfl, hw⟩
  obtain rfl := hw.symm
  clear hw
  go_wp2_with fail
  refine (ref_signed c _).mono ?_
  rintro e w1 ⟨rfl, hw⟩
  obtain rfl := hw.symm
  clear hw
  go_wp2
  go_ret2
  exact ⟨rfl, rfl⟩
set_option maxRecDepth 100000 in
theorem ref_test_no (op : Int) (b c : BitVec 32) (w : World) (hop : ¬ (48 ≤ op ∧ op ≤ 53)) :
    Calls Tryd.prog 36 #[.int .i64 op, .int .u32 (b.toNat : Int), .int .u32 (c.toNat : Int)] w fun e w' => e = .returned (.tuple #[.bool false, .int .i64 7]) ∧ w' = w := by
  have n48 : (op == 48) = false := by rw [beq_eq_false_iff_ne]; omega
  have n49 : (op == 49) = false := by rw [beq_eq_false_iff_ne]; omega
  have n50 : (op == 50) = false := by rw [beq_eq_false_iff_ne]; omega
  have n51 : (op == 51) = false := by rw [beq_eq_false_iff_ne]; omega
  have n52 : (op == 52) = false := by rw [beq_eq_false_iff_ne]; omega
  have n53 : (op == 53) = false := by rw [beq_eq_false_iff_ne]; omega
  clear hop
  go_enter Tryd.func36, Tryd.ntmps36
  go_wp2
  go_ret2
  exact ⟨rfl, rfl⟩
end Go.Proofs.YtpihlaeioepbpaaDoor
