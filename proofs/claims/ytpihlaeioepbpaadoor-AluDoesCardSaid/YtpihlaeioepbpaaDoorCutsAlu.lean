/- Package alu's Field, Place, Sext, Word where they refuse. -/
import Derived.Test.YtpihlaeioepbpaaDoorAluField
import Derived.Test.YtpihlaeioepbpaaDoorLaid
import Derived.Deep.QuietTactic
import Derived.BigQuiet
namespace Go.Proofs.YtpihlaeioepbpaaDoor
open Go Go.RowKit
set_option linter.unusedVariables false

/-- There are such bits. -/
def Within (lo n : Int) : Prop := 0 ≤ lo ∧ lo ≤ 31 ∧ 1 ≤ n ∧ n ≤ 32 - lo
set_option maxRecDepth 100000 in
theorem alu_out (lo n : Int) (w : World) (h : ¬ Within lo n) :
    Calls Tryd.prog 48 #[.int .i64 lo, .int .i64 n] w fun e w' => e = .returned (.bool false) ∧ w' = w := by
  unfold Within at h
  by_cases c1 : 0 ≤ lo
  · have b1 : decide ((0 : Int) ≤ lo) = true := decide_eq_true c1
    by_cases c2 : lo ≤ 31
    · have b2 : decide (lo ≤ (31 : Int)) = true := decide_eq_true c2
      by_cases c3 : 1 ≤ n
      · have b3 : decide ((1 : Int) ≤ n) = true := decide_eq_true c3
        have b4 : decide (n ≤ 32 - lo) = false := decide_eq_false (by omega)
        clear h c3
        go_enter Tryd.func48, Tryd.ntmps48
        go_wp2
        go_ret
        exact ⟨rfl, rfl⟩
      · have b3 : decide ((1 : Int) ≤ n) = false := decide_eq_false c3
        clear h c3 c1 c2
        go_enter Tryd.func48, Tryd.ntmps48
        go_wp2
        go_ret
        exact ⟨rfl, rfl⟩
    · have b2 : decide (lo ≤ (31 : Int)) = false := decide_eq_false c2
      clear h c1 c2
      go_enter Tryd.func48, Tryd.ntmps48
      go_wp2
      go_ret
      exact ⟨rfl, rfl⟩
  · have b1 : decide ((0 : Int) ≤ lo) = false := decide_eq_false c1
    clear h c1
    go_enter Tryd.func48, Tryd.ntmps48
    go_wp2
    go_ret
    exact ⟨rfl, rfl⟩
set_option maxRecDepth 100000 in
theorem alu_field_no (A : Nat → Addr) (x : BitVec 32) (lo n : Int) (w : World) (h : ¬ Within lo n) (hE : Errs w [12] A) :
    Calls Tryd.prog 19 #[.int .u32 (x.toNat : Int), .int .i64 lo, .int .i64 n] w fun e w' => e = .returned (.tuple #[.int .u32 0, errv (A 12)]) ∧ Drew w w' := by
  have E12 := hE.cell 12 (by simp)
  simp only [errVar] at E12
  have K := Kp.mk (fun w => alu_out lo n w h)
  clear hE h
  go_enter Tryd.func19, Tryd.ntmps19
  go_wp2_with fail
  refine (K.out _).mono ?_
  rintro e w1 ⟨rfl, rfl⟩
  go_wp2
  go_region
  all_goals (go_wp2; go_ret2; exact ⟨rfl, Drew.once _⟩)
set_option maxRecDepth 100000 in
theorem alu_place_no (A : Nat → Addr) (x : BitVec 32) (lo n : Int) (v : BitVec 32) (w : World) (h : ¬ Within lo n) (hE : Errs w [12] A) :
    Calls Tryd.prog 18 #[.int .u32 (x.toNat : Int), .int .i64 lo, .int .i64 n, .int .u32 (v.toNat : Int)] w fun e w' => e = .returned (.tuple #[.int .u32 0, errv (A 12)]) ∧ Drew w w' := by
  have E12 := hE.cell 12 (by simp)
  simp only [errVar] at E12
  have K := Kp.mk (fun w => alu_out lo n w h)
  clear hE h
  go_enter Tryd.func18, Tryd.ntmps18
  go_wp2_with fail
  refine (K.out _).mono ?_
  rintro e w1 ⟨rfl, rfl⟩
  go_wp2
  go_region
  all_goals (go_wp2; go_ret2; exact ⟨rfl, Drew.once _⟩)
set_option maxRecDepth 100000 in
theorem alu_place_big (A : Nat → Addr) (x : BitVec 32) (lo n : Nat) (v : BitVec 32) (w : World) (h1 : lo ≤ 31) (h2 : 1 ≤ n) (h3 : n + lo ≤ 32) (hv : ¬ v.toNat ≤ (Alu.onesN n).toNat) (hE : Errs w [4] A) :
    Calls Tryd.prog 18 #[.int .u32 (x.toNat : Int), .int .i64 (lo : Int), .int .i64 (n : Int), .int .u32 (v.toNat : Int)] w fun e w' => e = .returned (.tuple #[.int .u32 0, errv (A 4)]) ∧ Drew w w' := by
  have E4 := hE.cell 4 (by simp)
  simp only [errVar] at E4
  obtain ⟨o, ho⟩ : ∃ o, o = Alu.onesN n := ⟨_, rfl⟩
  have CO := fun w => alu_ones_of n (by omega) w
  rw [← ho] at CO hv
  have K := Kp.mk CO
  have KI := Kp.mk (alu_in lo n h1 h2 h3)
  have hb : decide ((o.toNat : Int) < (v.toNat : Int)) = true := decide_eq_true (by omega)
  have hbn : decide (o.toNat < v.toNat) = true := decide_eq_true (by omega)
  clear hE ho CO hv
  go_enter Tryd.func18, Tryd.ntmps18
  go_wp2_with fail
  refine (KI.out _).mono ?_
  rintro e w1 ⟨rfl, rfl⟩
  go_wp2_with fail
  refine (K.out _).mono ?_
  rintro e w1 ⟨rfl, rfl⟩
  go_wp2
  go_region
  all_goals (go_wp2; go_ret2; exact ⟨rfl, Drew.once _⟩)
set_option maxRecDepth 100000 in
theorem alu_sext_no (A : Nat → Addr) (x : BitVec 32) (n : Int) (w : World) (h : n < 1 ∨ 32 < n) (hE : Errs w [12] A) :
    Calls Tryd.prog 20 #[.int .u32 (x.toNat : Int), .int .i64 n] w fun e w' => e = .returned (.tuple #[.int .u32 0, errv (A 12)]) ∧ Drew w w' := by
  have E12 := hE.cell 12 (by simp)
  simp only [errVar] at E12
  clear hE
  by_cases h0 : n < 1
  · have b1 : decide (n < 1) = true := decide_eq_true h0
    clear h0 h
    go_enter Tryd.func20, Tryd.ntmps20
    go_wp2
    go_region
    all_goals (go_wp2; go_ret2; exact ⟨rfl, Drew.once _⟩)
  · have b1 : decide (n < 1) = false := decide_eq_false h0
    have b2 : decide ((32 : Int) < n) = true := decide_eq_true (by omega)
    clear h0 h
    go_enter Tryd.func20, Tryd.ntmps20
    go_wp2
    go_region
    all_goals (go_wp2; go_ret2; exact ⟨rfl, Drew.once _⟩)
set_option maxRecDepth 100000 in
theorem alu_word_no (A : Nat → Addr) (k : Int) (w : World) (h : k < -2147483648 ∨ 4294967295 < k) (hE : Errs w [4] A) :
    Calls Tryd.prog 21 #[.int .i64 k] w fun e w' => e = .returned (.tuple #[.int .u32 0, errv (A 4)]) ∧ Drew w w' := by
  have E4 := hE.cell 4 (by simp)
  simp only [errVar] at E4
  clear hE
  by_cases h0 : k < -2147483648
  · have b1 : decide (k < -2147483648) = true := decide_eq_true h0
    clear h0 h
    go_enter Tryd.func21, Tryd.ntmps21
    go_wp2
    go_region
    all_goals (go_wp2; go_ret2; exact ⟨rfl, Drew.once _⟩)
  · have b1 : decide (k < -2147483648) = false := decide_eq_false h0
    have b2 : decide ((4294967295 : Int) < k) = true := decide_eq_true (by omega)
    clear h0 h
    go_enter Tryd.func21, Tryd.ntmps21
    go_wp2
    go_region
    all_goals (go_wp2; go_ret2; exact ⟨rfl, Drew.once _⟩)
end Go.Proofs.YtpihlaeioepbpaaDoor
