/- The document's Word, Signed, Sext, Field, Place: walked. -/
import Derived.Test.YtpihlaeioepbpaaDoorRowsWalk
import Derived.Test.YtpihlaeioepbpaaDoorCutsPure
import Derived.Test.YtpihlaeioepbpaaDoorCutsAlu
namespace Go.Proofs.YtpihlaeioepbpaaDoor
open Go Go.RowKit
set_option linter.unusedVariables false

set_option maxRecDepth 100000 in
theorem ref_signed (x : BitVec 32) (w : World) :
    Calls Tryd.prog 30 #[.int .u32 (x.toNat : Int)] w fun e w' => e = .returned (.int .i64 x.toInt) ∧ w' = w := by
  have hx := Alu.lt32 x
  have hx0 : (0 : Int) ≤ (x.toNat : Int) := by omega
  by_cases h : (2147483648 : Int) ≤ (x.toNat : Int)
  · have hb : decide ((2147483648 : Int) ≤ (x.toNat : Int)) = true := decide_eq_true h
    have hbn : decide (2147483648 ≤ x.toNat) = true := decide_eq_true (by omega)
    have e : (x.toNat : Int) - 4294967296 = x.toInt := by rw [BitVec.toInt_eq_toNat_cond]; rw [if_neg (by omega)]; rfl
    have HE := Kp.mk e
    clear h e
    go_enter Tryd.func30, Tryd.ntmps30
    go_wp2
    go_ret
    exact ⟨ret_int HE.out, rfl⟩
  · have hb : decide ((2147483648 : Int) ≤ (x.toNat : Int)) = false := decide_eq_false h
    have hbn : decide (2147483648 ≤ x.toNat) = false := decide_eq_false (by omega)
    have e : (x.toNat : Int) = x.toInt := by rw [BitVec.toInt_eq_toNat_cond]; rw [if_pos (by omega)]
    have HE := Kp.mk e
    clear h e
    go_enter Tryd.func30, Tryd.ntmps30
    go_wp2
    go_ret
    exact ⟨ret_int HE.out, rfl⟩
set_option maxRecDepth 100000 in
theorem ref_word (k : Int) (w : World) (h1 : -2147483648 ≤ k) (h2 : k ≤ 4294967295) :
    Calls Tryd.prog 29 #[.int .i64 k] w fun e w' => e = .returned (.tuple #[.int .u32 ((BitVec.ofInt 32 k).toNat : Int), .int .i64 0]) ∧ w' = w := by
  have b1 : decide (k < -2147483648) = false := decide_eq_false (by omega)
  have b2 : decide (4294967295 < k) = false := decide_eq_false (by omega)
  have e := Alu.toNat_ofInt k
  obtain ⟨z, hz⟩ : ∃ z, z = BitVec.ofInt 32 k := ⟨_, rfl⟩
  rw [← hz] at e ⊢
  by_cases h : k < 0
  · have b3 : decide (k < 0) = true := decide_eq_true h
    have HE : Kp ((k + 4294967296) % 4294967296 = (z.toNat : Int)) := ⟨by omega⟩
    clear e hz
    go_enter Tryd.func29, Tryd.ntmps29
    go_wp2
    go_ret2
    exact ⟨by first | exact ret2_int HE.out rfl | (have := HE.out; simp_all; omega), rfl⟩
  · have b3 : decide (k < 0) = false := decide_eq_false h
    have HE := Kp.mk e
    clear e hz
    go_enter Tryd.func29, Tryd.ntmps29
    go_wp2
    go_ret2
    exact ⟨ret2_int (by have := HE.out; omega) rfl, rfl⟩
set_option maxRecDepth 100000 in
theorem ref_word_no (k : Int) (w : World) (h : k < -2147483648 ∨ 4294967295 < k) :
    Calls Tryd.prog 29 #[.int .i64 k] w fun e w' => e = .returned (.tuple #[.int .u32 0, .int .i64 4]) ∧ w' = w := by
  by_cases h0 : k < -2147483648
  · have b1 : decide (k < -2147483648) = true := decide_eq_true h0
    clear h0 h
    go_enter Tryd.func29, Tryd.ntmps29
    go_wp2
    go_ret2
    exact ⟨rfl, rfl⟩
  · have b1 : decide (k < -2147483648) = false := decide_eq_false h0
    have b2 : decide ((4294967295 : Int) < k) = true := decide_eq_true (by omega)
    clear h0 h
    go_enter Tryd.func29, Tryd.ntmps29
    go_wp2
    go_ret2
    exact ⟨rfl, rfl⟩
set_option maxRecDepth 100000 in
theorem ref_within (lo n : Nat) (w : World) (h1 : lo ≤ 31) (h2 : 1 ≤ n) (h3 : n + lo ≤ 32) :
    Calls Tryd.prog 60 #[.int .i64 (lo : Int), .int .i64 (n : Int)] w fun e w' => e = .returned (.bool true) ∧ w' = w := by
  have b1 : decide ((0 : Int) ≤ lo) = true := decide_eq_true (by omega)
  have b2 : decide ((lo : Int) ≤ 31) = true := decide_eq_true (by omega)
  have b3 : decide ((1 : Int) ≤ n) = true := decide_eq_true (by omega)
  have b4 : decide ((n : Int) ≤ 32) = true := decide_eq_true (by omega)
  have b5 : decide ((lo : Int) + (n : Int) ≤ 32) = true := decide_eq_true (by omega)
  go_enter Tryd.func60, Tryd.ntmps60
  go_wp2
  go_ret
  exact ⟨by first | rfl | (apply ret_bool; simp <;> omega), rfl⟩
set_option maxRecDepth 100000 in
theorem ref_without (lo n : Int) (w : World) (h : ¬ Within lo n) :
    Calls Tryd.prog 60 #[.int .i64 lo, .int .i64 n] w fun e w' => e = .returned (.bool false) ∧ w' = w := by
  unfold Within at h
  by_cases c1 : 0 ≤ lo
  · have b1 : decide ((0 : Int) ≤ lo) = true := decide_eq_true c1
    by_cases c2 : lo ≤ 31
    · have b2 : decide (lo ≤ (31 : Int)) = true := decide_eq_true c2
      by_cases c3 : 1 ≤ n
      · have b3 : decide ((1 : Int) ≤ n) = true := decide_eq_true c3
        by_cases c4 : n ≤ 32
        · have b4 : decide (n ≤ (32 : Int)) = true := decide_eq_true c4
          have b5 : decide (lo + n ≤ 32) = false := decide_eq_false (by omega)
          clear h
          go_enter Tryd.func60, Tryd.ntmps60
          go_wp2
          go_ret
          exact ⟨rfl, rfl⟩
        · have b4 : decide (n ≤ (32 : Int)) = false := decide_eq_false c4
          clear h c4 c3 c2 c1
          go_enter Tryd.func60, Tryd.ntmps60
          go_wp2
          go_ret
          exact ⟨rfl, rfl⟩
      · have b3 : decide ((1 : Int) ≤ n) = false := decide_eq_false c3
        clear h c3 c1 c2
        go_enter Tryd.func60, Tryd.ntmps60
        go_wp2
        go_ret
        exact ⟨rfl, rfl⟩
    · have b2 : decide (lo ≤ (31 : Int)) = false := decide_eq_false c2
      clear h c1 c2
      go_enter Tryd.func60, Tryd.ntmps60
      go_wp2
      go_ret
      exact ⟨rfl, rfl⟩
  · have b1 : decide ((0 : Int) ≤ lo) = false := decide_eq_false c1
    clear h c1
    go_enter Tryd.func60, Tryd.ntmps60
    go_wp2
    go_ret
    exact ⟨rfl, rfl⟩
set_option maxRecDepth 100000 in
theorem ref_sext_no (x : BitVec 32) (n : Int) (w : World) (h : n < 1 ∨ 32 < n) :
    Calls Tryd.prog 32 #[.int .u32 (x.toNat : Int), .int .i64 n] w fun e w' => e = .returned (.tuple #[.int .u32 0, .int .i64 12]) ∧ w' = w := by
  by_cases h0 : n < 1
  · have b1 : decide (n < 1) = true := decide_eq_true h0
    clear h0 h
    go_enter Tryd.func32, Tryd.ntmps32
    go_wp2
    go_ret2
    exact ⟨rfl, rfl⟩
  · have b1 : decide (n < 1) = false := decide_eq_false h0
    have b2 : decide ((32 : Int) < n) = true := decide_eq_true (by omega)
    clear h0 h
    go_enter Tryd.func32, Tryd.ntmps32
    go_wp2
    go_ret2
    exact ⟨rfl, rfl⟩
set_option maxRecDepth 100000 in
theorem ref_field_no (x : BitVec 32) (lo n : Int) (w : World) (h : ¬ Within lo n) :
    Calls Tryd.prog 33 #[.int .u32 (x.toNat : Int), .int .i64 lo, .int .i64 n] w fun e w' => e = .returned (.tuple #[.int .u32 0, .int .i64 12]) ∧ w' = w := by
  have K := Kp.mk (fun w => ref_without lo n w h)
  clear h
  go_enter Tryd.func33, Tryd.ntmps33
  go_wp2_with fail
  refine (K.out _).mono ?_
  rintro e w1 ⟨rfl, rfl⟩
  go_wp2
  go_ret2
  exact ⟨rfl, rfl⟩
set_option maxRecDepth 100000 in
theorem ref_place_no (x : BitVec 32) (lo n : Int) (v : BitVec 32) (w : World) (h : ¬ Within lo n) :
    Calls Tryd.prog 34 #[.int .u32 (x.toNat : Int), .int .i64 lo, .int .i64 n, .int .u32 (v.toNat : Int)] w fun e w' => e = .returned (.tuple #[.int .u32 0, .int .i64 12]) ∧ w' = w := by
  have K := Kp.mk (fun w => ref_without lo n w h)
  clear h
  go_enter Tryd.func34, Tryd.ntmps34
  go_wp2_with fail
  refine (K.out _).mono ?_
  rintro e w1 ⟨rfl, rfl⟩
  go_wp2
  go_ret2
  exact ⟨rfl, rfl⟩
end Go.Proofs.YtpihlaeioepbpaaDoor
