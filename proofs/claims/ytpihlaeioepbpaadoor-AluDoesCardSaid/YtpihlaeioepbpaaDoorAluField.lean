/- Package alu's field, ones, Field, Place, Sext and Word where they are not refused: walked. -/
import Derived.Test.YtpihlaeioepbpaaDoorAluWalk1
import Derived.Deep.QuietTactic
import Derived.BigQuiet
namespace Go.Proofs.YtpihlaeioepbpaaDoor
open Go Go.RowKit
set_option linter.unusedVariables false
namespace Alu
/-- n bits 1. -/
def onesN (n : Nat) : R := BitVec.ofNat 32 (2 ^ n - 1)
def fieldOf (x : R) (lo n : Nat) : R := (x >>> lo) &&& onesN n
def placeOf (x : R) (lo n : Nat) (v : R) : R := (x &&& ~~~(onesN n <<< lo)) ||| (v <<< lo)
def sextOf (x : R) (n : Nat) : R := (x <<< (32 - n)).sshiftRight (32 - n)
theorem andNot_int (a b : R) : bits .andNot .u32 (a.toNat : Int) (b.toNat : Int) = ((a &&& ~~~b).toNat : Int) := by
  rw [u32_andNot_nat _ _ a.isLt b.isLt, BitVec.toNat_and, BitVec.toNat_not]
theorem onesN_int (n : Nat) (hn : n ≤ 32) : ((2 : Int) ^ n - 1) = ((onesN n).toNat : Int) := by
  unfold onesN
  have h1 : 2 ^ n ≤ 2 ^ 32 := Nat.pow_le_pow_right (by omega) hn
  have h2 : 1 ≤ 2 ^ n := Nat.one_le_two_pow
  rw [BitVec.toNat_ofNat]
  have : ((2 : Int) ^ n) = ((2 ^ n : Nat) : Int) := by simp
  rw [this]
  omega
end Alu
set_option maxRecDepth 100000 in
theorem alu_in (lo n : Nat) (h1 : lo ≤ 31) (h2 : 1 ≤ n) (h3 : n + lo ≤ 32) (w : World) :
    Calls Tryd.prog 48 #[.int .i64 (lo : Int), .int .i64 (n : Int)] w fun e w' => e = .returned (.bool true) ∧ w' = w := by
  have b1 : decide ((0 : Int) ≤ lo) = true := decide_eq_true (by omega)
  have b2 : decide ((lo : Int) ≤ 31) = true := decide_eq_true (by omega)
  have b3 : decide ((1 : Int) ≤ n) = true := decide_eq_true (by omega)
  have b4 : decide ((n : Int) ≤ 32 - lo) = true := decide_eq_true (by omega)
  go_enter Tryd.func48, Tryd.ntmps48
  go_wp2
  go_ret
  exact ⟨rfl, rfl⟩
set_option maxRecDepth 100000 in
theorem alu_ones_of (n : Nat) (hn : n ≤ 32) (w : World) :
    Calls Tryd.prog 49 #[.int .i64 (n : Int)] w fun e w' => e = .returned (.int .u32 ((Alu.onesN n).toNat : Int)) ∧ w' = w := by
  obtain ⟨z, hz⟩ : ∃ z, z = Alu.onesN n := ⟨_, rfl⟩
  have h := Alu.onesN_int n hn
  rw [← hz] at h ⊢
  have hb := z.isLt
  clear hz
  obtain ⟨p, hp⟩ : ∃ p : Int, p = (2 : Int) ^ n := ⟨_, rfl⟩
  go_enter Tryd.func49, Tryd.ntmps49
  go_wp2
  go_ret
  exact ⟨rfl, rfl⟩
set_option maxRecDepth 100000 in
theorem alu_field_of (x : BitVec 32) (lo n : Nat) (z : BitVec 32) (h1 : lo ≤ 31) (h2 : 1 ≤ n) (h3 : n + lo ≤ 32) (hz : Alu.fieldOf x lo n = z) (w : World) :
    Calls Tryd.prog 19 #[.int .u32 (x.toNat : Int), .int .i64 (lo : Int), .int .i64 (n : Int)] w fun e w' => e = .returned (.tuple #[.int .u32 (z.toNat : Int), .nilIface]) ∧ Drew w w' := by
  obtain ⟨o, ho⟩ : ∃ o, o = Alu.onesN n := ⟨_, rfl⟩
  have CO := fun w => alu_ones_of n (by omega) w
  rw [← ho] at CO
  have K := Kp.mk CO
  have KI := Kp.mk (alu_in lo n h1 h2 h3)
  have hs := Alu.shr_int x lo
  have hf : (x >>> lo) &&& o = z := by rw [ho]; exact hz
  obtain ⟨y, hy⟩ : ∃ y, y = x >>> lo := ⟨_, rfl⟩
  rw [← hy] at hs hf
  have ha := Alu.and_int y o
  rw [hf] at ha
  clear CO ho hf hy hz
  go_enter Tryd.func19, Tryd.ntmps19
  go_wp2_with fail
  refine (KI.out _).mono ?_
  rintro e w' ⟨rfl, rfl⟩
  go_wp2
  go_quiet ((go_at_call 49; exact Calls.quiet_of_same (K.out _)))
  go_wp2
  go_ret2
  exact ⟨rfl, ⟨nq, rfl⟩⟩
set_option maxRecDepth 100000 in
theorem alu_place_of (x : BitVec 32) (lo n : Nat) (v z : BitVec 32) (h1 : lo ≤ 31) (h2 : 1 ≤ n) (h3 : n + lo ≤ 32) (hv : v.toNat ≤ (Alu.onesN n).toNat) (hz : Alu.placeOf x lo n v = z) (w : World) :
    Calls Tryd.prog 18 #[.int .u32 (x.toNat : Int), .int .i64 (lo : Int), .int .i64 (n : Int), .int .u32 (v.toNat : Int)] w fun e w' => e = .returned (.tuple #[.int .u32 (z.toNat : Int), .nilIface]) ∧ Drew w w' := by
  obtain ⟨o, ho⟩ : ∃ o, o = Alu.onesN n := ⟨_, rfl⟩
  have CO := fun w => alu_ones_of n (by omega) w
  rw [← ho] at CO hv
  have K := Kp.mk CO
  have KI := Kp.mk (alu_in lo n h1 h2 h3)
  have b1 : decide ((o.toNat : Int) < v.toNat) = false := decide_eq_false (by omega)
  have hs := Alu.shl_int o lo
  have hs2 := Alu.shl_int v lo
  obtain ⟨p, hp⟩ : ∃ p, p = o <<< lo := ⟨_, rfl⟩
  obtain ⟨q, hq⟩ : ∃ q, q = v <<< lo := ⟨_, rfl⟩
  rw [← hp] at hs
  rw [← hq] at hs2
  have ha := Alu.andNot_int x p
  obtain ⟨r, hr⟩ : ∃ r, r = x &&& ~~~p := ⟨_, rfl⟩
  rw [← hr] at ha
  have hor := Alu.or_int r q
  have hf : r ||| q = z := by rw [hr, hq, hp, ho]; exact hz
  rw [hf] at hor
  clear CO ho hf hr hp hq hz
  go_enter Tryd.func18, Tryd.ntmps18
  go_wp2_with fail
  refine (KI.out _).mono ?_
  rintro e w' ⟨rfl, rfl⟩
  go_wp2_with fail
  refine (K.out _).mono ?_
  rintro e w' ⟨rfl, rfl⟩
  go_wp2
  go_quiet ((go_at_call 49; exact Calls.quiet_of_same (K.out _)))
  go_wp2
  go_ret2
  exact ⟨rfl, ⟨nq, rfl⟩⟩
set_option maxRecDepth 100000 in
theorem alu_sext_of (x : BitVec 32) (n : Nat) (z : BitVec 32) (h1 : 1 ≤ n) (h2 : n ≤ 32) (hz : Alu.sextOf x n = z) (w : World) :
    Calls Tryd.prog 20 #[.int .u32 (x.toNat : Int), .int .i64 (n : Int)] w fun e w' => e = .returned (.tuple #[.int .u32 (z.toNat : Int), .nilIface]) ∧ w' = w := by
  have b1 : decide ((n : Int) < 1) = false := decide_eq_false (by omega)
  have b2 : decide ((32 : Int) < n) = false := decide_eq_false (by omega)
  obtain ⟨m, hm⟩ : ∃ m : Nat, m = 32 - n := ⟨_, rfl⟩
  have hm1 : (32 : Int) - (n : Int) = (m : Int) := by omega
  have hm2 : m ≤ 31 := by omega
  have hs := Alu.shl_int x m
  obtain ⟨y, hy⟩ : ∃ y, y = x <<< m := ⟨_, rfl⟩
  rw [← hy] at hs
  have hsar := Alu.sar_int y m
  have hf : y.sshiftRight m = z := by rw [hy, hm]; exact hz
  rw [hf] at hsar
  clear hy hm hf hz
  have HS := Kp.mk hsar
  clear hsar
  go_enter Tryd.func20, Tryd.ntmps20
  go_wp2
  go_ret2
  exact ⟨ret2_int HS.out rfl, rfl⟩
set_option maxRecDepth 100000 in
theorem alu_word_of (k : Int) (z : BitVec 32) (h1 : -2147483648 ≤ k) (h2 : k ≤ 4294967295) (hz : BitVec.ofInt 32 k = z) (w : World) :
    Calls Tryd.prog 21 #[.int .i64 k] w fun e w' => e = .returned (.tuple #[.int .u32 (z.toNat : Int), .nilIface]) ∧ w' = w := by
  have b1 : decide (k < -2147483648) = false := decide_eq_false (by omega)
  have b2 : decide (4294967295 < k) = false := decide_eq_false (by omega)
  have e := Alu.toNat_ofInt k
  rw [hz] at e
  clear hz
  have HE := Kp.mk e
  clear e
  go_enter Tryd.func21, Tryd.ntmps21
  go_wp2
  go_ret2
  exact ⟨ret2_int HE.out rfl, rfl⟩
end Go.Proofs.YtpihlaeioepbpaaDoor
