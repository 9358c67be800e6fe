/- Package alu's Rotate and Ones, walked. -/
import Derived.Test.YtpihlaeioepbpaaDoorAluWalk2
import Derived.Test.YtpihlaeioepbpaaDoorAluBits
namespace Go.Proofs.YtpihlaeioepbpaaDoor
open Go Go.RowKit
set_option linter.unusedVariables false

set_option maxRecDepth 100000 in
theorem bits_rot (x : BitVec 32) (k : Nat) (w : World) (hk : k < 32) :
    Calls Tryd.prog 45 #[.int .u32 (x.toNat : Int), .int .i64 (k : Int)] w fun e w' => e = .returned (.int .u32 ((x.rotateLeft k).toNat : Int)) ∧ w = w' := by
  have h0 := Alu.ge0 x
  have h1 := Alu.lt32 x
  have e : bits .and .u64 (k : Int) 31 = (k : Int) := by
    rw [u64_and (k : Int) 31 (by omega) (by omega) (by omega) (by omega), show (31 : Int).toNat = 2 ^ 5 - 1 from rfl, Nat.and_two_pow_sub_one_eq_mod]; omega
  have HR := Kp.mk (Alu.rot_int x k hk)
  have hk2 : (k : Int) ≤ 31 := by omega
  go_enter Tryd.func45, Tryd.ntmps45
  go_wp2
  go_ret
  exact ⟨ret_int HR.out, rfl⟩
theorem alu_rotate (x : BitVec 32) (n : Int) (w : World) (h0 : -9223372036854775808 ≤ n) (h1 : n ≤ 9223372036854775807) :
    Calls Tryd.prog 15 #[.int .u32 (x.toNat : Int), .int .i64 n] w fun e w' => e = .returned (.int .u32 ((x.rotateLeft (n % 32).toNat).toNat : Int)) ∧ w = w' := by
  obtain ⟨k, hk⟩ : ∃ k : Nat, k = (n % 32).toNat := ⟨_, rfl⟩
  have e : bits .and .i64 n 31 = (k : Int) := by rw [Alu.andi31 n h0 h1, hk]; omega
  have hk2 : k < 32 := by rw [hk]; omega
  rw [← hk]
  have K := Kp.mk (bits_rot x k w hk2)
  clear hk h0 h1
  go_enter Tryd.func15, Tryd.ntmps15
  go_wp2_with (go_at_call 45; refine K.out.mono ?_; rintro e w' ⟨rfl, rfl⟩)
  go_ret
  exact ⟨rfl, rfl⟩
theorem alu_ones (x : BitVec 32) (w : World) :
    Calls Tryd.prog 16 #[.int .u32 (x.toNat : Int)] w fun e w' => e = .returned (.int .i64 (Alu.ones x : Int)) ∧ Drew w w' := by
  have K0 := bits_ones (x.toNat : Int) w (Alu.ge0 x) (Alu.lt32 x)
  rw [Alu.ones_eq] at K0
  have K := Kp.mk K0
  clear K0
  go_enter Tryd.func16, Tryd.ntmps16
  go_wp2_with (go_at_call 46; refine K.out.mono ?_; rintro e w' ⟨rfl, n, rfl⟩)
  go_ret
  exact ⟨rfl, ⟨_, rfl⟩⟩
end Go.Proofs.YtpihlaeioepbpaaDoor
