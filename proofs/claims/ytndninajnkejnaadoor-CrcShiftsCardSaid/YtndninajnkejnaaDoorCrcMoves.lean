/- 'CrcMoves', walked: Shift by n and m, linear, one to one. -/
import Derived.Test.YtndninajnkejnaaDoorShiftWalk2
import Derived.Test.YtndninajnkejnaaDoorCrcBack
namespace Go.Proofs.YtndninajnkejnaaDoor
open Go Go.RowKit
set_option linter.unusedVariables false

theorem crc_shift_neg (A : Nat → Addr) (x : BitVec 32) (n : Int) (w : World) (hn : n < 0) (hE : Errs w [12] A) :
    Calls Tryd.prog 31 #[.int .u32 (x.toNat : Int), .int .i64 n] w fun e w' => e = .returned (.tuple #[.int .u32 0, errv (A 12)]) ∧ Below w.heap.size w w' := by
  have E12 := hE.cell 12 (by simp)
  simp only [errVar] at E12
  have hb : decide (n < 0) = true := decide_eq_true hn
  clear hE hn
  go_enter Tryd.func31, Tryd.ntmps31
  go_wp2
  go_region
  all_goals (go_wp2; go_ret2; exact ⟨rfl, (Drew.once _).below⟩)
theorem crc_shift_to (x z : BitVec 32) (n : Nat) (w : World) (hn : n < 9223372036854775808) (hT : TabAt w) (hz : Crc.steps (8 * n) x = z) :
    Calls Tryd.prog 31 #[.int .u32 (x.toNat : Int), .int .i64 (n : Int)] w fun e w' => e = .returned (.tuple #[.int .u32 (z.toNat : Int), .nilIface]) ∧ Below w.heap.size w w' := by
  rw [← hz]
  exact crc_shift x n w hn hT
set_option maxRecDepth 100000 in
set_option maxHeartbeats 1000000 in
theorem law_CrcMoves (A : Nat → Addr) (x y : BitVec 32) (q : Int) (w : World) (q0 : -9223372036854775808 ≤ q) (q1 : q ≤ 9223372036854775807) (hE : Errs w allCodes A) (hT : TypeVar w) (hTab : TabAt w) :
    Calls Tryd.prog 7 #[.int .u32 (x.toNat : Int), .int .u32 (y.toNat : Int), .int .i64 q] w fun e w' => e = .returned (.bool true) ∧ Below w.heap.size w w' := by
  have HE0 := Kp.mk hE
  have HT0 := Kp.mk hT
  have HX0 := Kp.mk hTab
  clear hE hT hTab
  go_enter Tryd.func7, Tryd.ntmps7
  go_wp2_with fail
  refine (crc_shift_to 1#32 1996959894#32 1 _ (by omega) HX0.out (by decide)).mono ?_
  rintro e w1 ⟨rfl, hb⟩
  have B1 := Kp.mk hb
  clear hb
  by_cases hq : q < 0
  · have hqb : decide (q < 0) = true := decide_eq_true hq
    have HQ := Kp.mk hq
    clear hq
    go_wp2_with fail
    refine (crc_shift_neg A x q _ HQ.out ((HE0.out.later B1.out).sub (by decide))).mono ?_
    rintro e w2 ⟨rfl, hb⟩
    have B2 := Kp.mk (B1.out.trans (hb.mono B1.out.size))
    clear hb
    go_wp2_with fail
    refine (law_plain_is12 A _ (HE0.out.later B2.out) (HT0.out.later B2.out)).mono ?_
    rintro e w3 ⟨rfl, hb⟩
    have B3 := Kp.mk (B2.out.trans (hb.mono B2.out.size)); clear hb
    go_wp2
    go_ret
    exact ⟨rfl, B3.out⟩
  · have hqb : decide (q < 0) = false := decide_eq_false hq
    obtain ⟨n, rfl⟩ := Int.eq_ofNat_of_zero_le (by omega : 0 ≤ q)
    obtain ⟨h, hh⟩ : ∃ h : Nat, h = n / 2 := ⟨_, rfl⟩
    obtain ⟨k, hk⟩ : ∃ k : Nat, k = n - h := ⟨_, rfl⟩
    have e1 : (n : Int) / 2 = (h : Int) := by omega
    have e2 : (n : Int) - (h : Int) = (k : Int) := by omega
    have hnk : 8 * n = 8 * h + 8 * k := by omega
    obtain ⟨a, ha⟩ : ∃ a, a = Crc.steps (8 * h) x := ⟨_, rfl⟩
    obtain ⟨b, hb⟩ : ∃ b, b = Crc.steps (8 * n) x := ⟨_, rfl⟩
    obtain ⟨c, hc⟩ : ∃ c, c = Crc.steps (8 * n) y := ⟨_, rfl⟩
    obtain ⟨d, hd⟩ : ∃ d, d = x ^^^ y := ⟨_, rfl⟩
    obtain ⟨u, hu⟩ : ∃ u, u = b ^^^ c := ⟨_, rfl⟩
    have x1 := Crc.xor32 x y
    rw [← hd] at x1
    have x2 := Crc.xor32 b c
    rw [← hu] at x2
    have K1 := Kp.mk (fun w hT => crc_shift_to x a h w (by omega) hT ha.symm)
    have K2 := Kp.mk (fun w hT => crc_shift_to a b k w (by omega) hT (by rw [ha, hb, hnk, Crc.steps_add]))
    have K3 := Kp.mk (fun w hT => crc_shift_to x b n w (by omega) hT hb.symm)
    have K4 := Kp.mk (fun w hT => crc_shift_to y c n w (by omega) hT hc.symm)
    have K5 := Kp.mk (fun w hT => crc_shift_to d u n w (by omega) hT (by rw [hd, hu, hb, hc, Crc.steps_xor]))
    have hz : ((b.toNat : Int) == 0) = ((x.toNat : Int) == 0) := by
      rw [Crc.zero_int, Crc.zero_int]
      by_cases e : x = 0#32
      · subst e; rw [hb, Crc.steps_zero]
      · have : b ≠ 0#32 := fun g => e (Crc.steps_eq_zero _ _ (hb ▸ g))
        simp [e, this]
    have HZ := Kp.mk hz
    have hne : ((u.toNat : Int) != (u.toNat : Int)) = false := by simp
    have hne2 : ((b.toNat : Int) != (b.toNat : Int)) = false := by simp
    clear hq hh hk hnk ha hb hc hd hu hz
    go_wp2_with fail
    refine (K1.out _ (HX0.out.later B1.out)).mono ?_
    rintro e w2 ⟨rfl, hb⟩
    have B2 := Kp.mk (B1.out.trans (hb.mono B1.out.size)); clear hb
    go_wp2_with fail
    refine (K2.out _ (HX0.out.later B2.out)).mono ?_
    rintro e w3 ⟨rfl, hb⟩
    have B3 := Kp.mk (B2.out.trans (hb.mono B2.out.size)); clear hb
    go_wp2_with fail
    refine (K3.out _ (HX0.out.later B3.out)).mono ?_
    rintro e w4 ⟨rfl, hb⟩
    have B4 := Kp.mk (B3.out.trans (hb.mono B3.out.size)); clear hb
    go_wp2_with fail
    refine (K4.out _ (HX0.out.later B4.out)).mono ?_
    rintro e w5 ⟨rfl, hb⟩
    have B5 := Kp.mk (B4.out.trans (hb.mono B4.out.size)); clear hb
    go_wp2_with fail
    refine (K5.out _ (HX0.out.later B5.out)).mono ?_
    rintro e w6 ⟨rfl, hb⟩
    have B6 := Kp.mk (B5.out.trans (hb.mono B5.out.size)); clear hb
    go_wp2
    go_ret
    exact ⟨ret_bool (by have := HZ.out; simp_all), B6.out⟩
end Go.Proofs.YtndninajnkejnaaDoor
