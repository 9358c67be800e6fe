/- 'CrcShifts', walked: every Shift and Join. -/
import Derived.Test.YtndninajnkejnaaDoorTimesWalk
import Derived.Test.YtndninajnkejnaaDoorCrcMoves
import Derived.Test.YtndninajnkejnaaDoorCrcPieces
import Derived.Test.YtndninajnkejnaaDoorPlain
namespace Go.Proofs.YtndninajnkejnaaDoor
open Go Go.RowKit
set_option linter.unusedVariables false

set_option maxRecDepth 100000 in
theorem crc_join_neg (A : Nat → Addr) (x y : BitVec 32) (n : Int) (w : World) (hn : n < 0) (hE : Errs w [12] A) :
    Calls Tryd.prog 21 #[.int .u32 (x.toNat : Int), .int .u32 (y.toNat : Int), .int .i64 n] w fun e w' => e = .returned (.tuple #[.int .u32 0, errv (A 12)]) ∧ Below w.heap.size w w' := by
  have K := Kp.mk (crc_shift_neg A x n w hn hE)
  clear hE
  go_enter Tryd.func21, Tryd.ntmps21
  go_wp2_with fail
  refine K.out.mono ?_
  rintro e w1 ⟨rfl, hb⟩
  have B := Kp.mk hb
  clear hb
  go_wp2
  go_ret2
  exact ⟨rfl, B.out⟩
/-- Both sides answer alike. -/
theorem shift_two (A : Nat → Addr) (x : BitVec 32) (q : Int) (q1 : q ≤ 9223372036854775807) : ∃ (z : BitVec 32) (d : Nat), d ≤ 20 ∧
    (∀ w, TabAt w → Errs w allCodes A → Calls Tryd.prog 31 #[.int .u32 (x.toNat : Int), .int .i64 q] w fun e w' => e = .returned (.tuple #[.int .u32 (z.toNat : Int), errOf A d]) ∧ Below w.heap.size w w') ∧
    (∀ w, Calls Tryd.prog 32 #[.int .u32 (x.toNat : Int), .int .i64 q] w fun e w' => e = .returned (.tuple #[.int .u32 (z.toNat : Int), .int .i64 (d : Int)]) ∧ Below w.heap.size w w') := by
  by_cases hq : q < 0
  · exact ⟨0#32, 12, by omega, fun w hT hE => crc_shift_neg A x q w hq (hE.sub (by decide)), fun w => (ref_shift_neg x q w hq).mono fun e w' h => ⟨h.1, by rw [h.2]; exact Below.refl _ _⟩⟩
  · obtain ⟨n, rfl⟩ := Int.eq_ofNat_of_zero_le (by omega : 0 ≤ q)
    exact ⟨_, 0, by omega, fun w hT hE => crc_shift x n w (by omega) hT, fun w => ref_shift x n w (by omega)⟩
theorem join_two (A : Nat → Addr) (x y : BitVec 32) (q : Int) (q1 : q ≤ 9223372036854775807) : ∃ (z : BitVec 32) (d : Nat), d ≤ 20 ∧
    (∀ w, TabAt w → Errs w allCodes A → Calls Tryd.prog 21 #[.int .u32 (x.toNat : Int), .int .u32 (y.toNat : Int), .int .i64 q] w fun e w' => e = .returned (.tuple #[.int .u32 (z.toNat : Int), errOf A d]) ∧ Below w.heap.size w w') ∧
    (∀ w, Calls Tryd.prog 33 #[.int .u32 (x.toNat : Int), .int .u32 (y.toNat : Int), .int .i64 q] w fun e w' => e = .returned (.tuple #[.int .u32 (z.toNat : Int), .int .i64 (d : Int)]) ∧ Below w.heap.size w w') := by
  by_cases hq : q < 0
  · exact ⟨0#32, 12, by omega, fun w hT hE => crc_join_neg A x y q w hq (hE.sub (by decide)), fun w => (ref_join_neg x y q w hq).mono fun e w' h => ⟨h.1, by rw [h.2]; exact Below.refl _ _⟩⟩
  · obtain ⟨n, rfl⟩ := Int.eq_ofNat_of_zero_le (by omega : 0 ≤ q)
    exact ⟨_, 0, by omega, fun w hT hE => crc_join x y _ n w (by omega) hT rfl, fun w => ref_join x y n w (by omega)⟩
set_option maxRecDepth 100000 in
set_option maxHeartbeats 1000000 in
theorem law_CrcShifts (A : Nat → Addr) (x y : BitVec 32) (q : Int) (w : World) (q0 : -9223372036854775808 ≤ q) (q1 : q ≤ 9223372036854775807) (hE : Errs w allCodes A) (hT : TypeVar w) (hTab : TabAt w) :
    Calls Tryd.prog 8 #[.int .u32 (x.toNat : Int), .int .u32 (y.toNat : Int), .int .i64 q] w fun e w' => e = .returned (.bool true) ∧ Below w.heap.size w w' := by
  have HE0 := Kp.mk hE
  have HT0 := Kp.mk hT
  have HX0 := Kp.mk hTab
  obtain ⟨z, d, hd, c1, c2⟩ := shift_two A x q q1
  obtain ⟨u, f, hf, c3, c4⟩ := join_two A x y q q1
  have K1 := Kp.mk c1
  have K2 := Kp.mk c2
  have K3 := Kp.mk c3
  have K4 := Kp.mk c4
  have hzz : ((z.toNat : Int) != (z.toNat : Int)) = false := by simp
  have huu : ((u.toNat : Int) == (u.toNat : Int)) = true := by simp
  clear hE hT hTab c1 c2 c3 c4 q0 q1
  go_enter Tryd.func8, Tryd.ntmps8
  go_wp2_with fail
  refine (crc_shift_to 1#32 1996959894#32 1 _ (by omega) HX0.out (by decide)).mono ?_
  rintro e w1 ⟨rfl, hb⟩
  have B1 := Kp.mk hb
  clear hb
  go_wp2_with fail
  refine (K1.out _ (HX0.out.later B1.out) (HE0.out.later B1.out)).mono ?_
  rintro e w2 ⟨rfl, hb⟩
  have B2 := Kp.mk (B1.out.trans (hb.mono B1.out.size)); clear hb
  go_wp2_with fail
  refine (K2.out _).mono ?_
  rintro e w3 ⟨rfl, hb⟩
  have B3 := Kp.mk (B2.out.trans (hb.mono B2.out.size)); clear hb
  go_wp2_with fail
  refine (law_plain A d (d : Int) _ hd (HE0.out.later B3.out) (HT0.out.later B3.out)).mono ?_
  rintro e w4 ⟨rfl, hb⟩
  have B4 := Kp.mk (B3.out.trans (hb.mono B3.out.size)); clear hb
  have hdd : decide ((d : Int) = (d : Int)) = true := decide_eq_true rfl
  rw [hdd]
  clear hdd
  go_wp2_with fail
  refine (K3.out _ (HX0.out.later B4.out) (HE0.out.later B4.out)).mono ?_
  rintro e w5 ⟨rfl, hb⟩
  have B5 := Kp.mk (B4.out.trans (hb.mono B4.out.size)); clear hb
  go_wp2_with fail
  refine (K4.out _).mono ?_
  rintro e w6 ⟨rfl, hb⟩
  have B6 := Kp.mk (B5.out.trans (hb.mono B5.out.size)); clear hb
  go_wp2_with fail
  refine (law_plain A f (f : Int) _ hf (HE0.out.later B6.out) (HT0.out.later B6.out)).mono ?_
  rintro e w7 ⟨rfl, hb⟩
  have B7 := Kp.mk (B6.out.trans (hb.mono B6.out.size)); clear hb
  have hdd : decide ((f : Int) = (f : Int)) = true := decide_eq_true rfl
  rw [hdd]
  clear hdd
  go_wp2
  go_ret
  exact ⟨ret_bool (by simp), B7.out⟩
end Go.Proofs.YtndninajnkejnaaDoor
