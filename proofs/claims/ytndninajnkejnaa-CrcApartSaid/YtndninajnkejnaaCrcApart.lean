/- 'CrcApart', walked: bytes that differ by a burst have unlike sums. -/
import Derived.Test.YtndninajnkejnaaCrcWalk3
import Derived.Test.YtndninajnkejnaaTurnWalk
namespace Go.Proofs.Ytndninajnkejnaa
open Go Go.RowKit
set_option linter.unusedVariables false

set_option maxRecDepth 100000 in
theorem law_CrcApart (a : Option Addr) (n cap : Nat) (l : List (BitVec 8)) (q : Int) (m : BitVec 32) (w : World) (h : RdB w a n cap l) (_q0 : -9223372036854775808 ≤ q) (_q1 : q ≤ 9223372036854775807) :
    Calls Try.prog 4 #[.slice a n cap, .int .i64 q, .int .u32 (m.toNat : Int)] w fun e w' => e = .returned (.bool true) ∧ Below w.heap.size w w' := by
  have H0 := Kp.mk h; clear h _q0 _q1
  go_enter Try.func4, Try.ntmps4
  go_wp2_with fail
  refine (law_awake _).mono ?_
  rintro e w1 ⟨rfl, hb⟩
  have H1 := Kp.mk (H0.out.later hb)
  have B1 := Kp.mk hb; clear hb
  go_wp2_with fail
  refine (ref_turn _ _ _ l q m _ H1.out).mono ?_
  rintro e w2 (⟨k, g, c', rfl, hm, hk, hf, rfl, ho, hb⟩ | ⟨_, rfl, hb⟩)
  · have hne := Crc.sum_turn_ne l k m (by rw [H1.out.len]; exact hf) (by rw [H1.out.len]; exact hk) hm
    have R2 := Kp.mk (RdB.own ho H1.out.bound)
    have H2 := Kp.mk (H1.out.later hb)
    have B2 := Kp.mk hb
    obtain ⟨x, hx⟩ : ∃ x, x = Crc.sum (Crc.turnTo l k m 32) := ⟨_, rfl⟩
    obtain ⟨y, hy⟩ : ∃ y, y = Crc.sum l := ⟨_, rfl⟩
    have C1 := fun w h => crc_sum (some ⟨g, 0, none⟩) n c' (Crc.turnTo l k m 32) w h
    have C2 := fun w h => crc_sum a n cap l w h
    rw [← hx] at hne C1
    rw [← hy] at hne C2
    have hbne : ((x.toNat : Int) != (y.toNat : Int)) = true := by
      rw [bne_iff_ne]; intro e; exact hne (BitVec.eq_of_toNat_eq (by omega))
    have K1 := Kp.mk C1
    have K2 := Kp.mk C2
    clear hx hy C1 C2 hne hb ho hf hm hk
    go_wp2_with fail
    refine (K1.out _ R2.out).mono ?_
    rintro e w3 ⟨rfl, hb⟩
    have H3 := Kp.mk (H2.out.later hb)
    have B3 := Kp.mk hb; clear hb
    go_wp2_with fail
    refine (K2.out _ H3.out).mono ?_
    rintro e w4 ⟨rfl, hb⟩
    have B4 := Kp.mk hb; clear hb
    go_wp2
    go_ret
    have b2 := B1.out.trans (B2.out.mono B1.out.size)
    have b3 := b2.trans (B3.out.mono b2.size)
    exact ⟨rfl, b3.trans (B4.out.mono b3.size)⟩
  · have B2 := Kp.mk hb
    clear hb
    go_wp2
    go_ret
    exact ⟨rfl, B1.out.trans (B2.out.mono B1.out.size)⟩
end Go.Proofs.Ytndninajnkejnaa
