/- 'CrcSums': every Sum and More of the program is the document's, walked. -/
import Derived.Test.YtndninajnkejnaaCrcWalk3
namespace Go.Proofs.Ytndninajnkejnaa
open Go Go.RowKit
set_option linter.unusedVariables false

set_option maxRecDepth 100000 in
theorem law_CrcSums (a : Option Addr) (n cap : Nat) (l : List (BitVec 8)) (s : BitVec 32) (w : World) (h : RdB w a n cap l) :
    Calls Try.prog 3 #[.slice a n cap, .int .u32 (s.toNat : Int)] w fun e w' => e = .returned (.bool true) ∧ Below w.heap.size w w' := by
  have H0 := Kp.mk h; clear h
  go_enter Try.func3, Try.ntmps3
  go_wp2_with fail
  refine (law_awake _).mono ?_
  rintro e w1 ⟨rfl, hb⟩
  have H1 := Kp.mk (H0.out.later hb)
  have B1 := Kp.mk hb; clear hb
  go_wp2_with fail
  refine (ref_sum _ _ _ l _ H1.out).mono ?_
  rintro e w' ⟨rfl, rfl⟩
  go_wp2_with fail
  refine (ref_more _ _ _ _ l _ H1.out).mono ?_
  rintro e w' ⟨rfl, rfl⟩
  go_wp2_with fail
  refine (crc_sum _ _ _ l _ H1.out).mono ?_
  rintro e w2 ⟨rfl, hb⟩
  have H2 := Kp.mk (H1.out.later hb)
  have B2 := Kp.mk hb; clear hb
  go_wp2_with fail
  refine (crc_more _ _ _ _ l _ H2.out).mono ?_
  rintro e w3 ⟨rfl, hb⟩
  have B3 := Kp.mk hb; clear hb
  go_wp2
  go_ret
  have b2 := B1.out.trans (B2.out.mono B1.out.size)
  exact ⟨rfl, b2.trans (B3.out.mono b2.size)⟩
end Go.Proofs.Ytndninajnkejnaa
