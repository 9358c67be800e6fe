/- 'CrcTold', walked: one burst anywhere in sealed bytes is told. -/
import Derived.Test.YtndninajnkejnaaDoorSealPure
import Derived.Test.YtndninajnkejnaaDoorTurnWalk
import Derived.Test.YtndninajnkejnaaDoorPlain
namespace Go.Proofs.YtndninajnkejnaaDoor
open Go Go.RowKit
set_option linter.unusedVariables false

theorem law_plain_is (A : Nat → Addr) (c : Nat) (w : World) (h1 : 1 ≤ c) (hc : c ≤ 20) (hE : Errs w allCodes A) (hT : TypeVar w) :
    Calls Tryd.prog 30 #[errv (A c), .int .i64 (c : Int)] w fun e w' => e = .returned (.bool true) ∧ Below w.heap.size w w' := by
  obtain ⟨d, rfl⟩ : ∃ d, c = d + 1 := ⟨c - 1, by omega⟩
  have := law_plain A (d + 1) ((d + 1 : Nat) : Int) w hc hE hT
  simpa [errOf] using this
set_option maxRecDepth 100000 in
theorem law_CrcTold (A : Nat → Addr) (a : Option Addr) (n cap : Nat) (l : List (BitVec 8)) (q : Int) (m : BitVec 32) (w : World) (h : RdB w a n cap l) (hn : n ≤ 140737488351232) (_q0 : -9223372036854775808 ≤ q) (_q1 : q ≤ 9223372036854775807) (hE : Errs w allCodes A) (hT : TypeVar w) :
    Calls Tryd.prog 10 #[.slice a n cap, .int .i64 q, .int .u32 (m.toNat : Int)] w fun e w' => e = .returned (.bool true) ∧ Below w.heap.size w w' := by
  have H0 := Kp.mk h
  have HE0 := Kp.mk hE
  have HT0 := Kp.mk hT
  clear h hE hT _q0 _q1
  go_enter Tryd.func10, Tryd.ntmps10
  go_wp2_with fail
  refine (law_awake _).mono ?_
  rintro e w1 ⟨rfl, hb⟩
  have H1 := Kp.mk (H0.out.later hb)
  have HE1 := Kp.mk (HE0.out.later hb)
  have HT1 := Kp.mk (HT0.out.later hb)
  have B1 := Kp.mk hb; clear hb
  go_wp2_with fail
  refine (crc_seal _ _ _ l _ H1.out (by omega)).mono ?_
  rintro e w2 ⟨g, cs, rfl, ho, hb⟩
  have R2 := Kp.mk (RdB.own ho (by omega))
  have HE2 := Kp.mk (HE1.out.later hb)
  have HT2 := Kp.mk (HT1.out.later hb)
  have B2 := Kp.mk (B1.out.trans (hb.mono B1.out.size)); clear hb ho
  go_wp2_with fail
  refine (ref_turn _ _ _ _ q m _ R2.out).mono ?_
  rintro e w3 (⟨k, g3, c3, rfl, hm, hk, hf, rfl, ho, hb⟩ | ⟨_, rfl, hb⟩)
  · have hsh := Kp.mk (Crc.turned_shut l k m n H0.out.len hf hk hm)
    have R3 := Kp.mk (RdB.own ho (by omega))
    have HE3 := Kp.mk (HE2.out.later hb)
    have HT3 := Kp.mk (HT2.out.later hb)
    have B3 := Kp.mk (B2.out.trans (hb.mono B2.out.size)); clear hb ho hf hm hk
    go_wp2_with fail
    refine (crc_open A _ _ _ _ _ (HE3.out.sub (by decide)) R3.out).mono ?_
    rintro e w4 ⟨hb, h⟩
    have he : e = .returned (.tuple #[.slice none 0 0, errv (A 6)]) := by
      rcases h with ⟨h, _⟩ | ⟨_, _, h⟩ | ⟨_, h, _⟩
      · omega
      · exact h
      · exact absurd h hsh.out
    subst he
    have HE4 := Kp.mk (HE3.out.later hb)
    have HT4 := Kp.mk (HT3.out.later hb)
    have B4 := Kp.mk (B3.out.trans (hb.mono B3.out.size)); clear hb h
    go_wp2_with fail
    refine (law_plain_is A 6 _ (by omega) (by omega) HE4.out HT4.out).mono ?_
    rintro e w5 ⟨rfl, hb⟩
    have B5 := Kp.mk (B4.out.trans (hb.mono B4.out.size)); clear hb
    go_wp2
    go_ret
    exact ⟨rfl, B5.out⟩
  · have B3 := Kp.mk (B2.out.trans (hb.mono B2.out.size)); clear hb
    go_wp2
    go_ret
    exact ⟨rfl, B3.out⟩
end Go.Proofs.YtndninajnkejnaaDoor
