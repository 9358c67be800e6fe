/- 'CrcBursts', walked: every Burst. -/
import Derived.Test.YtndninajnkejnaaDoorBurstWalk2
import Derived.Test.YtndninajnkejnaaDoorPlain
namespace Go.Proofs.YtndninajnkejnaaDoor
open Go Go.RowKit
set_option linter.unusedVariables false

theorem rdb_two (w : World) (x y : BitVec 8) : RdB (w.alloc (.cells #[.int .u8 (x.toNat : Int), .int .u8 (y.toNat : Int)] 5)) (some ⟨w.heap.size, 0, none⟩) 2 2 [x, y] :=
  RdB.own (World.ownsRow_lit w (bv [x, y]).toArray 2 (base := w.heap.size) (e := 5) (size := 1) (Nat.le_refl _) (by decide) rfl) (by omega)
theorem burst_first : Crc.BurstIs [0#8, 0#8] [64#8, 1#8] 2 2 6 5#32 0 := by
  refine .inr ⟨rfl, 6, 8, .inr ⟨6, 8, rfl, rfl, by decide, by decide, by decide, by decide, ?_, ?_⟩, .inr (.inr ⟨by decide, by decide, rfl, by decide, rfl⟩)⟩
  · intro i hi
    have : i = 0 ∨ i = 1 ∨ i = 2 ∨ i = 3 ∨ i = 4 ∨ i = 5 := by omega
    rcases this with rfl | rfl | rfl | rfl | rfl | rfl <;> decide
  · intro i h1 h2
    have : i = 9 ∨ i = 10 ∨ i = 11 ∨ i = 12 ∨ i = 13 ∨ i = 14 ∨ i = 15 := by omega
    rcases this with rfl | rfl | rfl | rfl | rfl | rfl | rfl <;> decide
theorem errOf_of (A : Nat → Addr) (c : Nat) : (if c = 0 then Value.nilIface else errv (A c)) = errOf A c := by
  cases c <;> rfl
set_option maxRecDepth 100000 in
theorem law_CrcBursts (A : Nat → Addr) (a : Option Addr) (n cap : Nat) (l : List (BitVec 8)) (b : Option Addr) (m mb : Nat) (k : List (BitVec 8)) (w : World) (h1 : RdB w a n cap l) (h2 : RdB w b m mb k) (hE : Errs w allCodes A) (hT : TypeVar w) :
    Calls Tryd.prog 6 #[.slice a n cap, .slice b m mb] w fun e w' => e = .returned (.bool true) ∧ Below w.heap.size w w' := by
  have H1 := Kp.mk h1
  have H2 := Kp.mk h2
  have HE0 := Kp.mk hE
  have HT0 := Kp.mk hT
  clear h1 h2 hE hT
  go_enter Tryd.func6, Tryd.ntmps6
  go_wp2_with fail
  have b2 : Below w.heap.size w ((w.alloc (.cells #[.int .u8 ((0#8 : BitVec 8).toNat : Int), .int .u8 ((0#8 : BitVec 8).toNat : Int)] 5)).alloc (.cells #[.int .u8 ((64#8 : BitVec 8).toNat : Int), .int .u8 ((1#8 : BitVec 8).toNat : Int)] 5)) := ((Below.refl _ _).alloc (Nat.le_refl _) _).alloc (by simp) _
  have r1 := (rdb_two w 0#8 0#8).later ((Below.refl _ _).alloc (Nat.le_refl _) (.cells #[.int .u8 ((64#8 : BitVec 8).toNat : Int), .int .u8 ((1#8 : BitVec 8).toNat : Int)] 5))
  have r2 := rdb_two (w.alloc (.cells #[.int .u8 ((0#8 : BitVec 8).toNat : Int), .int .u8 ((0#8 : BitVec 8).toNat : Int)] 5)) 64#8 1#8
  have e2 : (w.alloc (.cells #[.int .u8 ((0#8 : BitVec 8).toNat : Int), .int .u8 ((0#8 : BitVec 8).toNat : Int)] 5)).heap.size = w.heap.size + 1 := by simp
  rw [e2] at r2
  refine (crc_burst A _ _ _ _ _ _ _ _ _ r1 r2 ((HE0.out.later b2).sub (by decide))).mono ?_
  rintro e w1 ⟨p, s, c, v, rfl, hbi, hv, hd⟩
  obtain ⟨rfl, rfl, rfl⟩ := hbi.unique burst_first
  subst hv
  have B1 := Kp.mk (b2.trans (hd.below.mono b2.size))
  have HE1 := Kp.mk (HE0.out.later B1.out)
  have HT1 := Kp.mk (HT0.out.later B1.out)
  have R1 := Kp.mk (H1.out.later B1.out)
  have R2 := Kp.mk (H2.out.later B1.out)
  clear hd hbi b2 r1 r2 e2
  have e5 : ((5#32 : BitVec 32).toNat : Int) = 5 := rfl
  rw [e5]
  clear e5
  go_wp2_with fail
  refine (ref_burst _ _ _ _ _ _ l k _ R1.out R2.out).mono ?_
  rintro e w2 ⟨p, s, c, rfl, hbi, rfl⟩
  have HB := Kp.mk hbi
  clear hbi
  go_wp2_with fail
  refine (crc_burst A _ _ _ _ _ _ l k _ R1.out R2.out (HE1.out.sub (by decide))).mono ?_
  rintro e w3 ⟨p', s', c', v, rfl, hbi, hv, hd⟩
  obtain ⟨rfl, rfl, rfl⟩ := hbi.unique HB.out
  rw [errOf_of] at hv
  subst hv
  have hc : c' ≤ 20 := by
    rcases hbi with ⟨_, _, _, rfl⟩ | ⟨_, f, t, _, ⟨_, _, _, rfl⟩ | ⟨_, _, _, _, rfl⟩ | ⟨_, _, _, _, rfl⟩⟩ <;> omega
  have B3 := Kp.mk (B1.out.trans (hd.below.mono B1.out.size))
  have HE3 := Kp.mk (HE1.out.later hd.below)
  have HT3 := Kp.mk (HT1.out.later hd.below)
  clear hd hbi
  go_wp2_with fail
  refine (law_plain A c' c' _ hc HE3.out HT3.out).mono ?_
  rintro e w4 ⟨rfl, hb⟩
  have B4 := Kp.mk (B3.out.trans (hb.mono B3.out.size)); clear hb
  have htc : decide ((c' : Int) = (c' : Int)) = true := decide_eq_true rfl
  go_wp2
  go_ret
  exact ⟨ret_bool (by simp), B4.out⟩
end Go.Proofs.YtndninajnkejnaaDoor
