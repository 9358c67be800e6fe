/- 'CrcTurns', walked: every Turn, and the Burst between. -/
import Derived.Test.YtndninajnkejnaaDoorCrcTurnWalk
import Derived.Test.YtndninajnkejnaaDoorCrcBursts
namespace Go.Proofs.YtndninajnkejnaaDoor
open Go Go.RowKit
set_option linter.unusedVariables false

theorem turn_same (A : Nat → Addr) {w0 w1 : World} {n : Nat} {l : List (BitVec 8)} {q : Int} {m : BitVec 32} {e : Ending} (hl : l.length = n) (hn : n ≤ 140737488355328) (h : TurnPost w0 n l q m e w1) :
    ∃ (x : Option Addr) (k c : Nat) (lw : List (BitVec 8)) (d : Nat), e = .returned (.tuple #[.slice x k c, .int .i64 (d : Int)]) ∧ d ≤ 20 ∧ RdB w1 x k c lw ∧ Below w0.heap.size w0 w1 ∧
      ∀ (w2 w3 : World) (e' : Ending), TurnPostC A w2 n l q m e' w3 → ∃ (x' : Option Addr) (c' : Nat), e' = .returned (.tuple #[.slice x' k c', errOf A d]) ∧ RdB w3 x' k c' lw ∧ Below w2.heap.size w2 w3 := by
  rcases h with ⟨k, g, c', rfl, hm, hk, hf, rfl, ho, hb⟩ | ⟨hno, rfl, hb⟩
  · refine ⟨_, n, c', Crc.turnTo l k m 32, 0, rfl, by omega, RdB.own ho hn, hb, ?_⟩
    rintro w2 w3 e' (⟨k', g', c2, e1, _, _, _, rfl, ho', hb'⟩ | ⟨hno, _⟩)
    · obtain rfl : k = k' := by omega
      exact ⟨_, c2, rfl, RdB.own ho' hn, hb'⟩
    · exact absurd ⟨k, rfl, hm, hk, hf⟩ hno
  · refine ⟨none, 0, 0, [], 12, rfl, by omega, RdB.own (World.ownsRow_nil w1 0 0 1) (by omega), hb, ?_⟩
    rintro w2 w3 e' (⟨k', g', c2, e1, h1, h2, h3, _⟩ | ⟨_, rfl, hb'⟩)
    · exact absurd ⟨k', e1, h1, h2, h3⟩ hno
    · exact ⟨none, 0, rfl, RdB.own (World.ownsRow_nil w3 0 0 1) (by omega), hb'⟩
theorem turn_first : Crc.turnTo [0#8, 0#8] 6 5#32 32 = [64#8, 1#8] := by decide
theorem fits_first : Crc.Fits 2 6 5#32 32 := by
  intro i hi hb
  have : i = 0 ∨ i = 2 ∨ (i ≠ 0 ∧ i ≠ 2) := by omega
  rcases this with rfl | rfl | ⟨h0, h2⟩
  · omega
  · omega
  · exfalso
    have hall : ∀ i : Fin 32, i.val ≠ 0 → i.val ≠ 2 → (5#32 : BitVec 32).getLsbD i.val = false := by decide
    have := hall ⟨i, hi⟩ h0 h2
    rw [hb] at this; cases this
set_option maxRecDepth 100000 in
set_option maxHeartbeats 1000000 in
theorem law_CrcTurns (A : Nat → Addr) (a : Option Addr) (n cap : Nat) (l : List (BitVec 8)) (q : Int) (m : BitVec 32) (w : World) (h : RdB w a n cap l) (q0 : -9223372036854775808 ≤ q) (q1 : q ≤ 9223372036854775807) (hE : Errs w allCodes A) (hT : TypeVar w) (hTab : TabAt w) :
    Calls Tryd.prog 13 #[.slice a n cap, .int .i64 q, .int .u32 (m.toNat : Int)] w fun e w' => e = .returned (.bool true) ∧ Below w.heap.size w w' := by
  have H0 := Kp.mk h
  have HE0 := Kp.mk hE
  have HT0 := Kp.mk hT
  have HX0 := Kp.mk hTab
  have hn := h.bound
  have HQ := Kp.mk (And.intro q0 q1)
  clear h hE hT hTab q0 q1
  go_enter Tryd.func13, Tryd.ntmps13
  go_wp2_with fail
  have b1 := (Below.refl w.heap.size w).alloc (Nat.le_refl _) (.cells #[.int .u8 ((0#8 : BitVec 8).toNat : Int), .int .u8 ((0#8 : BitVec 8).toNat : Int)] 5)
  refine (crc_turn A _ _ _ _ 6 5#32 _ (rdb_two w 0#8 0#8) (by omega) (by omega) ((HE0.out.later b1).sub (by decide)) (HX0.out.later b1)).mono ?_
  rintro e w1 hp
  obtain ⟨g, c1, rfl, ho, hb⟩ : ∃ g c', e = .returned (.tuple #[.slice (some ⟨g, 0, none⟩) 2 c', .nilIface]) ∧ w1.ownsRow (w.alloc (.cells #[.int .u8 ((0#8 : BitVec 8).toNat : Int), .int .u8 ((0#8 : BitVec 8).toNat : Int)] 5)).heap.size 5 1 (.slice (some ⟨g, 0, none⟩) 2 c') 2 (bv [64#8, 1#8]) ∧ Below (w.alloc (.cells #[.int .u8 ((0#8 : BitVec 8).toNat : Int), .int .u8 ((0#8 : BitVec 8).toNat : Int)] 5)).heap.size (w.alloc (.cells #[.int .u8 ((0#8 : BitVec 8).toNat : Int), .int .u8 ((0#8 : BitVec 8).toNat : Int)] 5)) w1 := by
    rcases hp with ⟨k, g, c', e1, _, _, _, rfl, ho, hb⟩ | ⟨hno, _⟩
    · obtain rfl : k = 6 := by omega
      rw [turn_first] at ho
      exact ⟨g, c', rfl, ho, hb⟩
    · exact absurd ⟨6, rfl, by decide, by decide, fits_first⟩ hno
  have R1 := Kp.mk (RdB.own ho (by omega))
  have B1 := Kp.mk (b1.trans (hb.mono b1.size))
  clear hp ho hb b1
  go_wp2_with fail
  have bl := (Below.refl w1.heap.size w1).alloc (Nat.le_refl _) (.cells #[.int .u8 ((64#8 : BitVec 8).toNat : Int), .int .u8 ((1#8 : BitVec 8).toNat : Int)] 5)
  refine (ref_equal _ _ _ _ _ _ [64#8, 1#8] [64#8, 1#8] _ (R1.out.later bl) (rdb_two w1 64#8 1#8)).mono ?_
  rintro e w2 ⟨rfl, hd⟩
  have bb := B1.out.alloc B1.out.size (.cells #[.int .u8 ((64#8 : BitVec 8).toNat : Int), .int .u8 ((1#8 : BitVec 8).toNat : Int)] 5)
  have B2 := Kp.mk (bb.trans (hd.below.mono bb.size))
  have ht2 : decide ([64#8, 1#8] = [64#8, (1#8 : BitVec 8)]) = true := decide_eq_true rfl
  have H2 := Kp.mk (H0.out.later B2.out)
  clear hd bb bl
  go_wp2_with fail
  refine (ref_turn _ _ _ l q m _ H2.out).mono ?_
  rintro e w3 hp
  obtain ⟨x, k, cx, lw, d, rfl, hd20, hx, hb, hsame⟩ := turn_same A H0.out.len hn hp
  have X3 := Kp.mk hx
  have HS := Kp.mk hsame
  have B3 := Kp.mk (B2.out.trans (hb.mono B2.out.size))
  have H3 := Kp.mk (H2.out.later hb)
  clear hx hsame hb hp
  go_wp2_with fail
  refine (crc_turn A _ _ _ l q m _ H3.out HQ.out.1 HQ.out.2 ((HE0.out.later B3.out).sub (by decide)) (HX0.out.later B3.out)).mono ?_
  rintro e w4 hp
  obtain ⟨y, cy, rfl, hy, hb⟩ := HS.out _ _ _ hp
  have Y4 := Kp.mk hy
  have X4 := Kp.mk (X3.out.later hb)
  have H4 := Kp.mk (H3.out.later hb)
  have B4 := Kp.mk (B3.out.trans (hb.mono B3.out.size))
  clear hy hb hp
  go_wp2_with fail
  refine (law_plain A d d _ hd20 (HE0.out.later B4.out) (HT0.out.later B4.out)).mono ?_
  rintro e w5 ⟨rfl, hb⟩
  have Y5 := Kp.mk (Y4.out.later hb)
  have X5 := Kp.mk (X4.out.later hb)
  have H5 := Kp.mk (H4.out.later hb)
  have B5 := Kp.mk (B4.out.trans (hb.mono B4.out.size)); clear hb
  have htd : decide ((d : Int) = (d : Int)) = true := decide_eq_true rfl
  go_wp2_with fail
  refine (ref_equal _ _ _ _ _ _ lw lw _ Y5.out X5.out).mono ?_
  rintro e w6 ⟨rfl, hd⟩
  have X6 := Kp.mk (X5.out.later hd.below)
  have H6 := Kp.mk (H5.out.later hd.below)
  have B6 := Kp.mk (B5.out.trans (hd.below.mono B5.out.size)); clear hd
  have htw : decide (lw = lw) = true := decide_eq_true rfl
  go_wp2_with fail
  refine (ref_burst _ _ _ _ _ _ l lw _ H6.out X6.out).mono ?_
  rintro e w7 ⟨p, s, c, rfl, hbi, rfl⟩
  have HB := Kp.mk hbi
  clear hbi
  go_wp2_with fail
  refine (crc_burst A _ _ _ _ _ _ l lw _ H6.out X6.out ((HE0.out.later B6.out).sub (by decide))).mono ?_
  rintro e w8 ⟨p', s', c', v, rfl, hbi, hv, hd⟩
  obtain ⟨rfl, rfl, rfl⟩ := hbi.unique HB.out
  rw [errOf_of] at hv
  subst hv
  have hc : c' ≤ 20 := by
    rcases hbi with ⟨_, _, _, rfl⟩ | ⟨_, f, t, _, ⟨_, _, _, rfl⟩ | ⟨_, _, _, _, rfl⟩ | ⟨_, _, _, _, rfl⟩⟩ <;> omega
  have B8 := Kp.mk (B6.out.trans (hd.below.mono B6.out.size))
  clear hd hbi
  go_wp2_with fail
  refine (law_plain A c' c' _ hc (HE0.out.later B8.out) (HT0.out.later B8.out)).mono ?_
  rintro e w9 ⟨rfl, hb⟩
  have B9 := Kp.mk (B8.out.trans (hb.mono B8.out.size)); clear hb
  have htc : decide ((c' : Int) = (c' : Int)) = true := decide_eq_true rfl
  go_wp2
  go_ret
  exact ⟨ret_bool (by simp), B9.out⟩
end Go.Proofs.YtndninajnkejnaaDoor
