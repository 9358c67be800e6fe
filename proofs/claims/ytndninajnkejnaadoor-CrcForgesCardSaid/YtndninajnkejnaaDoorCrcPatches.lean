/- 'CrcPatches', walked: every Patch. -/
import Derived.Test.YtndninajnkejnaaDoorPatchRef
import Derived.Test.YtndninajnkejnaaDoorPlain
import Derived.Test.YtndninajnkejnaaDoorBytesWalk
namespace Go.Proofs.YtndninajnkejnaaDoor
open Go Go.RowKit
set_option linter.unusedVariables false

theorem rdb_four (w : World) (x y z u : BitVec 8) : RdB (w.alloc (.cells #[.int .u8 (x.toNat : Int), .int .u8 (y.toNat : Int), .int .u8 (z.toNat : Int), .int .u8 (u.toNat : Int)] 5)) (some ⟨w.heap.size, 0, none⟩) 4 4 [x, y, z, u] :=
  RdB.own (World.ownsRow_lit w (bv [x, y, z, u]).toArray 4 (base := w.heap.size) (e := 5) (size := 1) (Nat.le_refl _) (by decide) rfl) (by omega)
theorem patch_first (v : BitVec 32) (h : Crc.sum (Crc.patched [0#8, 0#8, 0#8, 0#8] 0 v) = 4294967295#32) : Crc.patched [0#8, 0#8, 0#8, 0#8] 0 v = [255#8, 255#8, 255#8, 255#8] := by
  have h2 : Crc.sum (Crc.patched [0#8, 0#8, 0#8, 0#8] 0 4294967295#32) = 4294967295#32 := by decide +kernel
  have e := Crc.patched_unique [0#8, 0#8, 0#8, 0#8] 0 v 4294967295#32 (by decide) (by rw [h, h2])
  rw [e]
  decide
/-- Both sides answer alike. -/
theorem patch_two (A : Nat → Addr) (n : Nat) (l : List (BitVec 8)) (q : Int) (want : BitVec 32) (hl : l.length = n) (hn : n ≤ 140737488355328) : ∃ (k : Nat) (lw : List (BitVec 8)) (d : Nat), d ≤ 20 ∧
    (∀ w a cap, RdB w a n cap l → Errs w allCodes A → Calls Tryd.prog 37 #[.slice a n cap, .int .i64 q, .int .u32 (want.toNat : Int)] w fun e w' => ∃ x c, e = .returned (.tuple #[.slice x k c, errOf A d]) ∧ RdB w' x k c lw ∧ Below w.heap.size w w') ∧
    (∀ w a cap, RdB w a n cap l → Calls Tryd.prog 38 #[.slice a n cap, .int .i64 q, .int .u32 (want.toNat : Int)] w fun e w' => ∃ x c, e = .returned (.tuple #[.slice x k c, .int .i64 (d : Int)]) ∧ RdB w' x k c lw ∧ Below w.heap.size w w') := by
  by_cases hq : q < 0 ∨ (n : Int) - 4 < q
  · refine ⟨0, [], 12, by omega, fun w a cap h hE => (crc_patch_no A a n cap q want w hn hq (hE.sub (by decide))).mono ?_, fun w a cap h => (ref_patch_no a n cap q want w hn hq).mono ?_⟩
    · rintro e w' ⟨rfl, hb⟩
      exact ⟨none, 0, rfl, RdB.own (World.ownsRow_nil w' 0 0 1) (by omega), hb⟩
    · rintro e w' ⟨rfl, rfl⟩
      exact ⟨none, 0, rfl, RdB.own (World.ownsRow_nil w' 0 0 1) (by omega), Below.refl _ _⟩
  · obtain ⟨j, rfl⟩ := Int.eq_ofNat_of_zero_le (by omega : 0 ≤ q)
    have hj : j + 4 ≤ n := by omega
    have hs := Crc.patched_solved l j (Crc.bks (8 * (l.length - j)) (Crc.sum (Crc.patched l j 0#32) ^^^ want)) want (by omega) (Crc.steps_bks _ _)
    refine ⟨n, Crc.patched l j (Crc.bks (8 * (l.length - j)) (Crc.sum (Crc.patched l j 0#32) ^^^ want)), 0, by omega, fun w a cap h hE => (crc_patch_yes a n cap l j want w h hj).mono ?_, fun w a cap h => (ref_patch_yes a n cap l j want w h hj).mono ?_⟩
    · rintro e w' ⟨g, c', v, rfl, hv, ho, hb⟩
      obtain rfl := Crc.patched_unique l j v _ (by omega) (hv.trans hs.symm)
      exact ⟨_, c', rfl, RdB.own ho hn, hb⟩
    · rintro e w' ⟨g, c', v, rfl, hv, ho, hb⟩
      obtain rfl := Crc.patched_unique l j v _ (by omega) (hv.trans hs.symm)
      exact ⟨_, c', rfl, RdB.own ho hn, hb⟩
set_option maxRecDepth 100000 in
set_option maxHeartbeats 1000000 in
theorem law_CrcPatches (A : Nat → Addr) (a : Option Addr) (n cap : Nat) (l : List (BitVec 8)) (q : Int) (want : BitVec 32) (w : World) (h : RdB w a n cap l) (q0 : -9223372036854775808 ≤ q) (q1 : q ≤ 9223372036854775807) (hE : Errs w allCodes A) (hT : TypeVar w) :
    Calls Tryd.prog 11 #[.slice a n cap, .int .i64 q, .int .u32 (want.toNat : Int)] w fun e w' => e = .returned (.bool true) ∧ Below w.heap.size w w' := by
  have H0 := Kp.mk h
  have HE0 := Kp.mk hE
  have HT0 := Kp.mk hT
  obtain ⟨k, lw, d, hd, c1, c2⟩ := patch_two A n l q want h.len h.bound
  have K1 := Kp.mk c1
  have K2 := Kp.mk c2
  clear h hE hT c1 c2 q0 q1
  go_enter Tryd.func11, Tryd.ntmps11
  go_wp2_with fail
  have b1 := (Below.refl w.heap.size w).alloc (Nat.le_refl _) (.cells #[.int .u8 ((0#8 : BitVec 8).toNat : Int), .int .u8 ((0#8 : BitVec 8).toNat : Int), .int .u8 ((0#8 : BitVec 8).toNat : Int), .int .u8 ((0#8 : BitVec 8).toNat : Int)] 5)
  refine (crc_patch_yes _ _ _ _ 0 4294967295#32 _ (rdb_four w 0#8 0#8 0#8 0#8) (by omega)).mono ?_
  rintro e w1 ⟨g, c1, v, rfl, hv, ho, hb⟩
  rw [patch_first v hv] at ho
  have R1 := Kp.mk (RdB.own ho (by omega))
  have B1 := Kp.mk (b1.trans (hb.mono b1.size))
  clear hv ho hb b1
  go_wp2_with fail
  have bl := (Below.refl w1.heap.size w1).alloc (Nat.le_refl _) (.cells #[.int .u8 ((255#8 : BitVec 8).toNat : Int), .int .u8 ((255#8 : BitVec 8).toNat : Int), .int .u8 ((255#8 : BitVec 8).toNat : Int), .int .u8 ((255#8 : BitVec 8).toNat : Int)] 5)
  refine (ref_equal _ _ _ _ _ _ [255#8, 255#8, 255#8, 255#8] [255#8, 255#8, 255#8, 255#8] _ (R1.out.later bl) (rdb_four w1 255#8 255#8 255#8 255#8)).mono ?_
  rintro e w2 ⟨rfl, hd2⟩
  have bb := B1.out.alloc B1.out.size (.cells #[.int .u8 ((255#8 : BitVec 8).toNat : Int), .int .u8 ((255#8 : BitVec 8).toNat : Int), .int .u8 ((255#8 : BitVec 8).toNat : Int), .int .u8 ((255#8 : BitVec 8).toNat : Int)] 5)
  have B2 := Kp.mk (bb.trans (hd2.below.mono bb.size))
  have ht2 : decide ([255#8, 255#8, 255#8, 255#8] = [255#8, 255#8, 255#8, (255#8 : BitVec 8)]) = true := decide_eq_true rfl
  rw [ht2]
  have H2 := Kp.mk (H0.out.later B2.out)
  clear hd2 bb bl ht2
  go_wp2_with fail
  refine (K2.out _ _ _ H2.out).mono ?_
  rintro e w3 ⟨x, cx, rfl, hx, hb⟩
  have X3 := Kp.mk hx
  have H3 := Kp.mk (H2.out.later hb)
  have B3 := Kp.mk (B2.out.trans (hb.mono B2.out.size)); clear hx hb
  go_wp2_with fail
  refine (K1.out _ _ _ H3.out (HE0.out.later B3.out)).mono ?_
  rintro e w4 ⟨y, cy, rfl, hy, hb⟩
  have Y4 := Kp.mk hy
  have X4 := Kp.mk (X3.out.later hb)
  have B4 := Kp.mk (B3.out.trans (hb.mono B3.out.size)); clear hy hb
  go_wp2_with fail
  refine (law_plain A d d _ hd (HE0.out.later B4.out) (HT0.out.later B4.out)).mono ?_
  rintro e w5 ⟨rfl, hb⟩
  have Y5 := Kp.mk (Y4.out.later hb)
  have X5 := Kp.mk (X4.out.later hb)
  have B5 := Kp.mk (B4.out.trans (hb.mono B4.out.size)); clear hb
  have htd : decide ((d : Int) = (d : Int)) = true := decide_eq_true rfl
  rw [htd]
  clear htd
  go_wp2_with fail
  refine (ref_equal _ _ _ _ _ _ lw lw _ Y5.out X5.out).mono ?_
  rintro e w6 ⟨rfl, hd6⟩
  have B6 := Kp.mk (B5.out.trans (hd6.below.mono B5.out.size)); clear hd6
  go_wp2
  go_ret
  exact ⟨ret_bool (by simp), B6.out⟩
end Go.Proofs.YtndninajnkejnaaDoor
