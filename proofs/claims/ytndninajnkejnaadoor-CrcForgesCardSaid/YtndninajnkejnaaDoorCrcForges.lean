/- 'CrcForges', walked: patched bytes have the sum that was wanted, differ nowhere else, and go back. -/
import Derived.Test.YtndninajnkejnaaDoorCrcPatches
import Derived.Test.YtndninajnkejnaaDoorCrcTold
import Derived.Test.YtndninajnkejnaaDoorCrcWalk3
import Derived.Test.YtndninajnkejnaaDoorCrcBack
import Derived.Deep.QuietTactic
import Derived.BigQuiet
namespace Go.Proofs.YtndninajnkejnaaDoor
open Go Go.RowKit
set_option linter.unusedVariables false

theorem rdb_five (w : World) (x y z u v : BitVec 8) : RdB (w.alloc (.cells #[.int .u8 (x.toNat : Int), .int .u8 (y.toNat : Int), .int .u8 (z.toNat : Int), .int .u8 (u.toNat : Int), .int .u8 (v.toNat : Int)] 5)) (some ⟨w.heap.size, 0, none⟩) 5 5 [x, y, z, u, v] :=
  RdB.own (World.ownsRow_lit w (bv [x, y, z, u, v]).toArray 5 (base := w.heap.size) (e := 5) (size := 1) (Nat.le_refl _) (by decide) rfl) (by omega)
set_option maxRecDepth 100000 in
set_option maxHeartbeats 1000000 in
theorem law_CrcForges (A : Nat → Addr) (a : Option Addr) (n cap : Nat) (l : List (BitVec 8)) (q : Int) (want : BitVec 32) (w : World) (h : RdB w a n cap l) (q0 : -9223372036854775808 ≤ q) (q1 : q ≤ 9223372036854775807) (hE : Errs w allCodes A) (hT : TypeVar w) :
    Calls Tryd.prog 12 #[.slice a n cap, .int .i64 q, .int .u32 (want.toNat : Int)] w fun e w' => e = .returned (.bool true) ∧ Below w.heap.size w w' := by
  have H0 := Kp.mk h
  have HE0 := Kp.mk hE
  have HT0 := Kp.mk hT
  have hn := h.bound
  have HL := Kp.mk h.len
  clear h hE hT q0 q1
  go_enter Tryd.func12, Tryd.ntmps12
  go_wp2_with fail
  have b1 := (Below.refl w.heap.size w).alloc (Nat.le_refl _) (.cells #[.int .u8 ((1#8 : BitVec 8).toNat : Int), .int .u8 ((2#8 : BitVec 8).toNat : Int), .int .u8 ((3#8 : BitVec 8).toNat : Int), .int .u8 ((4#8 : BitVec 8).toNat : Int), .int .u8 ((5#8 : BitVec 8).toNat : Int)] 5)
  refine (crc_patch_yes _ _ _ _ 1 7#32 _ (rdb_five w 1#8 2#8 3#8 4#8 5#8) (by omega)).mono ?_
  rintro e w1 ⟨g, c1, v, rfl, hv, ho, hb⟩
  obtain ⟨P, hP⟩ : ∃ P, P = Crc.patched [1#8, 2#8, 3#8, 4#8, 5#8] 1 v := ⟨_, rfl⟩
  have hP0 : P.getD 0 0#8 = 1#8 := by rw [hP, Crc.patched_get _ _ _ _ (by decide)]; rfl
  rw [← hP] at hv ho
  have R1 := Kp.mk (RdB.own ho (by omega))
  have hc0 := World.ownsRow.cellAt ho 0 (by omega)
  have hPl : P.length = 5 := by have := R1.out.len; exact this
  rw [bv_get _ _ (by omega), hP0] at hc0
  rw [show (((1#8 : BitVec 8).toNat : Nat) : Int) = 1 from rfl] at hc0
  have B1 := Kp.mk (b1.trans (hb.mono b1.size))
  have C1 := fun h => crc_sum (some ⟨g, 0, none⟩) 5 c1 P w1 h
  rw [hv, show (((7#32 : BitVec 32).toNat : Nat) : Int) = 7 from rfl] at C1
  have K1 := Kp.mk C1
  clear hv ho hb b1 hP hP0 hPl C1
  go_wp2_with fail
  refine (K1.out R1.out).mono ?_
  rintro e w2 ⟨rfl, hb⟩
  have B2 := Kp.mk (B1.out.trans (hb.mono B1.out.size))
  have H2 := Kp.mk (H0.out.later B2.out)
  clear hb hc0
  by_cases hq : q < 0 ∨ (n : Int) - 4 < q
  · have HQ := Kp.mk hq
    clear hq
    go_wp2_with fail
    refine (crc_patch_no A _ n cap q want _ hn HQ.out ((HE0.out.later B2.out).sub (by decide))).mono ?_
    rintro e w3 ⟨rfl, hb⟩
    have B3 := Kp.mk (B2.out.trans (hb.mono B2.out.size)); clear hb
    by_cases h0 : q < 0
    · have hb0 : decide (q < 0) = true := decide_eq_true h0
      clear h0
      go_wp2_with fail
      refine (law_plain_is12 A _ (HE0.out.later B3.out) (HT0.out.later B3.out)).mono ?_
      rintro e w4 ⟨rfl, hb⟩
      have B4 := Kp.mk (B3.out.trans (hb.mono B3.out.size)); clear hb
      go_wp2
      go_ret
      exact ⟨rfl, B4.out⟩
    · have hb0 : decide (q < 0) = false := decide_eq_false h0
      have hb4 : decide ((n : Int) - 4 < q) = true := decide_eq_true (by have := HQ.out; omega)
      clear h0
      go_wp2_with fail
      refine (law_plain_is12 A _ (HE0.out.later B3.out) (HT0.out.later B3.out)).mono ?_
      rintro e w4 ⟨rfl, hb⟩
      have B4 := Kp.mk (B3.out.trans (hb.mono B3.out.size)); clear hb
      go_wp2
      go_ret
      exact ⟨rfl, B4.out⟩
  · obtain ⟨j, rfl⟩ := Int.eq_ofNat_of_zero_le (by omega : 0 ≤ q)
    have hj : j + 4 ≤ n := by omega
    have hb0 : decide ((j : Int) < 0) = false := decide_eq_false (by omega)
    have hb4 : decide ((n : Int) - 4 < (j : Int)) = false := decide_eq_false (by omega)
    clear hq
    go_wp2_with fail
    refine (crc_patch_yes _ n cap l j want _ H2.out hj).mono ?_
    rintro e w3 ⟨g3, c3, v3, rfl, hv, ho, hb⟩
    have HG := Kp.mk (fun i => Crc.patched_get l j i v3 (by rw [HL.out]; omega))
    have HH := Kp.mk (fun u => Crc.patched_home l j v3 u (by rw [HL.out]; omega))
    obtain ⟨P, hP⟩ : ∃ P, P = Crc.patched l j v3 := ⟨_, rfl⟩
    rw [← hP] at hv ho HG HH
    have R3 := Kp.mk (RdB.own ho hn)
    have H3 := Kp.mk (H2.out.later hb)
    have B3 := Kp.mk (B2.out.trans (hb.mono B2.out.size))
    have C3 := fun w h => crc_sum (some ⟨g3, 0, none⟩) n c3 P w h
    rw [hv] at C3
    have K3 := Kp.mk C3
    have hnn : ((n : Int) != (n : Int)) = false := by simp
    have hww : ((want.toNat : Int) != (want.toNat : Int)) = false := by simp
    clear hv ho hb hP C3
    go_wp2_with fail
    refine (K3.out _ R3.out).mono ?_
    rintro e w4 ⟨rfl, hb⟩
    have R4 := Kp.mk (R3.out.later hb)
    have H4 := Kp.mk (H3.out.later hb)
    have B4 := Kp.mk (B3.out.trans (hb.mono B3.out.size))
    clear hb
    go_wp2
    go_loopw [9] (fun x wr => ∃ i : Nat, i ≤ n ∧ x = .int .i64 i ∧ Kp (Below w4.heap.size w4 wr)) (fun x _ => n - (intOf x).toNat)
    case atStart => exact ⟨0, by omega, rfl, ⟨Below.refl _ _⟩⟩
    case round =>
      obtain ⟨i, hin, rfl, HB5⟩ := hrel
      obtain ⟨w5, rfl⟩ : ∃ w5 : World, w5 = wr := ⟨_, rfl⟩
      by_cases hlt : i < n
      · have hbi : decide ((i : Int) < (n : Int)) = true := decide_eq_true (by omega)
        have hbn : decide (i < n) = true := decide_eq_true hlt
        have hi0 : (0 : Int) ≤ (i : Int) := by omega
        have hin' : (i : Int) < (n : Int) := by omega
        have R5 := Kp.mk (R4.out.later HB5.out)
        have H5 := Kp.mk (H4.out.later HB5.out)
        obtain ⟨ba, oa, rfl, hca⟩ := H5.out.cells (by omega)
        obtain ⟨bp, op, ep, hcp⟩ := R5.out.cells (by omega)
        cases ep
        have hca' := hca i hlt
        have hcp' := hcp i hlt
        rw [Nat.zero_add] at hcp'
        have HGI := Kp.mk (HG.out i)
        clear hca hcp
        by_cases hk1 : i < j
        · have t1 : decide ((i : Int) < (j : Int)) = true := decide_eq_true (by omega)
          have t1' : decide (i < j) = true := decide_eq_true (by omega)
          rw [HGI.out, if_neg (by omega)] at hcp'
          obtain ⟨c, hc⟩ : ∃ c, c = l.getD i 0#8 := ⟨_, rfl⟩
          rw [← hc] at hcp' hca'
          have hcc : ((c.toNat : Int) != (c.toNat : Int)) = false := by simp
          clear hc hk1 hlt
          go_wp2
          go_quiet (fail)
          all_goals (
            go_wp2
            go_roundw
            case rel => exact ⟨i + 1, (by omega), (by go_num), ⟨HB5.out.trans ((Drew.below ⟨_, rfl⟩).mono HB5.out.size)⟩⟩
            case measure => simp [intOf]; omega)
        · have t1 : decide ((i : Int) < (j : Int)) = false := decide_eq_false (by omega)
          have t1' : decide (i < j) = false := decide_eq_false (by omega)
          by_cases hk2 : j + 4 ≤ i
          · have t2 : decide ((j : Int) + 4 ≤ (i : Int)) = true := decide_eq_true (by omega)
            have t2' : decide (j + 4 ≤ i) = true := decide_eq_true (by omega)
            rw [HGI.out, if_neg (by omega)] at hcp'
            obtain ⟨c, hc⟩ : ∃ c, c = l.getD i 0#8 := ⟨_, rfl⟩
            rw [← hc] at hcp' hca'
            have hcc : ((c.toNat : Int) != (c.toNat : Int)) = false := by simp
            clear hc hk1 hk2 hlt
            go_wp2
            go_quiet (fail)
            all_goals (
              go_wp2
              go_roundw
              case rel => exact ⟨i + 1, (by omega), (by go_num), ⟨HB5.out.trans ((Drew.below ⟨_, rfl⟩).mono HB5.out.size)⟩⟩
              case measure => simp [intOf]; omega)
          · have t2 : decide ((j : Int) + 4 ≤ (i : Int)) = false := decide_eq_false (by omega)
            have t2' : decide (j + 4 ≤ i) = false := decide_eq_false (by omega)
            clear hk1 hk2 hlt hcp' hca'
            go_wp2
            go_quiet (fail)
            all_goals (
              go_wp2
              go_roundw
              case rel => exact ⟨i + 1, (by omega), (by go_num), ⟨HB5.out.trans ((Drew.below ⟨_, rfl⟩).mono HB5.out.size)⟩⟩
              case measure => simp [intOf]; omega)
      · have : i = n := by omega
        subst this
        have hbi : decide ((i : Int) < (i : Int)) = false := decide_eq_false (by omega)
        have R5 := Kp.mk (R4.out.later HB5.out)
        have H5 := Kp.mk (H4.out.later HB5.out)
        have B5 := Kp.mk (B4.out.trans (HB5.out.mono B4.out.size))
        clear hlt
        go_wp2_with fail
        refine (crc_sum _ _ _ l _ H5.out).mono ?_
        rintro e w6 ⟨rfl, hb⟩
        have R6 := Kp.mk (R5.out.later hb)
        have H6 := Kp.mk (H5.out.later hb)
        have B6 := Kp.mk (B5.out.trans (hb.mono B5.out.size)); clear hb
        go_wp2_with fail
        refine (crc_patch_yes _ _ _ P j (Crc.sum l) _ R6.out hj).mono ?_
        rintro e w7 ⟨g7, c7, v7, rfl, hv, ho, hb⟩
        rw [HH.out v7 hv] at ho
        have R7 := Kp.mk (RdB.own ho hn)
        have H7 := Kp.mk (H6.out.later hb)
        have B7 := Kp.mk (B6.out.trans (hb.mono B6.out.size)); clear hb hv ho
        go_wp2_with fail
        refine (ref_equal _ _ _ _ _ _ l l _ R7.out H7.out).mono ?_
        rintro e w8 ⟨rfl, hd⟩
        have B8 := Kp.mk (B7.out.trans (hd.below.mono B7.out.size)); clear hd
        go_wp2
        go_ret
        exact ⟨ret_bool (by simp), B8.out⟩
end Go.Proofs.YtndninajnkejnaaDoor
