/- 'CrcSeals', walked: every Seal and Open. -/
import Derived.Test.YtndninajnkejnaaDoorSealRef
import Derived.Test.YtndninajnkejnaaDoorPlain
namespace Go.Proofs.YtndninajnkejnaaDoor
open Go Go.RowKit
set_option linter.unusedVariables false

def nineSealed : List (BitVec 8) := [49#8, 50#8, 51#8, 52#8, 53#8, 54#8, 55#8, 56#8, 57#8, 38#8, 57#8, 244#8, 203#8]
theorem nine_sealed : nineBytes ++ laidB (Crc.sum nineBytes) = nineSealed := by decide +kernel
theorem rdb_nineSealed (w : World) : RdB (w.alloc (.cells (bv nineSealed).toArray 5)) (some ⟨w.heap.size, 0, none⟩) 13 13 nineSealed :=
  RdB.own (World.ownsRow_lit w (bv nineSealed).toArray 13 (base := w.heap.size) (e := 5) (size := 1) (Nat.le_refl _) (by decide) rfl) (by omega)
set_option maxRecDepth 100000 in
theorem law_CrcSeals (A : Nat → Addr) (a : Option Addr) (n cap : Nat) (l : List (BitVec 8)) (w : World) (h : RdB w a n cap l) (hn : n ≤ 140737488351232) (hE : Errs w allCodes A) (hT : TypeVar w) :
    Calls Tryd.prog 9 #[.slice a n cap] w fun e w' => e = .returned (.bool true) ∧ Below w.heap.size w w' := by
  have H0 := Kp.mk h
  have HE0 := Kp.mk hE
  have HT0 := Kp.mk hT
  clear h hE hT
  go_enter Tryd.func9, Tryd.ntmps9
  go_wp2_with fail
  refine (law_awake _).mono ?_
  rintro e w1 ⟨rfl, hb⟩
  have B1 := Kp.mk hb; clear hb
  go_wp2_with fail
  refine (law_nine _).mono ?_
  rintro e w2 ⟨rfl, hb, hr⟩
  have R2 := Kp.mk hr
  have B2 := Kp.mk (B1.out.trans (hb.mono B1.out.size)); clear hb hr
  go_wp2_with fail
  refine (crc_seal _ _ _ nineBytes _ R2.out (by omega)).mono ?_
  rintro e w3 ⟨g, cs, rfl, ho, hb⟩
  rw [nine_sealed] at ho
  have R3 := Kp.mk (RdB.own ho (by omega))
  have B3 := Kp.mk (B2.out.trans (hb.mono B2.out.size)); clear hb ho
  go_wp2_with fail
  refine (ref_equal _ _ _ _ _ _ nineSealed nineSealed _ (R3.out.later ((Below.refl _ _).alloc (Nat.le_refl _) _)) (rdb_nineSealed _)).mono ?_
  rintro e w4 ⟨rfl, hd⟩
  have b3 := (B3.out.alloc B3.out.size (.cells (bv nineSealed).toArray 5))
  have B4 := Kp.mk (b3.trans (hd.below.mono b3.size)); clear hd b3
  have ht : decide (nineSealed = nineSealed) = true := decide_eq_true rfl
  have H4 := Kp.mk (H0.out.later B4.out)
  go_wp2_with fail
  refine (ref_seal _ _ _ l _ H4.out (by omega)).mono ?_
  rintro e w5 ⟨g5, c5, rfl, ho, hb⟩
  have R5 := Kp.mk (RdB.own ho (by omega))
  have H5 := Kp.mk (H4.out.later hb)
  have B5 := Kp.mk (B4.out.trans (hb.mono B4.out.size)); clear hb ho
  go_wp2_with fail
  refine (ref_open _ _ _ l _ H5.out).mono ?_
  rintro e w6 ⟨hb, hopen⟩
  have R6 := Kp.mk (R5.out.later hb)
  have H6 := Kp.mk (H5.out.later hb)
  have B6 := Kp.mk (B5.out.trans (hb.mono B5.out.size)); clear hb
  have hbd := H0.out.bound
  obtain ⟨c, v, k, lo, rfl, hc, hv, hop⟩ : ∃ (c : Nat) (v : Value) (k : Nat) (lo : List (BitVec 8)), e = .returned (.tuple #[v, .int .i64 (c : Int)]) ∧ c ≤ 20 ∧ (k ≤ 140737488355328 ∧ ∃ x cx, v = .slice x k cx ∧ RdB w6 x k cx lo) ∧
      (∀ (w7 : World) (e7 : Ending) (w8 : World), (Below w7.heap.size w7 w8 ∧
      ((n < 4 ∧ e7 = .returned (.tuple #[.slice none 0 0, errv (A 1)])) ∨
       (4 ≤ n ∧ laidB (Crc.sum (l.take (n - 4))) ≠ l.drop (n - 4) ∧ e7 = .returned (.tuple #[.slice none 0 0, errv (A 6)])) ∨
       (4 ≤ n ∧ laidB (Crc.sum (l.take (n - 4))) = l.drop (n - 4) ∧ ∃ v, e7 = .returned (.tuple #[v, .nilIface]) ∧ w8.ownsRow w7.heap.size 5 1 v (n - 4) (bv (l.take (n - 4)))))) →
        ∃ x cx, e7 = .returned (.tuple #[.slice x k cx, errOf A c]) ∧ RdB w8 x k cx lo ∧ Below w7.heap.size w7 w8) := by
    rcases hopen with ⟨h, rfl⟩ | ⟨h, hne, rfl⟩ | ⟨h, heq, v, rfl, ho⟩
    · refine ⟨1, _, 0, [], rfl, by omega, ⟨by omega, none, 0, rfl, RdB.own (World.ownsRow_nil w6 0 0 1) (by omega)⟩, ?_⟩
      rintro w7 e7 w8 ⟨hb, ⟨_, rfl⟩ | ⟨h', _⟩ | ⟨h', _⟩⟩
      · exact ⟨none, 0, rfl, RdB.own (World.ownsRow_nil w8 0 0 1) (by omega), hb⟩
      · omega
      · omega
    · refine ⟨6, _, 0, [], rfl, by omega, ⟨by omega, none, 0, rfl, RdB.own (World.ownsRow_nil w6 0 0 1) (by omega)⟩, ?_⟩
      rintro w7 e7 w8 ⟨hb, ⟨h', rfl⟩ | ⟨_, _, rfl⟩ | ⟨_, h', _⟩⟩
      · omega
      · exact ⟨none, 0, rfl, RdB.own (World.ownsRow_nil w8 0 0 1) (by omega), hb⟩
      · exact absurd h' hne
    · refine ⟨0, _, n - 4, l.take (n - 4), rfl, by omega, ⟨by omega, own_rd ho (by omega)⟩, ?_⟩
      rintro w7 e7 w8 ⟨hb, ⟨h', rfl⟩ | ⟨_, h', rfl⟩ | ⟨_, _, v, rfl, ho⟩⟩
      · omega
      · exact absurd heq h'
      · obtain ⟨x, cx, rfl, hr⟩ := own_rd ho (by omega)
        exact ⟨x, cx, rfl, hr, hb⟩
  obtain ⟨hk, y, cy, rfl, hy⟩ := hv
  have Y6 := Kp.mk hy
  have HOP := Kp.mk hop
  have HE6 := Kp.mk (HE0.out.later B6.out)
  have HT6 := Kp.mk (HT0.out.later B6.out)
  clear hopen hop hy hbd
  go_wp2_with fail
  refine (crc_seal _ _ _ l _ H6.out (by omega)).mono ?_
  rintro e w7 ⟨g7, c7, rfl, ho, hb⟩
  have S7 := Kp.mk (RdB.own ho (by omega))
  have R7 := Kp.mk (R6.out.later hb)
  have H7 := Kp.mk (H6.out.later hb)
  have Y7 := Kp.mk (Y6.out.later hb)
  have HE7 := Kp.mk (HE6.out.later hb)
  have HT7 := Kp.mk (HT6.out.later hb)
  have B7 := Kp.mk (B6.out.trans (hb.mono B6.out.size)); clear hb ho
  obtain ⟨L, hL⟩ : ∃ L, L = l ++ laidB (Crc.sum l) := ⟨_, rfl⟩
  rw [← hL] at S7 R7
  clear hL
  go_wp2_with fail
  refine (ref_equal _ _ _ _ _ _ L L _ S7.out R7.out).mono ?_
  rintro e w8 ⟨rfl, hd⟩
  have H8 := Kp.mk (H7.out.later hd.below)
  have Y8 := Kp.mk (Y7.out.later hd.below)
  have HE8 := Kp.mk (HE7.out.later hd.below)
  have HT8 := Kp.mk (HT7.out.later hd.below)
  have B8 := Kp.mk (B7.out.trans (hd.below.mono B7.out.size)); clear hd
  have htL : decide (L = L) = true := decide_eq_true rfl
  go_wp2_with fail
  refine (crc_open A _ _ _ l _ (HE8.out.sub (by decide)) H8.out).mono ?_
  rintro e w9 h9
  obtain ⟨x, cx, rfl, hx, hb⟩ := HOP.out _ _ _ h9
  have X9 := Kp.mk hx
  have Y9 := Kp.mk (Y8.out.later hb)
  have HE9 := Kp.mk (HE8.out.later hb)
  have HT9 := Kp.mk (HT8.out.later hb)
  have B9 := Kp.mk (B8.out.trans (hb.mono B8.out.size)); clear hb hx h9
  go_wp2_with fail
  refine (law_plain A c c _ hc HE9.out HT9.out).mono ?_
  rintro e w10 ⟨rfl, hb⟩
  have X10 := Kp.mk (X9.out.later hb)
  have Y10 := Kp.mk (Y9.out.later hb)
  have B10 := Kp.mk (B9.out.trans (hb.mono B9.out.size)); clear hb
  have htc : decide ((c : Int) = (c : Int)) = true := decide_eq_true rfl
  go_wp2_with fail
  refine (ref_equal _ _ _ _ _ _ lo lo _ X10.out Y10.out).mono ?_
  rintro e w11 ⟨rfl, hd⟩
  have B11 := Kp.mk (B10.out.trans (hd.below.mono B10.out.size)); clear hd
  have hto : decide (lo = lo) = true := decide_eq_true rfl
  go_wp2
  go_ret
  exact ⟨ret_bool (by simp), B11.out⟩
end Go.Proofs.YtndninajnkejnaaDoor
