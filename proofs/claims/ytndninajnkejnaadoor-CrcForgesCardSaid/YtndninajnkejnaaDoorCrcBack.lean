/- 'CrcBack', walked: Turn twice, Burst of Turn. -/
import Derived.Test.YtndninajnkejnaaDoorCrcTurns
import Derived.Test.YtndninajnkejnaaDoorBackPure
namespace Go.Proofs.YtndninajnkejnaaDoor
open Go Go.RowKit
set_option linter.unusedVariables false

theorem rdb_one (w : World) (x : BitVec 8) : RdB (w.alloc (.cells #[.int .u8 (x.toNat : Int)] 5)) (some ⟨w.heap.size, 0, none⟩) 1 1 [x] :=
  RdB.own (World.ownsRow_lit w (bv [x]).toArray 1 (base := w.heap.size) (e := 5) (size := 1) (Nat.le_refl _) (by decide) rfl) (by omega)
theorem turn_one : Crc.turnTo [0#8] 7 1#32 32 = [128#8] := by decide
theorem fits_one : Crc.Fits 1 7 1#32 32 := by
  intro i hi hb
  by_cases h0 : i = 0
  · omega
  · exfalso
    have hall : ∀ i : Fin 32, i.val ≠ 0 → (1#32 : BitVec 32).getLsbD i.val = false := by decide
    have := hall ⟨i, hi⟩ h0
    rw [hb] at this; cases this
theorem shl32 (b : BitVec 32) (n : Nat) : ((b.toNat : Int) * 2 ^ n) % 4294967296 = ((b <<< n).toNat : Int) := by
  rw [BitVec.toNat_shiftLeft, Nat.shiftLeft_eq]
  have : ((2 : Int) ^ n) = ((2 ^ n : Nat) : Int) := by simp
  rw [this, ← Int.natCast_mul]; omega
theorem law_plain_is12 (A : Nat → Addr) (w : World) (hE : Errs w allCodes A) (hT : TypeVar w) :
    Calls Tryd.prog 30 #[errv (A 12), .int .i64 12] w fun e w' => e = .returned (.bool true) ∧ Below w.heap.size w w' := by
  have := law_plain A 12 12 w (by omega) hE hT
  simpa [errOf] using this
/-- A Turn that is not refused. -/
theorem turn_yes {A : Nat → Addr} {w0 w1 : World} {n : Nat} {l : List (BitVec 8)} {k : Nat} {m : BitVec 32} {e : Ending} (hn : n ≤ 140737488355328) (hm : m ≠ 0#32) (hk : k ≤ 8 * n) (hf : Crc.Fits n k m 32) (h : TurnPostC A w0 n l (k : Int) m e w1) :
    ∃ x c, e = .returned (.tuple #[.slice x n c, .nilIface]) ∧ RdB w1 x n c (Crc.turnTo l k m 32) ∧ Below w0.heap.size w0 w1 := by
  rcases h with ⟨k', g, c', e1, _, _, _, rfl, ho, hb⟩ | ⟨hno, _⟩
  · obtain rfl : k = k' := by omega
    exact ⟨_, c', rfl, RdB.own ho hn, hb⟩
  · exact absurd ⟨k, rfl, hm, hk, hf⟩ hno
set_option maxRecDepth 100000 in
set_option maxHeartbeats 1000000 in
theorem law_CrcBack (A : Nat → Addr) (a : Option Addr) (n cap : Nat) (l : List (BitVec 8)) (q : Int) (m : BitVec 32) (w : World) (h : RdB w a n cap l) (q0 : -9223372036854775808 ≤ q) (q1 : q ≤ 9223372036854775807) (hE : Errs w allCodes A) (hT : TypeVar w) (hTab : TabAt w) :
    Calls Tryd.prog 14 #[.slice a n cap, .int .i64 q, .int .u32 (m.toNat : Int)] w fun e w' => e = .returned (.bool true) ∧ Below w.heap.size w w' := by
  have H0 := Kp.mk h
  have HE0 := Kp.mk hE
  have HT0 := Kp.mk hT
  have HX0 := Kp.mk hTab
  have hn := h.bound
  have HQ := Kp.mk (And.intro q0 q1)
  clear h hE hT hTab q0 q1
  go_enter Tryd.func14, Tryd.ntmps14
  go_wp2_with fail
  have b1 := (Below.refl w.heap.size w).alloc (Nat.le_refl _) (.cells #[.int .u8 ((0#8 : BitVec 8).toNat : Int)] 5)
  refine (crc_turn A _ _ _ _ 7 1#32 _ (rdb_one w 0#8) (by omega) (by omega) ((HE0.out.later b1).sub (by decide)) (HX0.out.later b1)).mono ?_
  rintro e w1 hp
  obtain ⟨x, c, rfl, hx, hb⟩ := turn_yes (k := 7) (by omega) (by decide) (by decide) fits_one hp
  rw [turn_one] at hx
  obtain ⟨xb, xo, rfl, hc⟩ := hx.cells (by omega)
  have hcell : w1.cell? ⟨xb, xo, none⟩ = some (.int .u8 128) := by
    have h0 := hc 0 (by omega)
    rw [Nat.add_zero] at h0
    exact h0
  have B1 := Kp.mk (b1.trans (hb.mono b1.size))
  have H1 := Kp.mk (H0.out.later B1.out)
  clear hp hb b1 hx hc
  go_wp2_with fail
  refine (crc_turn A _ _ _ l q m _ H1.out HQ.out.1 HQ.out.2 ((HE0.out.later B1.out).sub (by decide)) (HX0.out.later B1.out)).mono ?_
  rintro e w2 (⟨k, g, c2, rfl, hm, hk, hf, rfl, ho, hb⟩ | ⟨_, rfl, hb⟩)
  · have R2 := Kp.mk (RdB.own ho hn)
    have H2 := Kp.mk (H1.out.later hb)
    have B2 := Kp.mk (B1.out.trans (hb.mono B1.out.size))
    have HM := Kp.mk hm
    have HF := Kp.mk hf
    have hkn := HQ.out
    have HLN := Kp.mk H0.out.len
    clear hcell ho hb hm hf
    go_wp2_with fail
    refine (crc_turn A _ _ _ (Crc.turnTo l k m 32) k m _ R2.out hkn.1 hkn.2 ((HE0.out.later B2.out).sub (by decide)) (HX0.out.later B2.out)).mono ?_
    rintro e w3 hp
    obtain ⟨y, cy, rfl, hy, hb⟩ := turn_yes (k := k) hn HM.out hk HF.out hp
    rw [Crc.turn_twice l k m (by rw [HLN.out]; exact HF.out)] at hy
    have Y3 := Kp.mk hy
    have R3 := Kp.mk (R2.out.later hb)
    have H3 := Kp.mk (H2.out.later hb)
    have B3 := Kp.mk (B2.out.trans (hb.mono B2.out.size))
    clear hp hy hb
    go_wp2_with fail
    refine (ref_equal _ _ _ _ _ _ l l _ Y3.out H3.out).mono ?_
    rintro e w4 ⟨rfl, hd⟩
    have R4 := Kp.mk (R3.out.later hd.below)
    have H4 := Kp.mk (H3.out.later hd.below)
    have B4 := Kp.mk (B3.out.trans (hd.below.mono B3.out.size)); clear hd
    have htl : decide (l = l) = true := decide_eq_true rfl
    go_wp2_with fail
    refine (crc_burst A _ _ _ _ _ _ l _ _ H4.out R4.out ((HE0.out.later B4.out).sub (by decide))).mono ?_
    rintro e w5 ⟨p, s, c, v, rfl, hbi, hv, hd⟩
    obtain ⟨t, ht⟩ := Crc.low_of m HM.out
    obtain ⟨l1, l2, l3, l4⟩ := Crc.len_bits m HM.out
    obtain ⟨rfl, hs, rfl⟩ := hbi.unique (Crc.burst_turn l n k m HLN.out HM.out HF.out t _ ht l1 l2 l3 l4)
    have hv' : v = .nilIface := hv
    subst hv'
    have H5 := Kp.mk (H4.out.later hd.below)
    have R5 := Kp.mk (R4.out.later hd.below)
    have B5 := Kp.mk (B4.out.trans (hd.below.mono B4.out.size))
    have htt : t < 32 := ht.1
    have hbit := Crc.low1 s
    have hb0 : s.getLsbD 0 = true := by rw [hs, BitVec.getLsbD_ushiftRight, Nat.add_zero]; exact ht.2.1
    rw [hb0] at hbit
    have hbit2 : (bits .and .u32 (s.toNat : Int) 1 != 1) = false := by simp only [bne, hbit]; rfl
    have hshl := shl32 s t
    have hst : s <<< t = m := by rw [hs]; exact Crc.shr_shl m t ht
    rw [hst] at hshl
    have HFS : Kp (Crc.Fits n (k + t) s 32) := ⟨by rw [hs]; exact Crc.fits_shift n k m t HF.out⟩
    have HTS : Kp (Crc.turnTo l (k + t) s 32 = Crc.turnTo l k m 32) := ⟨by rw [hs]; exact Crc.turn_shift l k m t ht (by rw [HLN.out]; exact HF.out)⟩
    have HS0 : Kp (s ≠ 0#32) := ⟨fun e => by rw [e] at hb0; simp at hb0⟩
    have hkt : k + t < 8 * n := HF.out t ht.1 ht.2.1
    obtain ⟨kt, hkt2⟩ : ∃ kt : Nat, kt = k + t := ⟨_, rfl⟩
    rw [← hkt2] at HFS HTS hkt ⊢
    have hsub : (kt : Int) - (k : Int) = (t : Int) := by omega
    have hlt : decide ((kt : Int) < (k : Int)) = false := decide_eq_false (by omega)
    have h31 : decide (31 < (t : Int)) = false := decide_eq_false (by omega)
    have hmne : ((m.toNat : Int) != (m.toNat : Int)) = false := by simp
    have hkt0 : -9223372036854775808 ≤ (kt : Int) := by omega
    have hkt1 : (kt : Int) ≤ 9223372036854775807 := by omega
    clear hbi hv hd ht l1 l2 l3 l4 hs hb0 hst hkt2
    go_wp2_with fail
    refine (crc_turn A _ _ _ l kt s _ H5.out hkt0 hkt1 ((HE0.out.later B5.out).sub (by decide)) (HX0.out.later B5.out)).mono ?_
    rintro e w6 hp
    obtain ⟨z, cz, rfl, hz, hb⟩ := turn_yes (k := kt) hn HS0.out (by omega) HFS.out hp
    rw [HTS.out] at hz
    have Z6 := Kp.mk hz
    have R6 := Kp.mk (R5.out.later hb)
    have B6 := Kp.mk (B5.out.trans (hb.mono B5.out.size))
    clear hp hz hb
    obtain ⟨L, hL⟩ : ∃ L, L = Crc.turnTo l k m 32 := ⟨_, rfl⟩
    rw [← hL] at Z6 R6
    clear hL
    go_wp2_with fail
    refine (ref_equal _ _ _ _ _ _ L L _ Z6.out R6.out).mono ?_
    rintro e w7 ⟨rfl, hd⟩
    have B7 := Kp.mk (B6.out.trans (hd.below.mono B6.out.size)); clear hd
    have htL : decide (L = L) = true := decide_eq_true rfl
    go_wp2
    go_ret
    exact ⟨ret_bool (by simp), B7.out⟩
  · have B2 := Kp.mk (B1.out.trans (hb.mono B1.out.size))
    clear hcell hb
    go_wp2_with fail
    refine (law_plain_is12 A _ (HE0.out.later B2.out) (HT0.out.later B2.out)).mono ?_
    rintro e w3 ⟨rfl, hb⟩
    have B3 := Kp.mk (B2.out.trans (hb.mono B2.out.size)); clear hb
    go_wp2
    go_ret
    exact ⟨rfl, B3.out⟩
end Go.Proofs.YtndninajnkejnaaDoor
