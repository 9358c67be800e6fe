/- Package crc's Turn, walked. -/
import Derived.Test.YtndninajnkejnaaDoorTzWalk
import Derived.Test.YtndninajnkejnaaDoorLenWalk
import Derived.Test.YtndninajnkejnaaDoorTurnWalk
import Derived.Test.YtndninajnkejnaaDoorSealWalk
namespace Go.Proofs.YtndninajnkejnaaDoor
open Go Go.RowKit
set_option linter.unusedVariables false
namespace Crc
theorem turn_skip (l : List B) (q : Nat) (m : R) (j t : Nat) (hjt : j ≤ t) (h : ∀ i, j ≤ i → i < t → m.getLsbD i = false) : turnTo l q m t = turnTo l q m j := by
  obtain ⟨d, rfl⟩ : ∃ d, t = j + d := ⟨t - j, by omega⟩
  clear hjt
  induction d with
  | zero => rfl
  | succ d ih =>
    rw [show j + (d + 1) = (j + d) + 1 by omega]
    conv => lhs; unfold turnTo
    rw [h (j + d) (by omega) (by omega)]
    simp only [Bool.false_eq_true, if_false]
    exact ih (fun i h1 h2 => h i h1 (by omega))
/-- What is left of the mask from bit j on. -/
def Left (m m' : R) (j : Nat) : Prop := ∀ i, i < 32 → m'.getLsbD i = (m.getLsbD i && decide (j ≤ i))
theorem Left.zero (m : R) : Left m m 0 := fun i hi => by simp
theorem Left.low {m m' : R} {j t : Nat} (h : Left m m' j) (ht : Low m' t) : j ≤ t ∧ m.getLsbD t = true ∧ ∀ i, j ≤ i → i < t → m.getLsbD i = false := by
  obtain ⟨t1, t2, t3⟩ := ht
  have e := h t t1
  rw [t2] at e
  have e1 : m.getLsbD t = true ∧ j ≤ t := by simpa using e.symm
  refine ⟨e1.2, e1.1, fun i h1 h2 => ?_⟩
  have := h i (by omega)
  rw [t3 i h2] at this
  simpa [h1] using this.symm
theorem Left.next {m m' : R} {j t : Nat} (h : Left m m' j) (ht : Low m' t) : Left m (m' ^^^ (1#32 <<< t)) (t + 1) := by
  obtain ⟨hj, hb, hz⟩ := h.low ht
  intro i hi
  rw [BitVec.getLsbD_xor, bit1 t i hi, h i hi]
  by_cases e : i = t
  · subst e; simp [hb, hj]
  · by_cases g : t < i
    · simp [e, show t + 1 ≤ i by omega, show j ≤ i by omega]
    · by_cases k : j ≤ i
      · simp [hz i k (by omega), e]
      · simp [k, e, show ¬ t + 1 ≤ i by omega]
theorem Left.done {m : R} {j : Nat} (h : Left m 0#32 j) (l : List B) (q : Nat) (hj : j ≤ 32) : turnTo l q m 32 = turnTo l q m j :=
  turn_skip l q m j 32 hj (fun i h1 h2 => by have := h i h2; simpa [h1] using this.symm)
theorem fits_len (n q : Nat) (m : R) (L : Nat) (h1 : 1 ≤ L) (h2 : L ≤ 32) (hb : m.getLsbD (L - 1) = true) (hz : ∀ i, L ≤ i → m.getLsbD i = false) : Fits n q m 32 ↔ q + (L - 1) < 8 * n := by
  constructor
  · intro h; exact h (L - 1) (by omega) hb
  · intro h i hi hbi
    have : ¬ L ≤ i := fun g => by have := hz i g; rw [hbi] at this; cases this
    omega
end Crc
/-- What package crc's Turn answers. -/
def TurnPostC (A : Nat → Addr) (w : World) (n : Nat) (l : List (BitVec 8)) (q : Int) (m : BitVec 32) (e : Ending) (w' : World) : Prop :=
  (∃ (k : Nat) (g c' : Nat), q = k ∧ m ≠ 0#32 ∧ k ≤ 8 * n ∧ Crc.Fits n k m 32 ∧ e = .returned (.tuple #[.slice (some ⟨g, 0, none⟩) n c', .nilIface]) ∧ w'.ownsRow w.heap.size 5 1 (.slice (some ⟨g, 0, none⟩) n c') n (bv (Crc.turnTo l k m 32)) ∧ Below w.heap.size w w') ∨
  (¬ (∃ k : Nat, q = k ∧ m ≠ 0#32 ∧ k ≤ 8 * n ∧ Crc.Fits n k m 32) ∧ e = .returned (.tuple #[.slice none 0 0, errv (A 12)]) ∧ Below w.heap.size w w')
set_option maxRecDepth 100000 in
set_option maxHeartbeats 1000000 in
theorem crc_turn (A : Nat → Addr) (a : Option Addr) (n cap : Nat) (l : List (BitVec 8)) (q : Int) (m : BitVec 32) (w : World) (h : RdB w a n cap l) (q0 : -9223372036854775808 ≤ q) (q1 : q ≤ 9223372036854775807) (hE : Errs w [12] A) (hT : TabAt w) :
    Calls Tryd.prog 39 #[.slice a n cap, .int .i64 q, .int .u32 (m.toNat : Int)] w (TurnPostC A w n l q m) := by
  have hn := h.le
  have E12 := hE.cell 12 (by simp)
  simp only [errVar] at E12
  clear hE
  by_cases hm : m = 0#32
  · have hb0 : ((m.toNat : Int) == 0) = true := by rw [Crc.zero_int]; simp [hm]
    have HM := Kp.mk hm
    clear hm h hT
    go_enter Tryd.func39, Tryd.ntmps39
    go_wp2
    go_region
    all_goals (go_wp2; go_ret2; exact .inr ⟨fun ⟨_, _, h, _⟩ => h HM.out, rfl, (Drew.once _).below⟩)
  · have hb0 : ((m.toNat : Int) == 0) = false := by rw [Crc.zero_int]; simp [hm]
    by_cases h0 : q < 0
    · have hb1 : decide (q < 0) = true := decide_eq_true h0
      have H0 := Kp.mk h0
      clear hm h hT h0
      go_enter Tryd.func39, Tryd.ntmps39
      go_wp2
      go_region
      all_goals (go_wp2; go_ret2; exact .inr ⟨fun ⟨k, e, _⟩ => by have := H0.out; omega, rfl, (Drew.once _).below⟩)
    · obtain ⟨p, rfl⟩ := Int.eq_ofNat_of_zero_le (by omega : 0 ≤ q)
      have hb1 : decide ((p : Int) < 0) = false := decide_eq_false (by omega)
      obtain ⟨L, hL⟩ : ∃ L, L = Lib.bitLen m.toNat := ⟨_, rfl⟩
      obtain ⟨l1, l2, l3, l4⟩ := Crc.len_bits m hm
      have CL := fun w => bits_len (m.toNat : Int) w (by omega) (by have := m.isLt; omega)
      rw [Int.toNat_natCast] at CL
      rw [← hL] at l1 l2 l3 l4 CL
      have HF := Kp.mk (Crc.fits_len n p m L l1 l2 l3 l4)
      have KL := Kp.mk CL
      have HM := Kp.mk hm
      have HT := Kp.mk hT
      have HR := Kp.mk h
      clear hm h hT hL l3 l4 CL h0
      by_cases hp : n ≤ p / 8
      · have hb2 : decide ((n : Int) ≤ (p : Int) / 8) = true := decide_eq_true (by omega)
        have HP := Kp.mk hp
        go_enter Tryd.func39, Tryd.ntmps39
        go_wp2
        go_region
        all_goals (go_wp2; go_ret2; refine .inr ⟨?_, rfl, (Drew.once _).below⟩; rintro ⟨k, e, _, _, hf⟩; have hk : k = p := (by omega); subst hk; have h1 := HF.out.1 hf; have h2 := HP.out; omega)
      · have hb2 : decide ((n : Int) ≤ (p : Int) / 8) = false := decide_eq_false (by omega)
        obtain ⟨s, hs⟩ : ∃ s : Nat, s = p % 8 + L - 1 := ⟨_, rfl⟩
        have hs1 : (p : Int) % 8 + (L : Int) - 1 = (s : Int) := by omega
        have hp2 : p / 8 < n := by omega
        by_cases hl : n ≤ p / 8 + s / 8
        · have hb3 : decide ((n : Int) ≤ (p : Int) / 8 + (s : Int) / 8) = true := decide_eq_true (by omega)
          have HP := Kp.mk (show ¬ p + (L - 1) < 8 * n by omega)
          clear hs
          go_enter Tryd.func39, Tryd.ntmps39
          go_wp2_with fail
          refine (KL.out _).mono ?_
          rintro e w1 ⟨rfl, rfl⟩
          go_wp2
          go_region
          all_goals (go_wp2; go_ret2; refine .inr ⟨?_, rfl, (Drew.once _).below⟩; rintro ⟨k, e, _, _, hf⟩; have hk : k = p := (by omega); subst hk; exact HP.out (HF.out.1 hf))
        · have hb3 : decide ((n : Int) ≤ (p : Int) / 8 + (s : Int) / 8) = false := decide_eq_false (by omega)
          have HP := Kp.mk (show p + (L - 1) < 8 * n by omega)
          have HFT := Kp.mk (HF.out.2 HP.out)
          have hp8 : p ≤ 8 * n := by omega
          have hl2 : p / 8 + s / 8 < n := by omega
          clear hl hs hp
          have hapos : ∃ x0, a = some x0 := by
            cases a with
            | none => have := HR.out.nil rfl; have := HR.out.fits; have := HP.out; omega
            | some x => exact ⟨x, rfl⟩
          obtain ⟨x0, rfl⟩ := hapos
          go_enter Tryd.func39, Tryd.ntmps39
          go_wp2_with fail
          refine (KL.out _).mono ?_
          rintro e w1 ⟨rfl, rfl⟩
          go_wp2_with fail
          refine (bytes_clone _ _ _ l _ HR.out).mono ?_
          rintro e w2 ⟨g, c', rfl, ho, hb, hBg⟩
          have HO := Kp.mk ho
          have HB := Kp.mk hb
          clear ho hb
          have HTB := Kp.mk (HT.out.later HB.out)
          clear hb2 hb3 hs1 hl2 hp2 l1 l2
          go_wp2
          go_loopw [2, 10] (fun ms _ wr => ∃ (z : BitVec 32) (j : Nat), j ≤ 32 ∧ ms = .int .u32 (z.toNat : Int) ∧ Kp (Crc.Left m z j) ∧ Kp (wr.ownsRow w.heap.size 5 1 (.slice (some ⟨g, 0, none⟩) n c') n (bv (Crc.turnTo l p m j))) ∧ Kp (Below w.heap.size w wr)) (fun ms _ _ => (intOf ms).toNat)
          case atStart => exact ⟨m, 0, by omega, rfl, ⟨Crc.Left.zero m⟩, HO, HB⟩
          case round =>
            clear HO HB
            obtain ⟨z, j, hj, rfl, HLf, HO, HB⟩ := hrel
            by_cases hz : z = 0#32
            · have hzb : ((z.toNat : Int) != 0) = false := by rw [hz]; rfl
              have HZ := Kp.mk hz
              clear hz
              go_wp2
              go_ret2
              have hlf := HLf.out
              rw [HZ.out] at hlf
              refine .inl ⟨p, g, c', rfl, HM.out, hp8, HFT.out, rfl, ?_, HB.out⟩
              rw [hlf.done l p hj]
              exact HO.out
            · have hzb : ((z.toNat : Int) != 0) = true := by
                have : z.toNat ≠ 0 := fun e => hz (BitVec.eq_of_toNat_eq e)
                rw [bne_iff_ne]; omega
              obtain ⟨t, ht⟩ := Crc.low_of z hz
              obtain ⟨hjt, hmt, hzl⟩ := HLf.out.low ht
              have htt : t < 32 := ht.1
              have hfit : p + t < 8 * n := HFT.out t htt hmt
              have HTZ := Kp.mk (bits_tz32 z t wr ht (HT.out.later HB.out))
              have HN := Kp.mk (HLf.out.next ht)
              have HSK := Kp.mk (Crc.turn_skip l p m j t hjt hzl)
              have HMT := Kp.mk hmt
              obtain ⟨kk, hkk⟩ : ∃ kk : Nat, kk = p % 8 + t := ⟨_, rfl⟩
              have hk1 : (p : Int) % 8 + (t : Int) = (kk : Int) := by omega
              have hi : p / 8 + kk / 8 < n := by omega
              have HI : Kp (p / 8 + kk / 8 = (p + t) / 8 ∧ kk % 8 = (p + t) % 8) := ⟨by omega⟩
              have hll : (Crc.turnTo l p m j).length = n := by rw [Crc.turnTo_length]; exact HR.out.len
              obtain ⟨c, hc⟩ : ∃ c, c = (Crc.turnTo l p m j).getD (p / 8 + kk / 8) 0#8 := ⟨_, rfl⟩
              have hcell : wr.cell? ⟨g, p / 8 + kk / 8, none⟩ = some (.int .u8 (c.toNat : Int)) := by
                rw [HO.out.cellAt _ (by omega), bv_get _ _ (by omega), hc]
              have hfz : wr.frozen? ⟨g, p / 8 + kk / 8, none⟩ = false := HO.out.frozenAt _
              obtain ⟨y, hy⟩ : ∃ y, y = z - 1#32 := ⟨_, rfl⟩
              have hz0 : z.toNat ≠ 0 := fun e => hz (BitVec.eq_of_toNat_eq e)
              have hy1 : (z.toNat : Int) - 1 = (y.toNat : Int) := by rw [hy, BitVec.toNat_sub]; have := z.isLt; simp; omega
              obtain ⟨z2, hz2⟩ : ∃ z2, z2 = z ^^^ (1#32 <<< t) := ⟨_, rfl⟩
              have hand := Crc.and32 z y
              have hzy : z &&& y = z2 := by rw [hy, hz2]; exact Crc.and_pred z t ht
              have HLE : Kp (z2.toNat < z.toNat) := ⟨by
                rw [← hzy, BitVec.toNat_and]
                have := Nat.and_le_right (n := z.toNat) (m := y.toNat)
                omega⟩
              rw [hzy] at hand
              rw [← hz2] at HN
              have HC := Kp.mk hc
              have HLL := Kp.mk hll
              have hz1' : (1 : Int) ≤ (z.toNat : Int) := by omega
              clear hz ht hjt hmt hzl hkk hll hc hy hz2 hzy hz0
              go_wp2_with fail
              refine (HTZ.out).mono ?_
              rintro e w3 ⟨rfl, rfl⟩
              go_wp2
              go_region
              go_wp2
              go_roundw
              case rel =>
                have hs := HO.out.stored (p / 8 + kk / 8) (.int .u8 (bits .xor .u8 (c.toNat : Int) (2 ^ (kk % 8) % 256)))
                have e : (bv (Crc.turnTo l p m j)).set (p / 8 + kk / 8) (.int .u8 (bits .xor .u8 (c.toNat : Int) (2 ^ (kk % 8) % 256))) = bv (Crc.turnTo l p m (t + 1)) := by
                  rw [Crc.flip_int c _ (by omega), bv_set, HC.out, HI.out.1, HI.out.2]
                  conv => rhs; unfold Crc.turnTo
                  rw [if_pos HMT.out, HSK.out]; rfl
                rw [e] at hs
                exact ⟨z2, t + 1, by omega, rfl, HN, ⟨hs.1⟩, ⟨(HB.out.setCell hBg _).drew⟩⟩
              case measure => simp only [intOf]; have := HLE.out; simp; omega
end Go.Proofs.YtndninajnkejnaaDoor
