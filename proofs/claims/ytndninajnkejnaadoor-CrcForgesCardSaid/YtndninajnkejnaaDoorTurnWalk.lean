/- The document's Turn, walked. -/
import Derived.Test.YtndninajnkejnaaDoorAppend
import Derived.Test.YtndninajnkejnaaDoorBurstPure
import Derived.RegionTactic
import Derived.ChangeAlike
namespace Go.Proofs.YtndninajnkejnaaDoor
open Go Go.RowKit
set_option linter.unusedVariables false

/-- What the document's Turn answers. -/
def TurnPost (w : World) (n : Nat) (l : List (BitVec 8)) (q : Int) (m : BitVec 32) (e : Ending) (w' : World) : Prop :=
  (∃ (k : Nat) (g c' : Nat), q = k ∧ m ≠ 0#32 ∧ k ≤ 8 * n ∧ Crc.Fits n k m 32 ∧ e = .returned (.tuple #[.slice (some ⟨g, 0, none⟩) n c', .int .i64 0]) ∧ w'.ownsRow w.heap.size 5 1 (.slice (some ⟨g, 0, none⟩) n c') n (bv (Crc.turnTo l k m 32)) ∧ Below w.heap.size w w') ∨
  (¬ (∃ k : Nat, q = k ∧ m ≠ 0#32 ∧ k ≤ 8 * n ∧ Crc.Fits n k m 32) ∧ e = .returned (.tuple #[.slice none 0 0, .int .i64 12]) ∧ Below w.heap.size w w')

set_option maxRecDepth 100000 in
theorem ref_turn_yes (a : Option Addr) (n cap : Nat) (l : List (BitVec 8)) (q : Nat) (m : BitVec 32) (w : World) (h : RdB w a n cap l) (hm : m ≠ 0#32) (h1 : q ≤ 8 * n) :
    Calls Tryd.prog 36 #[.slice a n cap, .int .i64 (q : Int), .int .u32 (m.toNat : Int)] w (TurnPost w n l q m) := by
  have hn := h.le
  have HM := Kp.mk hm
  have HL := Kp.mk h.len
  have HR := Kp.mk h
  have hb0 : ((m.toNat : Int) == 0) = false := by rw [Crc.zero_int]; simp [hm]
  clear h hm
  have hb1 : decide ((q : Int) < 0) = false := decide_eq_false (by omega)
  have hb2 : decide (8 * (n : Int) < q) = false := decide_eq_false (by omega)
  go_enter Tryd.func36, Tryd.ntmps36
  go_wp2_with (at_builtin; refine append_fresh rfl _ _ rfl rfl _ _ _ _ rfl HR.out ?_; intro g c' w1 HO HB hBg hgl hnc)
  go_loopw [9] (fun i wr => ∃ k : Nat, k ≤ 32 ∧ i = .int .i64 k ∧ Kp (wr.ownsRow w.heap.size 5 1 (.slice (some ⟨g, 0, none⟩) n c') n (bv (Crc.turnTo l q m k))) ∧ Kp (Below w.heap.size w wr) ∧ Kp (Crc.Fits n q m k)) (fun i _ => 32 - (intOf i).toNat)
  case atStart => exact ⟨0, by omega, rfl, HO, HB, ⟨fun i hi => by omega⟩⟩
  case round =>
    clear HO HB HR
    obtain ⟨k, hk, rfl, HO, HB, HT⟩ := hrel
    by_cases hlt : k < 32
    · have hb3 : decide ((k : Int) < 32) = true := decide_eq_true (by omega)
      by_cases hg : m.getLsbD k = true
      · have hbit : (bits BinOp.and .u32 ((m.toNat : Int) / 2 ^ k) 1 == 0) = false := by rw [Crc.bit_int m k hlt, hg]; rfl
        have HG := Kp.mk hg
        clear hg
        by_cases hin : 8 * n ≤ q + k
        · have hb4 : decide (8 * (n : Int) ≤ (q : Int) + k) = true := decide_eq_true (by omega)
          go_wp2
          go_ret2
          exact .inr ⟨fun ⟨k', e, _, _, hf⟩ => by have := hf k hlt HG.out; omega, rfl, HB.out⟩
        · have hb4 : decide (8 * (n : Int) ≤ (q : Int) + k) = false := decide_eq_false (by omega)
          have hj : (q + k) / 8 < n := by omega
          have hl : (Crc.turnTo l q m k).length = n := by rw [Crc.turnTo_length]; exact HL.out
          obtain ⟨c, hc⟩ : ∃ c, c = (Crc.turnTo l q m k).getD ((q + k) / 8) 0#8 := ⟨_, rfl⟩
          have hcell : wr.cell? ⟨g, (q + k) / 8, none⟩ = some (.int .u8 (c.toNat : Int)) := by
            rw [HO.out.cellAt _ (by omega), bv_get _ _ (by omega), hc]
          have hfz : wr.frozen? ⟨g, (q + k) / 8, none⟩ = false := HO.out.frozenAt _
          have HC := Kp.mk hc
          have HLL := Kp.mk hl
          clear hc hl
          go_wp2
          go_region
          go_wp2
          go_roundw
          case rel =>
            have hs := HO.out.stored ((q + k) / 8) (.int .u8 (bits .xor .u8 (c.toNat : Int) (2 ^ ((q + k) % 8) % 256)))
            have e : (bv (Crc.turnTo l q m k)).set ((q + k) / 8) (.int .u8 (bits .xor .u8 (c.toNat : Int) (2 ^ ((q + k) % 8) % 256))) = bv (Crc.turnTo l q m (k + 1)) := by
              rw [Crc.flip_int c _ (by omega), bv_set, HC.out]
              conv => rhs; unfold Crc.turnTo
              rw [if_pos HG.out]; rfl
            rw [e] at hs
            refine ⟨k + 1, by omega, by go_num, ⟨hs.1⟩, ⟨(HB.out.setCell hBg _).drew⟩, ⟨fun i hi hb => ?_⟩⟩
            by_cases hik : i = k
            · omega
            · exact HT.out i (by omega) hb
          case measure => simp [intOf]; omega
      · have hbit : (bits BinOp.and .u32 ((m.toNat : Int) / 2 ^ k) 1 == 0) = true := by rw [Crc.bit_int m k hlt]; simp only [Bool.not_eq_true] at hg; rw [hg]; rfl
        have HG := Kp.mk hg
        clear hg
        go_wp2
        go_roundw
        case rel =>
          have e : Crc.turnTo l q m (k + 1) = Crc.turnTo l q m k := by
            conv => lhs; unfold Crc.turnTo
            rw [if_neg HG.out]
          refine ⟨k + 1, by omega, by go_num, ⟨by rw [e]; exact HO.out⟩, HB, ⟨fun i hi hb => ?_⟩⟩
          by_cases hik : i = k
          · subst hik; exact absurd hb HG.out
          · exact HT.out i (by omega) hb
        case measure => simp [intOf]; omega
    · have : k = 32 := by omega
      subst this
      go_wp2
      go_ret2
      exact .inl ⟨q, g, c', rfl, HM.out, h1, HT.out, rfl, HO.out, HB.out⟩

theorem ref_turn (a : Option Addr) (n cap : Nat) (l : List (BitVec 8)) (q : Int) (m : BitVec 32) (w : World) (h : RdB w a n cap l) :
    Calls Tryd.prog 36 #[.slice a n cap, .int .i64 q, .int .u32 (m.toNat : Int)] w (TurnPost w n l q m) := by
  have hn := h.le
  by_cases hm : m = 0#32
  · have hb0 : ((m.toNat : Int) == 0) = true := by rw [Crc.zero_int]; simp [hm]
    go_enter Tryd.func36, Tryd.ntmps36
    go_wp2
    go_ret2
    exact .inr ⟨fun ⟨_, _, h, _⟩ => h hm, rfl, Below.refl _ _⟩
  · by_cases h0 : q < 0
    · have hb0 : ((m.toNat : Int) == 0) = false := by rw [Crc.zero_int]; simp [hm]
      have hb1 : decide (q < 0) = true := decide_eq_true h0
      have HM := Kp.mk hm
      clear hm
      go_enter Tryd.func36, Tryd.ntmps36
      go_wp2
      go_ret2
      exact .inr ⟨fun ⟨k, e, _⟩ => by omega, rfl, Below.refl _ _⟩
    · by_cases h1 : q ≤ 8 * n
      · obtain ⟨k, rfl⟩ := Int.eq_ofNat_of_zero_le (by omega : 0 ≤ q)
        exact ref_turn_yes a n cap l k m w h hm (by omega)
      · have hb0 : ((m.toNat : Int) == 0) = false := by rw [Crc.zero_int]; simp [hm]
        have hb1 : decide (q < 0) = false := decide_eq_false h0
        have hb2 : decide (8 * (n : Int) < q) = true := decide_eq_true (by omega)
        have HM := Kp.mk hm
        clear hm
        go_enter Tryd.func36, Tryd.ntmps36
        go_wp2
        go_ret2
        exact .inr ⟨fun ⟨k, e, _, h, _⟩ => by omega, rfl, Below.refl _ _⟩
end Go.Proofs.YtndninajnkejnaaDoor
