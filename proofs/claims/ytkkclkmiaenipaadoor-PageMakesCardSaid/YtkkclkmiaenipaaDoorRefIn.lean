/- The document's In, walked. -/
import Derived.Test.YtkkclkmiaenipaaDoorRefPut
namespace Go.Proofs.YtkkclkmiaenipaaDoor
open Go Go.RowKit
set_option linter.unusedVariables false

theorem spanF_here {P : Nat → PageV} {n ad rt k j : Nat} (hj : j < k) : spanF P n (ad + j) rt (k - j) = bif decide (faultP P n (ad + j) rt = 0) then spanF P n (ad + (j + 1)) rt (k - (j + 1)) else faultP P n (ad + j) rt := by
  rw [show k - j = (k - (j + 1)) + 1 by omega, spanF]
  rfl
set_option maxRecDepth 100000 in
set_option maxHeartbeats 4000000 in
theorem ref_in_no (a : Option Addr) (n cap : Nat) (P : Nat → PageV) (w : World) (h : RdP w a n cap P) (ad : Nat) (s : ByteArray) (had : ad < 4294967296) (hk : s.size < 9223372036854775808) (h0 : spanF P n ad 1 s.size ≠ 0) :
    Calls Tryd.prog 35 #[.slice a n cap, .int .u32 (ad : Int), .string s] w fun e w' => e = .returned (.tuple #[.slice none 0 0, .int .i64 (spanF P n ad 1 s.size : Nat)]) ∧ w' = w := by
  have K := Kp.mk (fun y (hy : y < 9223372036854775808) => ref_byte a n cap P w h y 1 hy (by decide))
  have hn := h.bound
  obtain ⟨S, hS⟩ : ∃ S, S = spanF P n ad 1 s.size := ⟨_, rfl⟩
  rw [← hS] at h0 ⊢
  obtain ⟨k, hkk⟩ : ∃ k, k = s.size := ⟨_, rfl⟩
  have hk2 : s.size = k := hkk.symm
  rw [← hkk] at hS hk
  have HS : Kp (S = spanF P n (ad + 0) 1 (k - 0)) := ⟨hS⟩
  have HN := Kp.mk h0
  clear h h0 hS hkk
  go_enter Tryd.func35, Tryd.ntmps35
  go_wp2
  go_loopw [8] (fun v wr => ∃ j : Nat, j ≤ k ∧ v = .int .i64 (j : Int) ∧ j ≤ 112589990684224 ∧ Kp (S = spanF P n (ad + j) 1 (k - j)) ∧ wr = w) (fun v _ => k - (intOf v).toNat)
  case atStart => exact ⟨0, by omega, rfl, by omega, HS, rfl⟩
  case round =>
    obtain ⟨j, hj, rfl, hjb, HS, rfl⟩ := hrel
    have hlt : j < k := by
      rcases Nat.lt_or_ge j k with h | h
      · exact h
      · have : k - j = 0 := by omega
        have h2 := HS.out
        rw [this] at h2
        exact absurd h2 HN.out
    have hb : decide ((j : Int) < k) = true := decide_eq_true (by omega)
    have K1 := K.out (ad + j) (by omega)
    obtain ⟨f, hf⟩ : ∃ f, f = faultP P n (ad + j) 1 := ⟨_, rfl⟩
    have hs1 := HS.out
    rw [spanF_here hlt, ← hf] at hs1
    rw [← hf] at K1
    obtain ⟨y, hy⟩ : ∃ y, y = ad + j := ⟨_, rfl⟩
    have hy1 : (ad : Int) + (j : Int) = (y : Int) := by omega
    rw [← hy] at K1
    have K2 := Kp.mk K1
    by_cases hz : f = 0
    · have HS2 : Kp (S = spanF P n (ad + (j + 1)) 1 (k - (j + 1))) := ⟨by rw [hs1, hz]; simp⟩
      have hjb2 : j + 1 ≤ 112589990684224 := by
        have := (faultP_zero.1 (hf.symm.trans hz)).1
        omega
      subst hz
      clear hf hs1 K1 hy
      go_wp2_with (refine K2.out.mono ?_; rintro e w' ⟨rfl, hw⟩; obtain rfl := hw.symm)
      go_roundw
      case rel => exact ⟨j + 1, by omega, by go_num, hjb2, HS2, by first | rfl | trivial⟩
      case measure => simp [intOf]; omega
    · have hne : ((f : Int) != 0) = true := by simp; omega
      have hSf : S = f := by rw [hs1]; simp [hz]
      subst hSf
      clear hf hs1 K1 hy
      go_wp2_with (refine K2.out.mono ?_; rintro e w' ⟨rfl, hw⟩; obtain rfl := hw.symm)
      go_ret2
      exact ⟨rfl, rfl⟩
theorem strF_at (s : ByteArray) (j : Nat) (h : j < s.size) : ((s[j]'h).toNat : Int) = ((strF s j).toNat : Int) := by
  unfold strF
  have h' : j < s.data.toList.length := h
  rw [List.getD_eq_getElem?_getD, List.getElem?_eq_getElem h', Option.getD_some]
  rfl
set_option maxRecDepth 100000 in
set_option maxHeartbeats 4000000 in
theorem ref_in_yes (a : Option Addr) (n cap : Nat) (P : Nat → PageV) (w : World) (h : RdP w a n cap P) (ad : Nat) (s : ByteArray) (had : ad < 4294967296) (hk : s.size < 9223372036854775808) (h0 : spanF P n ad 1 s.size = 0) :
    Calls Tryd.prog 35 #[.slice a n cap, .int .u32 (ad : Int), .string s] w fun e w' => ∃ v, e = .returned (.tuple #[v, .int .i64 0]) ∧ OwnP w' w.heap.size v n (inP P ad (strF s) s.size) ∧ Below w.heap.size w w' := by
  have hz := (spanF_zero s.size ad).1 h0
  have K := Kp.mk (fun j (hj : j < s.size) => ref_byte a n cap P w h (ad + j) 1 (by have := (faultP_zero.1 (hz j hj)).1; have := h.bound; omega) (by decide))
  have HZ := Kp.mk hz
  have KC := Kp.mk (ref_copy a n cap P w h)
  have HF : Kp (∀ i, i < s.size → (ad + i) / 64 < n) := ⟨fun i hi => (faultP_zero.1 (hz i hi)).1⟩
  have HA := Kp.mk (strF_at s)
  have hn := h.bound
  have hkn : s.size ≤ 112589990684224 := by
    rcases Nat.eq_zero_or_pos s.size with e | e
    · omega
    · have := HF.out (s.size - 1) (by omega); omega
  obtain ⟨F, hF⟩ : ∃ F, F = strF s := ⟨_, rfl⟩
  rw [← hF] at HA ⊢
  obtain ⟨k, hkk⟩ : ∃ k, k = s.size := ⟨_, rfl⟩
  have hk2 : s.size = k := hkk.symm
  have HK2 := Kp.mk hk2
  rw [← hkk] at HF hkn HZ ⊢
  clear h h0 hF hkk hz
  go_enter Tryd.func35, Tryd.ntmps35
  go_wp2
  go_loopw [8] (fun v wr => ∃ j : Nat, j ≤ k ∧ v = .int .i64 (j : Int) ∧ wr = w) (fun v _ => k - (intOf v).toNat)
  case atStart => exact ⟨0, by omega, rfl, rfl⟩
  case round =>
    obtain ⟨j, hj, rfl, hwr⟩ := hrel
    obtain rfl := hwr.symm
    by_cases hlt : j < k
    · have hb : decide ((j : Int) < k) = true := decide_eq_true (by omega)
      have K1 := K.out j (by rw [hk2]; exact hlt)
      rw [HZ.out j hlt] at K1
      obtain ⟨y, hy⟩ : ∃ y, y = ad + j := ⟨_, rfl⟩
      have hy1 : (ad : Int) + (j : Int) = (y : Int) := by omega
      rw [← hy] at K1
      have K2 := Kp.mk K1
      clear K1 hy
      go_wp2_with (refine K2.out.mono ?_; rintro e w' ⟨rfl, hw⟩; obtain rfl := hw.symm)
      go_roundw
      case rel => exact ⟨j + 1, by omega, by go_num, by first | rfl | trivial⟩
      case measure => simp [intOf]; omega
    · have hb : decide ((j : Int) < k) = false := decide_eq_false (by omega)
      go_wp2_with fail
      refine KC.out.mono ?_
      rintro e w1 ⟨v, rfl, ho, hb⟩
      have HO := Kp.mk ho
      have HB := Kp.mk hb
      clear ho hb
      go_wp2
      go_loopw [11] (fun iv wr => ∃ t : Nat, t ≤ k ∧ iv = .int .i64 (t : Int) ∧ Kp (OwnP wr w.heap.size v n (inP P ad F t)) ∧ Kp (Below w.heap.size w wr)) (fun iv _ => k - (intOf iv).toNat)
      case atStart => exact ⟨0, by omega, rfl, HO, HB⟩
      case round =>
        obtain ⟨t, ht, rfl, HO, HB⟩ := hrel
        by_cases hlt : t < k
        · have hb : decide ((t : Int) < k) = true := decide_eq_true (by omega)
          obtain ⟨g, cap2, rfl, hg, _⟩ := HO.out.shape (by have := HF.out t hlt; omega)
          have hch := fun h => HA.out t h
          obtain ⟨c, hc⟩ : ∃ c, c = F t := ⟨_, rfl⟩
          rw [← hc] at hch
          obtain ⟨y, hy⟩ : ∃ y, y = ad + t := ⟨_, rfl⟩
          have hy1 : (ad : Int) + (t : Int) = (y : Int) := by omega
          have KP := Kp.mk (ref_put _ _ g n cap2 (inP P ad F t) HO.out hn y c (by rw [hy]; exact HF.out t hlt))
          have HP : Kp (putB (inP P ad F t) y c = inP P ad F (t + 1)) := ⟨by rw [hy, hc]; rfl⟩
          have HG := Kp.mk hg
          clear hc hy hg
          go_wp2_with fail
          refine KP.out.mono ?_
          rintro e w2 ⟨rfl, ho, htt⟩
          rw [HP.out] at ho
          have HO2 := Kp.mk ho
          have HB2 := Kp.mk (HB.out.trans (htt.below _ HG.out HB.out.size))
          clear ho htt
          go_wp2_with fail
          go_roundw
          case rel => exact ⟨t + 1, by omega, by go_num, HO2, HB2⟩
          case measure => simp [intOf]; omega
        · have : t = k := by omega
          subst this
          have hb : decide ((t : Int) < t) = false := by simp
          go_wp2
          go_ret2
          exact ⟨_, rfl, HO.out, HB.out⟩
end Go.Proofs.YtkkclkmiaenipaaDoor
