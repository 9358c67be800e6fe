
/- The document's Byte, At, word, Load, Fetch, walked. -/
import Derived.Test.YtadikbmbadldpaaGreatDoorPageInP
namespace Go.Proofs.YtadikbmbadldpaaGreatDoor
open Go Go.RowKit
set_option linter.unusedVariables false

theorem rb_div (x : Int) (k : Nat) (hk : k < 3) : rb (x / 2 ^ k) 0 = rb x k := by
  unfold rb BitVec.getLsbD
  rw [Nat.testBit_eq_decide_div_mod_eq, Nat.testBit_eq_decide_div_mod_eq, BitVec.toNat_ofInt, BitVec.toNat_ofInt]
  apply decide_eq_decide.2
  match k, hk with
  | 0, _ => simp
  | 1, _ => simp only [Nat.reducePow, Int.reducePow, Nat.pow_one]; omega
  | 2, _ => simp only [Nat.reducePow, Int.reducePow]; omega
theorem bit_at (x : Int) (k : Nat) (hk : k < 3) : (bits .and .i64 (x / 2 ^ k) 1 == 1) = rb x k := by
  have := bits_pow (x / 2 ^ k) 0 (by decide)
  rw [rb_div x k hk] at this
  rw [show (1 : Int) = 2 ^ 0 by decide, this]
  cases rb x k <;> rfl
set_option maxRecDepth 100000 in
set_option maxHeartbeats 4000000 in
theorem ref_right (x : Int) (k : Nat) (hk : k < 3) (w : World) :
    Calls Tryz.prog 84 #[.int .i64 x, .int .i64 (k : Int)] w fun e w' => e = .returned (.bool (rb x k)) ∧ w' = w := by
  have h := bit_at x k hk
  obtain ⟨t, ht⟩ : ∃ t, t = rb x k := ⟨_, rfl⟩
  rw [← ht] at h ⊢
  clear ht
  match k, hk with
  | 0, _ =>
    simp only [Int.reducePow, Int.ediv_one] at h
    go_enter Tryz.func84, Tryz.ntmps84
    go_wp2
    go_ret
    exact ⟨by first | rfl | rw [h], rfl⟩
  | 1, _ =>
    simp only [Int.reducePow] at h
    go_enter Tryz.func84, Tryz.ntmps84
    go_wp2
    go_ret
    exact ⟨by first | rfl | rw [h], rfl⟩
  | 2, _ =>
    simp only [Int.reducePow] at h
    go_enter Tryz.func84, Tryz.ntmps84
    go_wp2
    go_ret
    exact ⟨by first | rfl | rw [h], rfl⟩
set_option maxRecDepth 100000 in
set_option maxHeartbeats 4000000 in
theorem ref_byte (a : Option Addr) (n cap : Nat) (P : Nat → PageV) (w : World) (h : RdP w a n cap P) (at_ k : Nat) (hat : at_ < 9223372036854775808) (hk : k < 3) :
    Calls Tryz.prog 66 #[.slice a n cap, .int .i64 (at_ : Int), .int .i64 (k : Int)] w fun e w' => e = .returned (.int .i64 (faultP P n at_ k : Nat)) ∧ w' = w := by
  obtain ⟨q, hq⟩ : ∃ q, q = at_ / 64 := ⟨_, rfl⟩
  have H0 := Kp.mk h
  have hn := h.bound
  have hq1 : (at_ : Int) / 64 = (q : Int) := by omega
  have hq2 : q < 288230376151711744 := by omega
  clear h
  by_cases hin : n ≤ q
  · have hf : faultP P n at_ k = 3 := faultP_out (by rw [← hq]; exact hin)
    rw [hf]
    clear hf hq
    have hb : decide ((q : Int) ≥ (n : Int)) = true := decide_eq_true (by omega)
    go_enter Tryz.func66, Tryz.ntmps66
    go_wp2
    go_ret
    exact ⟨rfl, rfl⟩
  · have hlt : q < n := by omega
    obtain ⟨f, hf⟩ : ∃ f : Nat, f = faultP P n at_ k := ⟨_, rfl⟩
    have hf' := hf
    rw [faultP_in (by rw [← hq]; exact hlt), ← hq] at hf'
    obtain ⟨b, o, ha, _⟩ := H0.out.cells (by omega)
    have hc : w.cell? ⟨b, o + q * 66, none⟩ = some (.int .i64 (P q).rights) := H0.out.page ha q hlt 0 _ rfl
    subst ha
    rw [← hf]
    clear hf hq
    obtain ⟨x, hx⟩ : ∃ x, x = (P q).rights := ⟨_, rfl⟩
    rw [← hx] at hf' hc
    clear hx
    have hb : decide ((q : Int) ≥ (n : Int)) = false := decide_eq_false (by omega)
    obtain ⟨t, ht⟩ : ∃ t, t = rb x k := ⟨_, rfl⟩
    have K := Kp.mk (ref_right x k hk w)
    rw [← ht] at hf' K
    cases t
    · have HFB : Kp ((f : Int) = 4 + (k : Int)) := ⟨by rw [hf']; simp⟩
      clear hf' ht
      go_enter Tryz.func66, Tryz.ntmps66
      go_wp2_with (refine K.out.mono ?_; rintro e w' ⟨rfl, hw⟩; obtain rfl := hw.symm)
      go_ret
      exact ⟨by rw [HFB.out]; rfl, rfl⟩
    · have hfb : f = 0 := by rw [hf']; rfl
      clear hf' ht
      subst hfb
      go_enter Tryz.func66, Tryz.ntmps66
      go_wp2_with (refine K.out.mono ?_; rintro e w' ⟨rfl, hw⟩; obtain rfl := hw.symm)
      go_ret
      exact ⟨rfl, rfl⟩
set_option maxRecDepth 100000 in
set_option maxHeartbeats 4000000 in
theorem ref_at (a : Option Addr) (n cap : Nat) (P : Nat → PageV) (w : World) (h : RdP w a n cap P) (y : Nat) (hq : y / 64 < n) :
    Calls Tryz.prog 85 #[.slice a n cap, .int .i64 (y : Int)] w fun e w' => e = .returned (.int .u8 (Pg.byte P y : Nat)) ∧ w' = w := by
  obtain ⟨b, o, ha, _⟩ := h.cells (by omega)
  have HC := Kp.mk (h.page ha (y / 64) hq)
  subst ha
  have hn := h.bound
  clear h
  obtain ⟨c, hcc⟩ : ∃ c, c = Pg.byte P y := ⟨_, rfl⟩
  have hc : w.cell? ⟨b, o + y / 64 * 66 + 2 + y % 64, none⟩ = some (.int .u8 (c : Nat)) := by
    rw [hcc, data_in HC.out (y % 64) _ (dataL_get _ _ (by omega))]
    rfl
  rw [← hcc]
  clear hcc
  obtain ⟨q, hqq⟩ : ∃ q, q = y / 64 := ⟨_, rfl⟩
  obtain ⟨r, hrr⟩ : ∃ r, r = y % 64 := ⟨_, rfl⟩
  rw [← hqq, ← hrr] at hc
  rw [← hqq] at hq
  have hr : r < 64 := by omega
  have hq1 : (y : Int) / 64 = (q : Int) := by omega
  have hr1 : (y : Int) % 64 = (r : Int) := by omega
  clear hqq hrr HC
  go_enter Tryz.func85, Tryz.ntmps85
  go_wp2
  go_ret
  exact ⟨rfl, rfl⟩
set_option maxRecDepth 100000 in
set_option maxHeartbeats 4000000 in
theorem ref_word (a : Option Addr) (n cap : Nat) (P : Nat → PageV) (w : World) (h : RdP w a n cap P) (ad k : Nat) (had : ad < 4294967296) (hk : k ≤ 4) (hq : ad / 64 < n) (hr : ad % 64 + k ≤ 64) :
    Calls Tryz.prog 67 #[.slice a n cap, .int .i64 (ad : Int), .int .i64 (k : Int)] w fun e w' => e = .returned (.int .u32 (Pg.num P ad k : Nat)) ∧ w' = w := by
  have hn := h.bound
  have K := Kp.mk (fun j (hj : j < k) => ref_at a n cap P w h (ad + j) (by omega))
  have HN : Kp (∀ j, Pg.num P ad (j + 1) = Pg.num P ad j * 256 + Pg.byte P (ad + j)) := ⟨fun _ => rfl⟩
  have HL : Kp (∀ j, j < 4 → Pg.num P ad j * 256 + Pg.byte P (ad + j) < 4294967296) := ⟨fun j hj => Pg.num_lt4 P ad j hj⟩
  have HKL : Kp (Pg.num P ad k < 4294967296) := ⟨by
    have h1 := Pg.num_lt P ad k
    have h2 : 256 ^ k ≤ 256 ^ 4 := Nat.pow_le_pow_right (by decide) hk
    have h3 : (256 : Nat) ^ 4 = 4294967296 := by decide
    omega⟩
  have HBy : Kp (∀ j, Pg.byte P (ad + j) < 256) := ⟨fun j => Pg.byte_lt P _⟩
  obtain ⟨N, hN⟩ : ∃ N, N = Pg.num P ad := ⟨_, rfl⟩
  have hN0 : N 0 = 0 := by rw [hN]; rfl
  rw [← hN] at HN HL HKL ⊢
  clear hN h
  go_enter Tryz.func67, Tryz.ntmps67
  go_wp2
  go_loopw [7, 8] (fun v i wr => ∃ j : Nat, j ≤ k ∧ i = .int .i64 j ∧ v = .int .i64 (N j : Nat) ∧ wr = w) (fun _ i _ => k - (intOf i).toNat)
  case atStart => exact ⟨0, by omega, rfl, by rw [hN0]; rfl, rfl⟩
  case round =>
    obtain ⟨j, hj, rfl, rfl, rfl⟩ := hrel
    by_cases hlt : j < k
    · have hb : decide ((j : Int) < k) = true := decide_eq_true (by omega)
      have KJ := Kp.mk (K.out j hlt)
      have h1 := HL.out j (by omega)
      have h2 := HBy.out j
      have h3 := HN.out j
      obtain ⟨y, hy⟩ : ∃ y, y = ad + j := ⟨_, rfl⟩
      have hy1 : (ad : Int) + (j : Int) = (y : Int) := by omega
      rw [← hy] at KJ h1 h2 h3
      obtain ⟨c, hcc⟩ : ∃ c, c = Pg.byte P y := ⟨_, rfl⟩
      rw [← hcc] at KJ h1 h2 h3
      obtain ⟨x, hx⟩ : ∃ x, x = N j := ⟨_, rfl⟩
      rw [← hx] at h1 h3 ⊢
      have HXY : Kp (256 * (x : Int) + (c : Int) = (N (j + 1) : Nat)) := ⟨by rw [h3]; omega⟩
      clear hy hcc hx h3
      go_wp2_with (refine KJ.out.mono ?_; rintro e w' ⟨rfl, hw⟩; obtain rfl := hw.symm)
      go_roundw
      case rel => exact ⟨j + 1, by omega, by go_num, by rw [HXY.out], by first | rfl | trivial⟩
      case measure => simp [intOf]; omega
    · have : j = k := by omega
      subst this
      have hb : decide ((j : Int) < j) = false := by simp
      have hlt4 := HKL.out
      obtain ⟨x, hx⟩ : ∃ x, x = N j := ⟨_, rfl⟩
      have HX := Kp.mk hx
      rw [← hx] at hlt4 ⊢
      clear hx
      go_wp2
      go_ret
      exact ⟨by rw [← HX.out]; rfl, rfl⟩
set_option maxRecDepth 100000 in
set_option maxHeartbeats 4000000 in
theorem ref_load (a : Option Addr) (n cap : Nat) (P : Nat → PageV) (w : World) (h : RdP w a n cap P) (ad s : Nat) (had : ad < 4294967296) (hs : okSize s) :
    Calls Tryz.prog 39 #[.slice a n cap, .int .u32 (ad : Int), .int .i64 (s : Int)] w fun e w' => e = .returned (.tuple #[.int .u32 (loadV P n ad s 0 : Nat), .int .i64 (lookF P n ad s 0 : Nat), .int .i64 0]) ∧ w' = w := by
  have K := Kp.mk (ref_byte a n cap P w h ad 0 (by omega) (by decide))
  have hz := lookF_zero (P := P) (n := n) (ad := ad) (s := s) (k := 0)
  obtain ⟨m, hm⟩ : ∃ m, m = ad % s := ⟨_, rfl⟩
  have hm1 : (ad : Int) % (s : Int) = (m : Int) := by rw [hm]; omega
  by_cases h0 : lookF P n ad s 0 = 0
  · obtain ⟨z1, z2, z3⟩ := hz.1 h0
    have hf0 : faultP P n ad 0 = 0 := faultP_zero.2 ⟨z2, z3⟩
    have hv : loadV P n ad s 0 = Pg.num P ad s := by simp [loadV, h0]
    have K2 := Kp.mk (ref_word a n cap P w h ad s had hs.le.2 z2 (hs.room z1))
    rw [hv, h0]
    rw [hf0] at K
    have hm0 : m = 0 := by rw [hm]; exact z1
    obtain ⟨x, hx⟩ : ∃ x : Nat, x = Pg.num P ad s := ⟨_, rfl⟩
    rw [← hx] at K2 ⊢
    subst hm0
    clear hx hv hz z1 z2 z3 h0 h hf0 hm
    rcases hs with rfl | rfl | rfl <;>
    · go_enter Tryz.func39, Tryz.ntmps39
      go_wp2_with (first
        | (refine K.out.mono ?_; rintro e w' ⟨rfl, hw⟩; obtain rfl := hw.symm)
        | (refine K2.out.mono ?_; rintro e w' ⟨rfl, hw⟩; obtain rfl := hw.symm))
      go_ret3
      exact ⟨rfl, rfl⟩
  · have hv : loadV P n ad s 0 = 0 := by simp [loadV, h0]
    obtain ⟨f, hf⟩ : ∃ f : Nat, f = lookF P n ad s 0 := ⟨_, rfl⟩
    rw [hv, ← hf]
    rw [← hf] at h0
    unfold lookF at hf
    rw [← hm] at hf
    by_cases hm0 : m = 0
    · subst hm0
      have hff : f = faultP P n ad 0 := by rw [hf]; simp
      rw [← hff] at K
      have hne : ((f : Int) != 0) = true := by simp; omega
      clear hv hz hf hff h0 h hm
      rcases hs with rfl | rfl | rfl <;>
      · go_enter Tryz.func39, Tryz.ntmps39
        go_wp2_with (refine K.out.mono ?_; rintro e w' ⟨rfl, hw⟩; obtain rfl := hw.symm)
        go_ret3
        exact ⟨rfl, rfl⟩
    · have hff : f = 2 := by rw [hf]; simp [hm0]
      subst hff
      have hmz : ((m : Int) != 0) = true := by simp; omega
      clear hv hz hf h0 h hm K
      rcases hs with rfl | rfl | rfl <;>
      · go_enter Tryz.func39, Tryz.ntmps39
        go_wp2
        all_goals (go_ret3; exact ⟨rfl, rfl⟩)
set_option maxRecDepth 100000 in
set_option maxHeartbeats 4000000 in
theorem ref_load_bad (a : Option Addr) (n cap : Nat) (w : World) (ad : Nat) (s : Int) (h1 : s ≠ 1) (h2 : s ≠ 2) (h4 : s ≠ 4) :
    Calls Tryz.prog 39 #[.slice a n cap, .int .u32 (ad : Int), .int .i64 s] w fun e w' => e = .returned (.tuple #[.int .u32 0, .int .i64 0, .int .i64 12]) ∧ w' = w := by
  have n1 : (s != 1) = true := by simpa using h1
  have n2 : (s != 2) = true := by simpa using h2
  have n4 : (s != 4) = true := by simpa using h4
  clear h1 h2 h4
  go_enter Tryz.func39, Tryz.ntmps39
  go_wp2
  go_ret3
  exact ⟨rfl, rfl⟩
set_option maxRecDepth 100000 in
set_option maxHeartbeats 4000000 in
theorem ref_fetch (a : Option Addr) (n cap : Nat) (P : Nat → PageV) (w : World) (h : RdP w a n cap P) (ad : Nat) (had : ad < 4294967296) :
    Calls Tryz.prog 54 #[.slice a n cap, .int .u32 (ad : Int)] w fun e w' => e = .returned (.tuple #[.int .u32 (loadV P n ad 4 2 : Nat), .int .i64 (lookF P n ad 4 2 : Nat)]) ∧ w' = w := by
  have hs : okSize 4 := .inr (.inr rfl)
  have K := Kp.mk (ref_byte a n cap P w h ad 2 (by omega) (by decide))
  have hz := lookF_zero (P := P) (n := n) (ad := ad) (s := 4) (k := 2)
  obtain ⟨m, hm⟩ : ∃ m, m = ad % 4 := ⟨_, rfl⟩
  have hm1 : (ad : Int) % 4 = (m : Int) := by rw [hm]; omega
  by_cases h0 : lookF P n ad 4 2 = 0
  · obtain ⟨z1, z2, z3⟩ := hz.1 h0
    have hf0 : faultP P n ad 2 = 0 := faultP_zero.2 ⟨z2, z3⟩
    have hv : loadV P n ad 4 2 = Pg.num P ad 4 := by simp [loadV, h0]
    have K2 := Kp.mk (ref_word a n cap P w h ad 4 had hs.le.2 z2 (hs.room z1))
    rw [hv, h0]
    rw [hf0] at K
    have hm0 : m = 0 := by rw [hm]; exact z1
    obtain ⟨x, hx⟩ : ∃ x : Nat, x = Pg.num P ad 4 := ⟨_, rfl⟩
    rw [← hx] at K2 ⊢
    subst hm0
    clear hx hv hz z1 z2 z3 h0 h hf0 hm
    go_enter Tryz.func54, Tryz.ntmps54
    go_wp2_with (first
      | (refine K.out.mono ?_; rintro e w' ⟨rfl, hw⟩; obtain rfl := hw.symm)
      | (refine K2.out.mono ?_; rintro e w' ⟨rfl, hw⟩; obtain rfl := hw.symm))
    go_ret2
    exact ⟨rfl, rfl⟩
  · have hv : loadV P n ad 4 2 = 0 := by simp [loadV, h0]
    obtain ⟨f, hf⟩ : ∃ f : Nat, f = lookF P n ad 4 2 := ⟨_, rfl⟩
    rw [hv, ← hf]
    rw [← hf] at h0
    unfold lookF at hf
    rw [← hm] at hf
    by_cases hm0 : m = 0
    · subst hm0
      have hff : f = faultP P n ad 2 := by rw [hf]; simp
      rw [← hff] at K
      have hne : ((f : Int) != 0) = true := by simp; omega
      clear hv hz hf hff h0 h hm
      go_enter Tryz.func54, Tryz.ntmps54
      go_wp2_with (refine K.out.mono ?_; rintro e w' ⟨rfl, hw⟩; obtain rfl := hw.symm)
      go_ret2
      exact ⟨rfl, rfl⟩
    · have hff : f = 2 := by rw [hf]; simp [hm0]
      subst hff
      have hmz : ((m : Int) != 0) = true := by simp; omega
      clear hv hz hf h0 h hm K
      go_enter Tryz.func54, Tryz.ntmps54
      go_wp2
      go_ret2
      exact ⟨rfl, rfl⟩
end Go.Proofs.YtadikbmbadldpaaGreatDoor
