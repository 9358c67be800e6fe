/- PageSums, walked. -/
import Derived.Test.YtkkclkmiaenipaaDoorPageRead
namespace Go.Proofs.YtkkclkmiaenipaaDoor
open Go Go.RowKit
set_option linter.unusedVariables false

theorem loadV_in {P : Nat → PageV} {n ad s : Nat} (hm : ad % s = 0) (hq : ad / 64 < n) (hr : rb (P (ad / 64)).rights 0 = true) : loadV P n ad s 0 = Pg.num P ad s ∧ lookF P n ad s 0 = 0 := by
  have h : lookF P n ad s 0 = 0 := lookF_zero.2 ⟨hm, hq, hr⟩
  exact ⟨by simp [loadV, h], h⟩
theorem str_four (P : Nat → PageV) (ad : Nat) : (mkS (outL P ad 4)).size = 4 := by simp [mkS, ByteArray.size, outL]
set_option maxRecDepth 100000 in
set_option maxHeartbeats 4000000 in
theorem law_PageSums (a : Option Addr) (n cap : Nat) (P : Nat → PageV) (ad0 : BitVec 32) (w : World) (h : RdP w a n cap P) :
    Calls Tryd.prog 3 #[.slice a n cap, .int .u32 (ad0.toNat : Int)] w fun e w' => e = .returned (.bool true) ∧ Below w.heap.size w w' := by
  have H0 := Kp.mk h
  have hn := h.bound
  have hlt := ad0.isLt
  have hand := andNot3 ad0.toNat hlt
  obtain ⟨ad, had⟩ : ∃ ad, ad = ad0.toNat / 4 * 4 := ⟨_, rfl⟩
  have h4 : ad % 4 = 0 := by omega
  have hl : ad < 4294967296 := by omega
  have hl4 : ad + 4 ≤ 4294967296 := by omega
  rw [← had] at hand
  obtain ⟨z0, hz0⟩ : ∃ z0, z0 = ad0.toNat := ⟨_, rfl⟩
  rw [← hz0] at hand ⊢
  clear had hz0 hlt h
  go_enter Tryd.func3, Tryd.ntmps3
  go_wp2_with fail
  refine (law_known _).mono ?_
  rintro e w1 ⟨rfl, hb⟩
  have B1 := Kp.mk hb
  clear hb
  go_wp2_with fail
  refine (law_readable _ _ _ _ w1 (H0.out.later B1.out)).mono ?_
  rintro e w2 ⟨v, rfl, ho, hb⟩
  have B2 := Kp.mk (B1.out.trans (hb.mono B1.out.size))
  obtain ⟨a2, cap2, rfl, hrd⟩ := ho.rd hn
  have HRB : Kp (∀ i, i < n → rb (readP P n i).rights 0 = true) := ⟨fun i hi => readP_rb hi⟩
  obtain ⟨R, hR⟩ : ∃ R, R = readP P n := ⟨_, rfl⟩
  rw [← hR] at HRB hrd
  have HR := Kp.mk hrd
  clear hR hrd ho hb
  have K1 := Kp.mk (page_load a2 n cap2 R w2 HR.out ad 4 hl (.inr (.inr rfl)))
  have K2 := Kp.mk (page_fetch a2 n cap2 R w2 HR.out ad hl)
  by_cases hq : ad / 64 < n
  · have hin : ∀ i, i < 4 → (ad + i) / 64 = ad / 64 := fun i hi => by omega
    obtain ⟨e1, e2⟩ := loadV_in (P := R) (s := 4) h4 hq (HRB.out _ hq)
    rw [e1, e2] at K1
    have hsp : spanF R n ad 0 4 = 0 := (spanF_zero 4 ad).2 (fun i hi => faultP_zero.2 ⟨by rw [hin i hi]; exact hq, by rw [hin i hi]; exact HRB.out _ hq⟩)
    have K3 := Kp.mk (page_out_yes a2 n cap2 R w2 HR.out ad 4 hl (by decide) hsp)
    have KL : Kp (∀ w', Below w2.heap.size w2 w' → ∀ i, i < 4 → Calls Tryd.prog 12 #[.slice a2 n cap2, .int .u32 ((ad + i : Nat) : Int), .int .i64 ((1 : Nat) : Int)] w' fun e w'' => e = .returned (.tuple #[.int .u32 (Pg.byte R (ad + i) : Nat), .int .i64 0, .nilIface]) ∧ w'' = w') := ⟨fun w' hw' i hi => by
      have e := loadV_in (P := R) (n := n) (ad := ad + i) (s := 1) (Nat.mod_one _) (by rw [hin i hi]; exact hq) (by rw [hin i hi]; exact HRB.out _ hq)
      have := page_load a2 n cap2 R w' (HR.out.later hw') (ad + i) 1 (by omega) (.inl rfl)
      rw [e.1, e.2, Pg.num_one] at this
      exact this⟩
    have KH : Kp (∀ w', Below w2.heap.size w2 w' → Calls Tryd.prog 12 #[.slice a2 n cap2, .int .u32 (ad : Int), .int .i64 2] w' fun e w'' => e = .returned (.tuple #[.int .u32 (Pg.num R ad 2 : Nat), .int .i64 0, .nilIface]) ∧ w'' = w') := ⟨fun w' hw' => by
      have e := loadV_in (P := R) (n := n) (ad := ad) (s := 2) (by omega) hq (HRB.out _ hq)
      have := page_load a2 n cap2 R w' (HR.out.later hw') ad 2 hl (.inr (.inl rfl))
      rw [e.1, e.2] at this
      exact this⟩
    have KO : Kp (∀ w', Below w2.heap.size w2 w' → Calls Tryd.prog 12 #[.slice a2 n cap2, .int .u32 ((ad : Int) + 2), .int .i64 2] w' fun e w'' => e = .returned (.tuple #[.int .u32 (Pg.num R (ad + 2) 2 : Nat), .int .i64 0, .nilIface]) ∧ w'' = w') := ⟨fun w' hw' => by
      have e := loadV_in (P := R) (n := n) (ad := ad + 2) (s := 2) (by omega) (by rw [hin 2 (by omega)]; exact hq) (by rw [hin 2 (by omega)]; exact HRB.out _ hq)
      have := page_load a2 n cap2 R w' (HR.out.later hw') (ad + 2) 2 (by omega) (.inr (.inl rfl))
      rw [e.1, e.2] at this
      exact this⟩
    have HN2 := Kp.mk (Pg.num_two R ad)
    have h2a := Pg.num_lt R ad 2
    have h2b := Pg.num_lt R (ad + 2) 2
    have hst : ∀ i, i < 4 → (mkS (outL R ad 4)).data.toList[i]? = some (UInt8.ofBitVec ((R ((ad + i) / 64)).data ((ad + i) % 64))) := fun i hi => by simp [mkS, outL, hi]
    have hs4 := str_four R ad
    obtain ⟨s, hs⟩ : ∃ s, s = mkS (outL R ad 4) := ⟨_, rfl⟩
    rw [← hs] at K3 hst hs4
    have HST := Kp.mk hst
    clear hs hst hin e1 e2 hsp
    obtain ⟨b, o, ha, hcell⟩ := HR.out.cells (by omega)
    have k2 : w2.cell? ⟨b, o + ad / 64 * 66, none⟩ = some (.int .i64 (R (ad / 64)).rights) := hcell (ad / 64) hq 0 _ rfl
    subst ha
    obtain ⟨q, hqq⟩ : ∃ q, q = ad / 64 := ⟨_, rfl⟩
    have hbp := bits_pow (R (ad / 64)).rights 2 (by decide)
    rw [show (2 : Int) ^ 2 = 4 by decide] at hbp
    have hlk : lookF R n ad 4 2 = bif rb (R (ad / 64)).rights 2 then 0 else 6 := by
      unfold lookF
      rw [faultP_in hq]
      simp [h4]
    have hlv : loadV R n ad 4 2 = bif rb (R (ad / 64)).rights 2 then Pg.num R ad 4 else 0 := by
      unfold loadV
      rw [hlk]
      cases rb (R (ad / 64)).rights 2 <;> simp
    rw [hlk, hlv] at K2
    rw [← hqq] at k2 hbp hq K2
    obtain ⟨x, hx⟩ : ∃ x, x = (R q).rights := ⟨_, rfl⟩
    rw [← hx] at k2 hbp K2
    obtain ⟨t, ht⟩ : ∃ t, t = rb x 2 := ⟨_, rfl⟩
    rw [← ht] at hbp K2
    clear hlk hlv hx ht hcell
    have N0 : Pg.num R ad 0 = 0 := rfl
    have HNN : Kp (∀ j, Pg.num R ad (j + 1) = Pg.num R ad j * 256 + Pg.byte R (ad + j)) := ⟨fun _ => rfl⟩
    have HNL : Kp (∀ j, j < 4 → Pg.num R ad j * 256 + Pg.byte R (ad + j) < 4294967296) := ⟨fun j hj => Pg.num_lt4 R ad j hj⟩
    obtain ⟨N, hN⟩ : ∃ N, N = Pg.num R ad := ⟨_, rfl⟩
    rw [← hN] at N0 HNN HNL HN2 h2a KH K1 K2
    obtain ⟨V, hV⟩ : ∃ V, V = N 4 := ⟨_, rfl⟩
    have HV := Kp.mk hV
    rw [← hV] at K1 K2
    clear hN hV
    go_wp2_with fail
    refine K1.out.mono ?_
    rintro e w' ⟨rfl, hw⟩
    obtain rfl := hw.symm
    go_wp2_with fail
    refine K2.out.mono ?_
    rintro e w' ⟨rfl, hw⟩
    obtain rfl := hw.symm
    go_wp2_with fail
    refine K3.out.mono ?_
    rintro e w3 ⟨rfl, hb⟩
    have B3 := Kp.mk hb
    clear hb
    have hz1 : (ad : Int) / 64 = (q : Int) := by rw [hqq]; omega
    have k3 : w3.cell? ⟨b, o + q * 66, none⟩ = some (.int .i64 x) := (B3.out.cell (p := ⟨b, o + q * 66, none⟩) (World.block_lt_of_cell? _ ⟨b, o + q * 66, none⟩ k2)).trans k2
    clear K1 K2 K3 hqq k2
    cases t
    all_goals (
      go_wp2_with fail
      go_loopw [13, 14] (fun nv iv wr => ∃ j : Nat, j ≤ 4 ∧ iv = .int .i64 j ∧ nv = .int .u32 (N j : Nat) ∧ wr = w3) (fun _ iv _ => 4 - (intOf iv).toNat)
      case atStart => exact ⟨0, by omega, rfl, by rw [N0]; rfl, rfl⟩
      case round =>
        obtain ⟨j, hj, rfl, rfl, rfl⟩ := hrel
        by_cases hlt : j < 4
        · have hb : decide ((j : Int) < 4) = true := decide_eq_true (by omega)
          have KJ := KL.out _ B3.out j hlt
          have hs := HST.out j hlt
          have h1 := HNL.out j hlt
          have h3 := HNN.out j
          have h2 := Pg.byte_lt R (ad + j)
          obtain ⟨y, hy⟩ : ∃ y, y = ad + j := ⟨_, rfl⟩
          have hy1 : (ad : Int) + (j : Int) = (y : Int) := by omega
          have hy2 : y < 4294967296 := by omega
          have hcu : (UInt8.ofBitVec ((R ((ad + j) / 64)).data ((ad + j) % 64))).toNat = Pg.byte R (ad + j) := rfl
          obtain ⟨u, hu⟩ : ∃ u, u = UInt8.ofBitVec ((R ((ad + j) / 64)).data ((ad + j) % 64)) := ⟨_, rfl⟩
          rw [← hu] at hs hcu
          rw [← hy] at KJ h1 h2 h3 hcu
          obtain ⟨c, hc⟩ : ∃ c, c = Pg.byte R y := ⟨_, rfl⟩
          rw [← hc] at KJ h1 h2 h3 hcu
          have KJ := Kp.mk KJ
          have HXY : Kp ((N j : Int) * 256 + (c : Int) = (N (j + 1) : Nat)) := ⟨by rw [h3]; omega⟩
          obtain ⟨X, hX⟩ : ∃ X, X = N j := ⟨_, rfl⟩
          rw [← hX] at h1 HXY ⊢
          have hsj : ∀ h : j < s.size, ((s[j]'h).toNat : Int) % 4294967296 = (c : Int) := fun h => by
            have e1 : s[j]'h = u := by
              have h' : j < s.data.toList.length := h
              rw [List.getElem?_eq_getElem h'] at hs
              exact Option.some.inj hs
            rw [e1, hcu]
            omega
          have hcc : ((c : Int) != (c : Int)) = false := by simp
          clear hy hu hc h3 hX hcu hs
          go_wp2_with fail
          refine KJ.out.mono ?_
          rintro e w' ⟨rfl, hw⟩
          obtain rfl := hw.symm
          go_wp2_with fail
          go_roundw
          case rel => exact ⟨j + 1, by omega, by go_num, by rw [HXY.out], by first | rfl | trivial⟩
          case measure => simp [intOf]; omega
        · have : j = 4 := by omega
          subst this
          rw [← HV.out]
          have KH1 := KH.out _ B3.out
          have KO1 := KO.out _ B3.out
          have hsum := HN2.out
          rw [← HV.out] at hsum
          rw [show (256 : Nat) ^ 2 = 65536 by decide] at h2a h2b
          obtain ⟨H, hH⟩ : ∃ H, H = N 2 := ⟨_, rfl⟩
          obtain ⟨L, hL⟩ : ∃ L, L = Pg.num R (ad + 2) 2 := ⟨_, rfl⟩
          rw [← hH] at KH1 hsum h2a
          rw [← hL] at KO1 hsum h2b
          have hs1 : (H : Int) * 65536 + (L : Int) = (V : Int) := by omega
          have hvv : ((V : Int) == (V : Int)) = true := by simp
          have KH2 := Kp.mk KH1
          have KO2 := Kp.mk KO1
          have Bw := Kp.mk (B2.out.trans (B3.out.mono B2.out.size))
          clear hH hL KH1 KO1 hsum
          go_wp2_with fail
          refine KH2.out.mono ?_
          rintro e w' ⟨rfl, hw⟩
          obtain rfl := hw.symm
          go_wp2_with fail
          refine KO2.out.mono ?_
          rintro e w' ⟨rfl, hw⟩
          obtain rfl := hw.symm
          go_wp2
          go_ret
          exact ⟨rfl, Bw.out⟩)
  · have hout : ∀ rt, faultP R n ad rt = 3 := fun rt => faultP_out (by omega)
    have hlk : ∀ rt, lookF R n ad 4 rt = 3 := fun rt => by unfold lookF; rw [hout rt]; simp [h4]
    have hlv : ∀ rt, loadV R n ad 4 rt = 0 := fun rt => by unfold loadV; rw [hlk rt]; simp
    have hsp : spanF R n ad 0 4 = 3 := by rw [spanF_fault (by omega) (by rw [hout]; decide), hout]
    have K3 := Kp.mk (page_out_no a2 n cap2 R w2 HR.out ad 4 hl (by decide) (by rw [hsp]; decide))
    rw [hlk, hlv] at K1 K2
    rw [hsp] at K3
    clear hlk hlv hsp hout
    go_wp2_with fail
    refine K1.out.mono ?_
    rintro e w' ⟨rfl, hw⟩
    obtain rfl := hw.symm
    go_wp2_with fail
    refine K2.out.mono ?_
    rintro e w' ⟨rfl, hw⟩
    obtain rfl := hw.symm
    go_wp2_with fail
    refine K3.out.mono ?_
    rintro e w' ⟨rfl, hw⟩
    obtain rfl := hw.symm
    go_wp2
    go_ret
    exact ⟨rfl, B2.out⟩
end Go.Proofs.YtkkclkmiaenipaaDoor
