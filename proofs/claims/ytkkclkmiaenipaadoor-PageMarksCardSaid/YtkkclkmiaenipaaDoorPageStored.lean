/- PageStored, walked. -/
import Derived.Test.YtkkclkmiaenipaaDoorPagePlay
import Derived.Test.YtkkclkmiaenipaaDoorPageKept
import Derived.Test.YtkkclkmiaenipaaDoorPageSums
namespace Go.Proofs.YtkkclkmiaenipaaDoor
open Go Go.RowKit
set_option linter.unusedVariables false

theorem mkS_strF (D : ByteArray) : mkS ((List.range D.size).map (strF D)) = D := by
  have hl : D.data.toList.length = D.size := rfl
  have h : ((List.range D.size).map (strF D)).map UInt8.ofBitVec = D.data.toList := by
    apply List.ext_getElem
    · simp
    · intro i h1 h2
      simp only [List.getElem_map, List.getElem_range, strF, List.getD_eq_getElem?_getD, List.getElem?_eq_getElem h2, Option.getD_some]
  unfold mkS
  rw [h]
theorem out_of_in {R : Nat → PageV} {n ad : Nat} {D : ByteArray} (hR : ∀ i, i < n → rb (R i).rights 0 = true) (h : inF R n ad D = 0) :
    outS (inQ R ad D) n ad D.size = D ∧ spanF (inQ R ad D) n ad 0 D.size = 0 ∧ Others R (inQ R ad D) n ad D.size ∧ (0 < D.size → (ad + (D.size - 1)) / 64 < n) := by
  have hz := (spanF_zero D.size ad).1 h
  have hin : ∀ i, i < D.size → (ad + i) / 64 < n := fun i hi => (faultP_zero.1 (hz i hi)).1
  have h0 : spanF (inQ R ad D) n ad 0 D.size = 0 := (spanF_zero D.size ad).2 fun i hi => faultP_zero.2 ⟨hin i hi, by
    rw [show (inQ R ad D ((ad + i) / 64)).rights = (R ((ad + i) / 64)).rights from inP_rights R ad _ _ _]
    exact hR _ (hin i hi)⟩
  refine ⟨?_, h0, others_inP R n ad D.size (strF D), fun hp => hin _ (by omega)⟩
  rw [outS_yes h0]
  have : outL (inQ R ad D) ad D.size = (List.range D.size).map (strF D) := by
    unfold outL
    apply List.map_congr_left
    intro i hi
    exact (inP_in R ad (strF D) D.size i (List.mem_range.1 hi)).1
  rw [this]
  exact mkS_strF D
theorem and_mask (x : Nat) (hx : x < 4294967296) : bits .and .u32 (x : Int) 255 = ((x % 256 : Nat) : Int) ∧ bits .and .u32 (x : Int) 65535 = ((x % 65536 : Nat) : Int) ∧ bits .and .u32 (x : Int) 4294967295 = ((x : Nat) : Int) := by
  refine ⟨?_, ?_, ?_⟩
  · have := u32_and_nat x 255 hx (by decide)
    rw [show (255 : Nat) = 2 ^ 8 - 1 by decide, Nat.and_two_pow_sub_one_eq_mod] at this
    exact this
  · have := u32_and_nat x 65535 hx (by decide)
    rw [show (65535 : Nat) = 2 ^ 16 - 1 by decide, Nat.and_two_pow_sub_one_eq_mod] at this
    exact this
  · have := u32_and_nat x 4294967295 hx (by decide)
    rw [show (4294967295 : Nat) = 2 ^ 32 - 1 by decide, Nat.and_two_pow_sub_one_eq_mod, Nat.mod_eq_of_lt (by simpa using hx)] at this
    exact this
/-- What is stored is loaded. -/
theorem load_of_store {R : Nat → PageV} {n ad k x : Nat} (hR : ∀ i, i < n → rb (R i).rights 0 = true) (hk : okSize k) (h0 : lookF R n ad k 1 = 0) :
    loadV (Pg.store R ad k x) n ad k 0 = x % 256 ^ k ∧ lookF (Pg.store R ad k x) n ad k 0 = 0 ∧ Others R (Pg.store R ad k x) n ad k := by
  obtain ⟨z1, z2, _⟩ := lookF_zero.1 h0
  have hr := hk.room z1
  have hs := store_inP R ad k x (by have := hk.le; omega) hr
  have hl : lookF (Pg.store R ad k x) n ad k 0 = 0 := lookF_zero.2 ⟨z1, z2, by rw [hs, inP_rights]; exact hR _ z2⟩
  refine ⟨?_, hl, by rw [hs]; exact others_inP R n ad k _⟩
  have : loadV (Pg.store R ad k x) n ad k 0 = Pg.num (Pg.store R ad k x) ad k := by simp [loadV, hl]
  rw [this, hs, num_stored R ad k x k (Nat.le_refl _), Nat.sub_self, Nat.pow_zero, Nat.div_one]
set_option maxRecDepth 100000 in
set_option maxHeartbeats 16000000 in
theorem law_PageStored (A : Nat → Addr) (a : Option Addr) (n cap : Nat) (P : Nat → PageV) (o : PopV) (w : World) (h : RdP w a n cap P) (ho : o.fits) (hE : Errs w allCodes A) (hT : TypeVar w) :
    Calls Tryd.prog 7 #[.slice a n cap, .agg o.row.toArray] w fun e w' => e = .returned (.bool true) ∧ Below w.heap.size w w' := by
  have H0 := Kp.mk h
  have HE := Kp.mk hE
  have HT := Kp.mk hT
  have hn := h.bound
  obtain ⟨kind, s, ad, x, D, hr, had, hx, hs, hD, hkk⟩ := o.num ho
  rw [hr]
  clear h hE hT hr ho hkk
  obtain ⟨R, hRR⟩ : ∃ R, R = readP P n := ⟨_, rfl⟩
  have hRB : ∀ i, i < n → rb (R i).rights 0 = true := fun i hi => by rw [hRR]; exact readP_rb hi
  have HRR := Kp.mk hRR
  clear hRR
  have HI0 := Kp.mk (fun (hz : inF R n ad D = 0) => out_of_in hRB hz)
  have KI := Kp.mk (fun (w' : World) a' cap' (hv : RdP w' a' n cap' R) => uni_in a' n cap' R w' hv ad had D hD)
  obtain ⟨F2, hF2⟩ : ∃ F2, F2 = inF R n ad D := ⟨_, rfl⟩
  obtain ⟨L2, hL2⟩ : ∃ L2, L2 = inL R n ad D := ⟨_, rfl⟩
  have hL2' : L2 = bif decide (F2 = 0) then n else 0 := by rw [hL2, hF2]; rfl
  rw [← hF2, ← hL2] at KI
  rw [← hF2] at HI0
  have HIn : Kp (F2 = 0 → outS (inQ R ad D) n ad D.size = D ∧ spanF (inQ R ad D) n ad 0 D.size = 0 ∧ Others R (inQ R ad D) n ad D.size ∧ D.size ≤ 112589990684224 ∧ True ∧ L2 = n) := ⟨fun hz => by
    obtain ⟨q1, q2, q3, q4⟩ := HI0.out hz
    refine ⟨q1, q2, q3, ?_, trivial, by rw [hL2', hz]; rfl⟩
    rcases Nat.eq_zero_or_pos D.size with e | e
    · omega
    · have := q4 e; omega⟩
  have HIno : Kp (F2 ≠ 0 → L2 = 0 ∧ D.toList.isEmpty = false) := ⟨fun hz => by
    refine ⟨by rw [hL2']; simp [hz], ?_⟩
    rw [str_empty]
    apply decide_eq_false
    intro e
    apply hz
    rw [hF2]
    unfold inF
    rw [e]
    rfl⟩
  have HL2n : Kp (L2 ≤ 1759218604441) := ⟨by rw [hL2']; cases decide (F2 = 0) <;> simp <;> omega⟩
  clear HI0 hF2 hL2 hL2'
  cases hsz : szOk s with
  | false =>
    obtain ⟨s1, s2, s4⟩ := szOk_no hsz
    have e1 : stF R n ad s 1 = 0 := by simp [stF, hsz]
    have e2 : stC s = 12 := by simp [stC, hsz]
    have e3 : stL R n ad s = 0 := by simp [stL, stOk, hsz]
    have e4 : pkP R n ad s x = R := by simp [pkP, stOk, hsz]
    have KS := Kp.mk (fun (w' : World) a' cap' (hv : RdP w' a' n cap' R) (he : Errs w' [12] A) => uni_store A a' n cap' R w' hv ad had s x hx he)
    have KP := Kp.mk (fun (w' : World) B v (hv : OwnP w' B v n R) (he : Errs w' [12] A) => uni_poke A n R w' B v hv hn ad had s x hx he)
    rw [e1, e2, e3] at KS
    rw [e1, e2, e4] at KP
    have n1 : (s == 1) = false := by simpa using s1
    have n2 : (s == 2) = false := by simpa using s2
    have n4 : (s == 4) = false := by simpa using s4
    have HLE : Kp ((12 : Nat) ≤ 20) := ⟨by decide⟩
    have HLn : Kp ((0 : Nat) ≤ 1759218604441) := ⟨by decide⟩
    clear hsz s1 s2 s4 e1 e2 e3 e4 hRB
    obtain ⟨w1, hw1⟩ : ∃ w1, w1 = w.alloc (.cells (PopN.row ⟨kind, s, ad, x, D⟩).toArray 41) := ⟨_, rfl⟩
    have B1 : Kp (Below w.heap.size w w1) := ⟨by rw [hw1]; exact (Below.refl _ _).alloc (Nat.le_refl _) _⟩
    have O1 : Kp (OpAt w1 w.heap.size ⟨kind, s, ad, x, D⟩) := ⟨by rw [hw1]; exact OpAt.made w _⟩
    have W1 := Kp.mk hw1
    obtain ⟨g0, hg0⟩ : ∃ g0, g0 = w.heap.size := ⟨_, rfl⟩
    have G0 := Kp.mk hg0
    rw [← hg0] at O1
    clear hw1 hg0
    go_enter Tryd.func7, Tryd.ntmps7
    go_wp2_with (refine Great.wpList_boxTo rfl 41 (.tmp 1) rfl _ rfl g0 G0.out.symm (PopN.row ⟨kind, s, ad, x, D⟩).toArray rfl ?_; rw [← W1.out])
    refine (law_known _).mono ?_
    rintro e w2 ⟨rfl, hb⟩
    have B2 := Kp.mk (B1.out.trans (hb.mono B1.out.size))
    have O2 := Kp.mk (O1.out.later hb)
    clear hb
    go_wp2_with fail
    refine (law_readable _ _ _ _ w2 (H0.out.later B2.out)).mono ?_
    rintro e w3 ⟨v3, rfl, o3, hb⟩
    rw [← HRR.out] at o3
    obtain ⟨a3, cap3, rfl, hr3⟩ := o3.rd hn
    have R3 := Kp.mk hr3
    have B3 := Kp.mk (B2.out.trans (hb.mono B2.out.size))
    have O3 := Kp.mk (O2.out.later hb)
    clear hb hr3 o3
    go_wp2_with fail
    go_region_held3 (fun v => v.cell? ⟨g0, 1, none⟩ = some (.int .i64 s) ∧ v.cell? ⟨g0, 2, none⟩ = some (.int .u32 (ad : Int)) ∧ v.cell? ⟨g0, 3, none⟩ = some (.int .u32 (x : Int)) ∧ v.cell? ⟨g0, 4, none⟩ = some (.string D)) (first | exact (O3.out.later (Drew.once _).below).s4 | exact ((O3.out.later (Drew.once _).below).later hbx).s4 | exact (((O3.out.later (Drew.once _).below).later hbx).later hby).s4) (first | (go_at_call 16; refine (ref_copy _ _ _ _ _ (R3.out.later (Drew.once _).below)).mono ?_; rintro e wx ⟨vx, rfl, ox, hbx⟩; obtain ⟨ax, capx, rfl, hrx⟩ := ox.rd hn) | (go_at_call 17; refine (KS.out _ _ _ hrx ((HE.out.later ((B3.out.trans ((Drew.once _).below.mono B3.out.size)).trans (hbx.mono (Nat.le_trans B3.out.size (Drew.once _).below.size)))).sub (by decide))).mono ?_; rintro e w5 ⟨v5, rfl, o5, hby⟩))
    have hb35 := (Drew.once w3).below.trans ((hbx.mono (Drew.once w3).below.size).trans (hby.mono (Nat.le_trans (Drew.once w3).below.size hbx.size)))
    have B5 := Kp.mk (B3.out.trans (hb35.mono B3.out.size))
    have R5 := Kp.mk (R3.out.later hb35)
    have O5 := Kp.mk (O3.out.later hb35)
    obtain ⟨a5, cap5, rfl, hr5⟩ := o5.rd HLn.out
    have N5 := Kp.mk hr5
    clear hb35 hbx hby ox o5 hrx hr5
    go_wp2_with fail
    refine (ref_copy _ _ _ _ w5 R5.out).mono ?_
    rintro e w6 ⟨v6, rfl, o6, hb⟩
    have M6 := Kp.mk o6
    have B6 := Kp.mk (B5.out.trans (hb.mono B5.out.size))
    have R6 := Kp.mk (R5.out.later hb)
    have O6 := Kp.mk (O5.out.later hb)
    have N6 := Kp.mk (N5.out.later hb)
    have S6 := Kp.mk hb.size
    have T6 := Kp.mk hb
    clear hb o6
    have c1 := O6.out.c1
    have c2 := O6.out.c2
    have c3 := O6.out.c3
    go_wp2_with fail
    refine (KP.out w6 w5.heap.size v6 M6.out ((HE.out.later B6.out).sub (by decide))).mono ?_
    rintro e w7 ⟨rfl, o7, hbb, _⟩
    have hb := hbb w5.heap.size (Nat.le_refl _) S6.out
    have h57 := T6.out.trans hb
    have B7 := Kp.mk (B5.out.trans (h57.mono B5.out.size))
    have R7 := Kp.mk (R5.out.later h57)
    have O7 := Kp.mk (O5.out.later h57)
    have N7 := Kp.mk (N5.out.later h57)
    obtain ⟨a7, cap7, rfl, hr7⟩ := o7.rd hn
    have M7 := Kp.mk hr7
    clear hb hbb h57 o7 hr7 c1 c2 c3
    go_wp2_with fail
    refine (law_code A _ w7 HLE.out (HE.out.later B7.out) (HT.out.later B7.out)).mono ?_
    rintro e w8 ⟨rfl, hb⟩
    have B8 := Kp.mk (B7.out.trans (hb.mono B7.out.size))
    have R8 := Kp.mk (R7.out.later hb)
    have O8 := Kp.mk (O7.out.later hb)
    have N8 := Kp.mk (N7.out.later hb)
    have M8 := Kp.mk (M7.out.later hb)
    clear hb
    go_wp2_with fail
    refine (law_code A _ w8 HLE.out (HE.out.later B8.out) (HT.out.later B8.out)).mono ?_
    rintro e w9 ⟨rfl, hb⟩
    have B9 := Kp.mk (B8.out.trans (hb.mono B8.out.size))
    have R9 := Kp.mk (R8.out.later hb)
    have O9 := Kp.mk (O8.out.later hb)
    have N9 := Kp.mk (N8.out.later hb)
    have M9 := Kp.mk (M8.out.later hb)
    clear hb
    simp only [errOf]
    go_wp2_with fail
    refine (ref_same _ _ n _ _ _ _ w9 M9.out R9.out (fun i hi => rfl)).mono ?_
    rintro e wT ⟨rfl, hd⟩
    have BT := Kp.mk (B9.out.trans (hd.below.mono B9.out.size))
    have RT := Kp.mk (R9.out.later hd.below)
    have OT := Kp.mk (O9.out.later hd.below)
    clear hd
    have c1 := OT.out.c1
    have c4 := OT.out.c4
    go_wp2_with fail
    go_region_held3 (fun v => v.cell? ⟨g0, 1, none⟩ = some (.int .i64 s) ∧ v.cell? ⟨g0, 2, none⟩ = some (.int .u32 (ad : Int)) ∧ v.cell? ⟨g0, 3, none⟩ = some (.int .u32 (x : Int)) ∧ v.cell? ⟨g0, 4, none⟩ = some (.string D)) (first | exact (OT.out.later (Drew.once _).below).s4 | exact ((OT.out.later (Drew.once _).below).later hbx).s4 | exact (((OT.out.later (Drew.once _).below).later hbx).later hby).s4) (first | (go_at_call 16; refine (ref_copy _ _ _ _ _ (RT.out.later (Drew.once _).below)).mono ?_; rintro e wx ⟨vx, rfl, ox, hbx⟩; obtain ⟨ax, capx, rfl, hrx⟩ := ox.rd hn) | (go_at_call 18; refine (KI.out _ _ _ hrx).mono ?_; rintro e wI ⟨vI, rfl, oI, hby⟩))
    have hbTI := (Drew.once wT).below.trans ((hbx.mono (Drew.once wT).below.size).trans (hby.mono (Nat.le_trans (Drew.once wT).below.size hbx.size)))
    have BI := Kp.mk (BT.out.trans (hbTI.mono BT.out.size))
    have RI := Kp.mk (RT.out.later hbTI)
    have OI := Kp.mk (OT.out.later hbTI)
    obtain ⟨aI, capI, rfl, hrI⟩ := oI.rd HL2n.out
    have NI := Kp.mk hrI
    clear hbTI hbx hby ox oI hrx hrI
    have c2 := OI.out.c2
    have c4 := OI.out.c4
    by_cases hz2 : F2 = 0
    · obtain ⟨hp1, hp2, hp3, hp4, hp5, hp6⟩ := HIn.out hz2
      subst hz2
      have hp7 := hp6.symm
      clear hp6
      subst hp7
      have KO := Kp.mk (page_out aI n capI (inQ R ad D) wI NI.out ad D.size had (by omega))
      rw [hp1, hp2] at KO
      have HOt := Kp.mk hp3
      clear hp1 hp2 hp3
      go_wp2_with fail
      refine KO.out.mono ?_
      rintro e wJ ⟨rfl, hb⟩
      have BJ := Kp.mk (BI.out.trans (hb.mono BI.out.size))
      have RJ := Kp.mk (RI.out.later hb)
      have OJ := Kp.mk (OI.out.later hb)
      have NJ := Kp.mk (NI.out.later hb)
      clear hb c2 c4
      have c2 := OJ.out.c2
      have c4 := OJ.out.c4
      go_wp2_with fail
      refine (law_others _ _ n _ _ _ _ wJ RJ.out NJ.out ad D.size had (by omega) HOt.out).mono ?_
      rintro e wK ⟨rfl, hd⟩
      have BK := Kp.mk (BJ.out.trans (hd.below.mono BJ.out.size))
      clear hd
      go_wp2
      go_ret
      exact ⟨rfl, BK.out⟩
    · obtain ⟨rfl, hemp⟩ := HIno.out hz2
      have hne2 := intNe hz2
      go_wp2
      go_ret
      exact ⟨rfl, BI.out⟩
  | true =>
    obtain ⟨k, rfl, hk, hkn⟩ := szOk_yes hsz
    have hC : stC (k : Int) = 0 := by simp [stC, hsz]
    by_cases h0 : lookF R n ad k 1 = 0
    · obtain ⟨q1, q2, q3⟩ := load_of_store (x := x) hRB hk h0
      have e1 : stF R n ad (k : Int) 1 = 0 := by simp [stF, hsz, h0]
      have eo : stOk R n ad (k : Int) = true := by simp [stOk, hsz, h0]
      have e3 : stL R n ad (k : Int) = n := by simp [stL, eo]
      have e5 : stP R ad (k : Int) x = Pg.store R ad k x := by simp [stP]
      have e4 : pkP R n ad (k : Int) x = Pg.store R ad k x := by simp [pkP, eo, e5]
      have KS := Kp.mk (fun (w' : World) a' cap' (hv : RdP w' a' n cap' R) (he : Errs w' [12] A) => uni_store A a' n cap' R w' hv ad had (k : Int) x hx he)
      have KP := Kp.mk (fun (w' : World) B v (hv : OwnP w' B v n R) (he : Errs w' [12] A) => uni_poke A n R w' B v hv hn ad had (k : Int) x hx he)
      rw [e1, hC, e3, e5] at KS
      rw [e1, hC, e4] at KP
      have HLE : Kp ((0 : Nat) ≤ 20) := ⟨by decide⟩
      have HLn : Kp (n ≤ 1759218604441) := ⟨hn⟩
      obtain ⟨U, hU⟩ : ∃ U, U = Pg.store R ad k x := ⟨_, rfl⟩
      rw [← hU] at KS KP q1 q2 q3
      have HOt := Kp.mk q3
      have KL := Kp.mk (fun (w' : World) a' cap' (hv : RdP w' a' n cap' U) => page_load a' n cap' U w' hv ad k had hk)
      rw [q1, q2] at KL
      obtain ⟨hm1, hm2, hm4⟩ := and_mask x hx
      have hVr : x % 256 ^ k < 4294967296 := Nat.lt_of_le_of_lt (Nat.mod_le _ _) hx
      obtain ⟨V, hV⟩ : ∃ V, V = x % 256 ^ k := ⟨_, rfl⟩
      rw [← hV] at KL hVr
      have hVV : ((V : Int) != (V : Int)) = false := by simp
      have hmask : (k = 1 ∧ bits .and .u32 (x : Int) 255 = (V : Int)) ∨ (k = 2 ∧ bits .and .u32 (x : Int) 65535 = (V : Int)) ∨ (k = 4 ∧ bits .and .u32 (x : Int) 4294967295 = (V : Int)) := by
        rcases hk with rfl | rfl | rfl
        · exact .inl ⟨rfl, by rw [hm1, hV]⟩
        · exact .inr (.inl ⟨rfl, by rw [hm2, hV]⟩)
        · exact .inr (.inr ⟨rfl, by rw [hm4, hV, Nat.mod_eq_of_lt hx]⟩)
      clear hsz hC h0 hkn e1 eo e3 e4 e5 hU hV hm1 hm2 hm4 q1 q2 q3 hRB hk
      rcases hmask with ⟨rfl, hmm⟩ | ⟨rfl, hmm⟩ | ⟨rfl, hmm⟩
      · obtain ⟨w1, hw1⟩ : ∃ w1, w1 = w.alloc (.cells (PopN.row ⟨kind, 1, ad, x, D⟩).toArray 41) := ⟨_, rfl⟩
        have B1 : Kp (Below w.heap.size w w1) := ⟨by rw [hw1]; exact (Below.refl _ _).alloc (Nat.le_refl _) _⟩
        have O1 : Kp (OpAt w1 w.heap.size ⟨kind, 1, ad, x, D⟩) := ⟨by rw [hw1]; exact OpAt.made w _⟩
        have W1 := Kp.mk hw1
        obtain ⟨g0, hg0⟩ : ∃ g0, g0 = w.heap.size := ⟨_, rfl⟩
        have G0 := Kp.mk hg0
        rw [← hg0] at O1
        clear hw1 hg0
        go_enter Tryd.func7, Tryd.ntmps7
        go_wp2_with (refine Great.wpList_boxTo rfl 41 (.tmp 1) rfl _ rfl g0 G0.out.symm (PopN.row ⟨kind, 1, ad, x, D⟩).toArray rfl ?_; rw [← W1.out])
        refine (law_known _).mono ?_
        rintro e w2 ⟨rfl, hb⟩
        have B2 := Kp.mk (B1.out.trans (hb.mono B1.out.size))
        have O2 := Kp.mk (O1.out.later hb)
        clear hb
        go_wp2_with fail
        refine (law_readable _ _ _ _ w2 (H0.out.later B2.out)).mono ?_
        rintro e w3 ⟨v3, rfl, o3, hb⟩
        rw [← HRR.out] at o3
        obtain ⟨a3, cap3, rfl, hr3⟩ := o3.rd hn
        have R3 := Kp.mk hr3
        have B3 := Kp.mk (B2.out.trans (hb.mono B2.out.size))
        have O3 := Kp.mk (O2.out.later hb)
        clear hb hr3 o3
        go_wp2_with fail
        go_region_held3 (fun v => v.cell? ⟨g0, 1, none⟩ = some (.int .i64 1) ∧ v.cell? ⟨g0, 2, none⟩ = some (.int .u32 (ad : Int)) ∧ v.cell? ⟨g0, 3, none⟩ = some (.int .u32 (x : Int)) ∧ v.cell? ⟨g0, 4, none⟩ = some (.string D)) (first | exact (O3.out.later (Drew.once _).below).s4 | exact ((O3.out.later (Drew.once _).below).later hbx).s4 | exact (((O3.out.later (Drew.once _).below).later hbx).later hby).s4) (first | (go_at_call 16; refine (ref_copy _ _ _ _ _ (R3.out.later (Drew.once _).below)).mono ?_; rintro e wx ⟨vx, rfl, ox, hbx⟩; obtain ⟨ax, capx, rfl, hrx⟩ := ox.rd hn) | (go_at_call 17; refine (KS.out _ _ _ hrx ((HE.out.later ((B3.out.trans ((Drew.once _).below.mono B3.out.size)).trans (hbx.mono (Nat.le_trans B3.out.size (Drew.once _).below.size)))).sub (by decide))).mono ?_; rintro e w5 ⟨v5, rfl, o5, hby⟩))
        have hb35 := (Drew.once w3).below.trans ((hbx.mono (Drew.once w3).below.size).trans (hby.mono (Nat.le_trans (Drew.once w3).below.size hbx.size)))
        have B5 := Kp.mk (B3.out.trans (hb35.mono B3.out.size))
        have R5 := Kp.mk (R3.out.later hb35)
        have O5 := Kp.mk (O3.out.later hb35)
        obtain ⟨a5, cap5, rfl, hr5⟩ := o5.rd HLn.out
        have N5 := Kp.mk hr5
        clear hb35 hbx hby ox o5 hrx hr5
        go_wp2_with fail
        refine (ref_copy _ _ _ _ w5 R5.out).mono ?_
        rintro e w6 ⟨v6, rfl, o6, hb⟩
        have M6 := Kp.mk o6
        have B6 := Kp.mk (B5.out.trans (hb.mono B5.out.size))
        have R6 := Kp.mk (R5.out.later hb)
        have O6 := Kp.mk (O5.out.later hb)
        have N6 := Kp.mk (N5.out.later hb)
        have S6 := Kp.mk hb.size
        have T6 := Kp.mk hb
        clear hb o6
        have c1 := O6.out.c1
        have c2 := O6.out.c2
        have c3 := O6.out.c3
        go_wp2_with fail
        refine (KP.out w6 w5.heap.size v6 M6.out ((HE.out.later B6.out).sub (by decide))).mono ?_
        rintro e w7 ⟨rfl, o7, hbb, _⟩
        have hb := hbb w5.heap.size (Nat.le_refl _) S6.out
        have h57 := T6.out.trans hb
        have B7 := Kp.mk (B5.out.trans (h57.mono B5.out.size))
        have R7 := Kp.mk (R5.out.later h57)
        have O7 := Kp.mk (O5.out.later h57)
        have N7 := Kp.mk (N5.out.later h57)
        obtain ⟨a7, cap7, rfl, hr7⟩ := o7.rd hn
        have M7 := Kp.mk hr7
        clear hb hbb h57 o7 hr7 c1 c2 c3
        go_wp2_with fail
        refine (law_code A _ w7 HLE.out (HE.out.later B7.out) (HT.out.later B7.out)).mono ?_
        rintro e w8 ⟨rfl, hb⟩
        have B8 := Kp.mk (B7.out.trans (hb.mono B7.out.size))
        have R8 := Kp.mk (R7.out.later hb)
        have O8 := Kp.mk (O7.out.later hb)
        have N8 := Kp.mk (N7.out.later hb)
        have M8 := Kp.mk (M7.out.later hb)
        clear hb
        go_wp2_with fail
        refine (law_code A _ w8 HLE.out (HE.out.later B8.out) (HT.out.later B8.out)).mono ?_
        rintro e w9 ⟨rfl, hb⟩
        have B9 := Kp.mk (B8.out.trans (hb.mono B8.out.size))
        have R9 := Kp.mk (R8.out.later hb)
        have O9 := Kp.mk (O8.out.later hb)
        have N9 := Kp.mk (N8.out.later hb)
        have M9 := Kp.mk (M8.out.later hb)
        clear hb
        simp only [errOf]
        go_wp2_with fail
        refine (ref_same _ _ n _ _ _ _ w9 N9.out M9.out (fun i hi => rfl)).mono ?_
        rintro e wA ⟨rfl, hd⟩
        have BA := Kp.mk (B9.out.trans (hd.below.mono B9.out.size))
        have RA := Kp.mk (R9.out.later hd.below)
        have OA := Kp.mk (O9.out.later hd.below)
        have NA := Kp.mk (N9.out.later hd.below)
        clear hd
        have c1 := OA.out.c1
        have c2 := OA.out.c2
        go_wp2_with fail
        refine (law_others _ _ n _ _ _ _ wA RA.out NA.out ad 1 had (by omega) HOt.out).mono ?_
        rintro e wT ⟨rfl, hd⟩
        have BT := Kp.mk (BA.out.trans (hd.below.mono BA.out.size))
        have RT := Kp.mk (RA.out.later hd.below)
        have OT := Kp.mk (OA.out.later hd.below)
        have NT := Kp.mk (NA.out.later hd.below)
        clear hd c1 c2
        have c1 := OT.out.c1
        have c2 := OT.out.c2
        have c3 := OT.out.c3
        go_wp2_with fail
        refine (KL.out wT _ _ NT.out).mono ?_
        rintro e wL ⟨rfl, hw⟩
        obtain rfl := hw.symm
        go_wp2_with fail
        go_region_held3 (fun v => v.cell? ⟨g0, 1, none⟩ = some (.int .i64 1) ∧ v.cell? ⟨g0, 2, none⟩ = some (.int .u32 (ad : Int)) ∧ v.cell? ⟨g0, 3, none⟩ = some (.int .u32 (x : Int)) ∧ v.cell? ⟨g0, 4, none⟩ = some (.string D)) (first | exact (OT.out.later (Drew.once _).below).s4 | exact ((OT.out.later (Drew.once _).below).later hbx).s4 | exact (((OT.out.later (Drew.once _).below).later hbx).later hby).s4) (first | (go_at_call 16; refine (ref_copy _ _ _ _ _ (RT.out.later (Drew.once _).below)).mono ?_; rintro e wx ⟨vx, rfl, ox, hbx⟩; obtain ⟨ax, capx, rfl, hrx⟩ := ox.rd hn) | (go_at_call 18; refine (KI.out _ _ _ hrx).mono ?_; rintro e wI ⟨vI, rfl, oI, hby⟩))
        have hbTI := (Drew.once wT).below.trans ((hbx.mono (Drew.once wT).below.size).trans (hby.mono (Nat.le_trans (Drew.once wT).below.size hbx.size)))
        have BI := Kp.mk (BT.out.trans (hbTI.mono BT.out.size))
        have RI := Kp.mk (RT.out.later hbTI)
        have OI := Kp.mk (OT.out.later hbTI)
        obtain ⟨aI, capI, rfl, hrI⟩ := oI.rd HL2n.out
        have NI := Kp.mk hrI
        clear hbTI hbx hby ox oI hrx hrI
        have c2 := OI.out.c2
        have c4 := OI.out.c4
        by_cases hz2 : F2 = 0
        · obtain ⟨hp1, hp2, hp3, hp4, hp5, hp6⟩ := HIn.out hz2
          subst hz2
          have hp7 := hp6.symm
          clear hp6
          subst hp7
          have KO := Kp.mk (page_out aI n capI (inQ R ad D) wI NI.out ad D.size had (by omega))
          rw [hp1, hp2] at KO
          have HOt := Kp.mk hp3
          clear hp1 hp2 hp3
          go_wp2_with fail
          refine KO.out.mono ?_
          rintro e wJ ⟨rfl, hb⟩
          have BJ := Kp.mk (BI.out.trans (hb.mono BI.out.size))
          have RJ := Kp.mk (RI.out.later hb)
          have OJ := Kp.mk (OI.out.later hb)
          have NJ := Kp.mk (NI.out.later hb)
          clear hb c2 c4
          have c2 := OJ.out.c2
          have c4 := OJ.out.c4
          go_wp2_with fail
          refine (law_others _ _ n _ _ _ _ wJ RJ.out NJ.out ad D.size had (by omega) HOt.out).mono ?_
          rintro e wK ⟨rfl, hd⟩
          have BK := Kp.mk (BJ.out.trans (hd.below.mono BJ.out.size))
          clear hd
          go_wp2
          go_ret
          exact ⟨rfl, BK.out⟩
        · obtain ⟨rfl, hemp⟩ := HIno.out hz2
          have hne2 := intNe hz2
          go_wp2
          go_ret
          exact ⟨rfl, BI.out⟩
      · obtain ⟨w1, hw1⟩ : ∃ w1, w1 = w.alloc (.cells (PopN.row ⟨kind, 2, ad, x, D⟩).toArray 41) := ⟨_, rfl⟩
        have B1 : Kp (Below w.heap.size w w1) := ⟨by rw [hw1]; exact (Below.refl _ _).alloc (Nat.le_refl _) _⟩
        have O1 : Kp (OpAt w1 w.heap.size ⟨kind, 2, ad, x, D⟩) := ⟨by rw [hw1]; exact OpAt.made w _⟩
        have W1 := Kp.mk hw1
        obtain ⟨g0, hg0⟩ : ∃ g0, g0 = w.heap.size := ⟨_, rfl⟩
        have G0 := Kp.mk hg0
        rw [← hg0] at O1
        clear hw1 hg0
        go_enter Tryd.func7, Tryd.ntmps7
        go_wp2_with (refine Great.wpList_boxTo rfl 41 (.tmp 1) rfl _ rfl g0 G0.out.symm (PopN.row ⟨kind, 2, ad, x, D⟩).toArray rfl ?_; rw [← W1.out])
        refine (law_known _).mono ?_
        rintro e w2 ⟨rfl, hb⟩
        have B2 := Kp.mk (B1.out.trans (hb.mono B1.out.size))
        have O2 := Kp.mk (O1.out.later hb)
        clear hb
        go_wp2_with fail
        refine (law_readable _ _ _ _ w2 (H0.out.later B2.out)).mono ?_
        rintro e w3 ⟨v3, rfl, o3, hb⟩
        rw [← HRR.out] at o3
        obtain ⟨a3, cap3, rfl, hr3⟩ := o3.rd hn
        have R3 := Kp.mk hr3
        have B3 := Kp.mk (B2.out.trans (hb.mono B2.out.size))
        have O3 := Kp.mk (O2.out.later hb)
        clear hb hr3 o3
        go_wp2_with fail
        go_region_held3 (fun v => v.cell? ⟨g0, 1, none⟩ = some (.int .i64 2) ∧ v.cell? ⟨g0, 2, none⟩ = some (.int .u32 (ad : Int)) ∧ v.cell? ⟨g0, 3, none⟩ = some (.int .u32 (x : Int)) ∧ v.cell? ⟨g0, 4, none⟩ = some (.string D)) (first | exact (O3.out.later (Drew.once _).below).s4 | exact ((O3.out.later (Drew.once _).below).later hbx).s4 | exact (((O3.out.later (Drew.once _).below).later hbx).later hby).s4) (first | (go_at_call 16; refine (ref_copy _ _ _ _ _ (R3.out.later (Drew.once _).below)).mono ?_; rintro e wx ⟨vx, rfl, ox, hbx⟩; obtain ⟨ax, capx, rfl, hrx⟩ := ox.rd hn) | (go_at_call 17; refine (KS.out _ _ _ hrx ((HE.out.later ((B3.out.trans ((Drew.once _).below.mono B3.out.size)).trans (hbx.mono (Nat.le_trans B3.out.size (Drew.once _).below.size)))).sub (by decide))).mono ?_; rintro e w5 ⟨v5, rfl, o5, hby⟩))
        have hb35 := (Drew.once w3).below.trans ((hbx.mono (Drew.once w3).below.size).trans (hby.mono (Nat.le_trans (Drew.once w3).below.size hbx.size)))
        have B5 := Kp.mk (B3.out.trans (hb35.mono B3.out.size))
        have R5 := Kp.mk (R3.out.later hb35)
        have O5 := Kp.mk (O3.out.later hb35)
        obtain ⟨a5, cap5, rfl, hr5⟩ := o5.rd HLn.out
        have N5 := Kp.mk hr5
        clear hb35 hbx hby ox o5 hrx hr5
        go_wp2_with fail
        refine (ref_copy _ _ _ _ w5 R5.out).mono ?_
        rintro e w6 ⟨v6, rfl, o6, hb⟩
        have M6 := Kp.mk o6
        have B6 := Kp.mk (B5.out.trans (hb.mono B5.out.size))
        have R6 := Kp.mk (R5.out.later hb)
        have O6 := Kp.mk (O5.out.later hb)
        have N6 := Kp.mk (N5.out.later hb)
        have S6 := Kp.mk hb.size
        have T6 := Kp.mk hb
        clear hb o6
        have c1 := O6.out.c1
        have c2 := O6.out.c2
        have c3 := O6.out.c3
        go_wp2_with fail
        refine (KP.out w6 w5.heap.size v6 M6.out ((HE.out.later B6.out).sub (by decide))).mono ?_
        rintro e w7 ⟨rfl, o7, hbb, _⟩
        have hb := hbb w5.heap.size (Nat.le_refl _) S6.out
        have h57 := T6.out.trans hb
        have B7 := Kp.mk (B5.out.trans (h57.mono B5.out.size))
        have R7 := Kp.mk (R5.out.later h57)
        have O7 := Kp.mk (O5.out.later h57)
        have N7 := Kp.mk (N5.out.later h57)
        obtain ⟨a7, cap7, rfl, hr7⟩ := o7.rd hn
        have M7 := Kp.mk hr7
        clear hb hbb h57 o7 hr7 c1 c2 c3
        go_wp2_with fail
        refine (law_code A _ w7 HLE.out (HE.out.later B7.out) (HT.out.later B7.out)).mono ?_
        rintro e w8 ⟨rfl, hb⟩
        have B8 := Kp.mk (B7.out.trans (hb.mono B7.out.size))
        have R8 := Kp.mk (R7.out.later hb)
        have O8 := Kp.mk (O7.out.later hb)
        have N8 := Kp.mk (N7.out.later hb)
        have M8 := Kp.mk (M7.out.later hb)
        clear hb
        go_wp2_with fail
        refine (law_code A _ w8 HLE.out (HE.out.later B8.out) (HT.out.later B8.out)).mono ?_
        rintro e w9 ⟨rfl, hb⟩
        have B9 := Kp.mk (B8.out.trans (hb.mono B8.out.size))
        have R9 := Kp.mk (R8.out.later hb)
        have O9 := Kp.mk (O8.out.later hb)
        have N9 := Kp.mk (N8.out.later hb)
        have M9 := Kp.mk (M8.out.later hb)
        clear hb
        simp only [errOf]
        go_wp2_with fail
        refine (ref_same _ _ n _ _ _ _ w9 N9.out M9.out (fun i hi => rfl)).mono ?_
        rintro e wA ⟨rfl, hd⟩
        have BA := Kp.mk (B9.out.trans (hd.below.mono B9.out.size))
        have RA := Kp.mk (R9.out.later hd.below)
        have OA := Kp.mk (O9.out.later hd.below)
        have NA := Kp.mk (N9.out.later hd.below)
        clear hd
        have c1 := OA.out.c1
        have c2 := OA.out.c2
        go_wp2_with fail
        refine (law_others _ _ n _ _ _ _ wA RA.out NA.out ad 2 had (by omega) HOt.out).mono ?_
        rintro e wT ⟨rfl, hd⟩
        have BT := Kp.mk (BA.out.trans (hd.below.mono BA.out.size))
        have RT := Kp.mk (RA.out.later hd.below)
        have OT := Kp.mk (OA.out.later hd.below)
        have NT := Kp.mk (NA.out.later hd.below)
        clear hd c1 c2
        have c1 := OT.out.c1
        have c2 := OT.out.c2
        have c3 := OT.out.c3
        go_wp2_with fail
        refine (KL.out wT _ _ NT.out).mono ?_
        rintro e wL ⟨rfl, hw⟩
        obtain rfl := hw.symm
        go_wp2_with fail
        go_region_held3 (fun v => v.cell? ⟨g0, 1, none⟩ = some (.int .i64 2) ∧ v.cell? ⟨g0, 2, none⟩ = some (.int .u32 (ad : Int)) ∧ v.cell? ⟨g0, 3, none⟩ = some (.int .u32 (x : Int)) ∧ v.cell? ⟨g0, 4, none⟩ = some (.string D)) (first | exact (OT.out.later (Drew.once _).below).s4 | exact ((OT.out.later (Drew.once _).below).later hbx).s4 | exact (((OT.out.later (Drew.once _).below).later hbx).later hby).s4) (first | (go_at_call 16; refine (ref_copy _ _ _ _ _ (RT.out.later (Drew.once _).below)).mono ?_; rintro e wx ⟨vx, rfl, ox, hbx⟩; obtain ⟨ax, capx, rfl, hrx⟩ := ox.rd hn) | (go_at_call 18; refine (KI.out _ _ _ hrx).mono ?_; rintro e wI ⟨vI, rfl, oI, hby⟩))
        have hbTI := (Drew.once wT).below.trans ((hbx.mono (Drew.once wT).below.size).trans (hby.mono (Nat.le_trans (Drew.once wT).below.size hbx.size)))
        have BI := Kp.mk (BT.out.trans (hbTI.mono BT.out.size))
        have RI := Kp.mk (RT.out.later hbTI)
        have OI := Kp.mk (OT.out.later hbTI)
        obtain ⟨aI, capI, rfl, hrI⟩ := oI.rd HL2n.out
        have NI := Kp.mk hrI
        clear hbTI hbx hby ox oI hrx hrI
        have c2 := OI.out.c2
        have c4 := OI.out.c4
        by_cases hz2 : F2 = 0
        · obtain ⟨hp1, hp2, hp3, hp4, hp5, hp6⟩ := HIn.out hz2
          subst hz2
          have hp7 := hp6.symm
          clear hp6
          subst hp7
          have KO := Kp.mk (page_out aI n capI (inQ R ad D) wI NI.out ad D.size had (by omega))
          rw [hp1, hp2] at KO
          have HOt := Kp.mk hp3
          clear hp1 hp2 hp3
          go_wp2_with fail
          refine KO.out.mono ?_
          rintro e wJ ⟨rfl, hb⟩
          have BJ := Kp.mk (BI.out.trans (hb.mono BI.out.size))
          have RJ := Kp.mk (RI.out.later hb)
          have OJ := Kp.mk (OI.out.later hb)
          have NJ := Kp.mk (NI.out.later hb)
          clear hb c2 c4
          have c2 := OJ.out.c2
          have c4 := OJ.out.c4
          go_wp2_with fail
          refine (law_others _ _ n _ _ _ _ wJ RJ.out NJ.out ad D.size had (by omega) HOt.out).mono ?_
          rintro e wK ⟨rfl, hd⟩
          have BK := Kp.mk (BJ.out.trans (hd.below.mono BJ.out.size))
          clear hd
          go_wp2
          go_ret
          exact ⟨rfl, BK.out⟩
        · obtain ⟨rfl, hemp⟩ := HIno.out hz2
          have hne2 := intNe hz2
          go_wp2
          go_ret
          exact ⟨rfl, BI.out⟩
      · obtain ⟨w1, hw1⟩ : ∃ w1, w1 = w.alloc (.cells (PopN.row ⟨kind, 4, ad, x, D⟩).toArray 41) := ⟨_, rfl⟩
        have B1 : Kp (Below w.heap.size w w1) := ⟨by rw [hw1]; exact (Below.refl _ _).alloc (Nat.le_refl _) _⟩
        have O1 : Kp (OpAt w1 w.heap.size ⟨kind, 4, ad, x, D⟩) := ⟨by rw [hw1]; exact OpAt.made w _⟩
        have W1 := Kp.mk hw1
        obtain ⟨g0, hg0⟩ : ∃ g0, g0 = w.heap.size := ⟨_, rfl⟩
        have G0 := Kp.mk hg0
        rw [← hg0] at O1
        clear hw1 hg0
        go_enter Tryd.func7, Tryd.ntmps7
        go_wp2_with (refine Great.wpList_boxTo rfl 41 (.tmp 1) rfl _ rfl g0 G0.out.symm (PopN.row ⟨kind, 4, ad, x, D⟩).toArray rfl ?_; rw [← W1.out])
        refine (law_known _).mono ?_
        rintro e w2 ⟨rfl, hb⟩
        have B2 := Kp.mk (B1.out.trans (hb.mono B1.out.size))
        have O2 := Kp.mk (O1.out.later hb)
        clear hb
        go_wp2_with fail
        refine (law_readable _ _ _ _ w2 (H0.out.later B2.out)).mono ?_
        rintro e w3 ⟨v3, rfl, o3, hb⟩
        rw [← HRR.out] at o3
        obtain ⟨a3, cap3, rfl, hr3⟩ := o3.rd hn
        have R3 := Kp.mk hr3
        have B3 := Kp.mk (B2.out.trans (hb.mono B2.out.size))
        have O3 := Kp.mk (O2.out.later hb)
        clear hb hr3 o3
        go_wp2_with fail
        go_region_held3 (fun v => v.cell? ⟨g0, 1, none⟩ = some (.int .i64 4) ∧ v.cell? ⟨g0, 2, none⟩ = some (.int .u32 (ad : Int)) ∧ v.cell? ⟨g0, 3, none⟩ = some (.int .u32 (x : Int)) ∧ v.cell? ⟨g0, 4, none⟩ = some (.string D)) (first | exact (O3.out.later (Drew.once _).below).s4 | exact ((O3.out.later (Drew.once _).below).later hbx).s4 | exact (((O3.out.later (Drew.once _).below).later hbx).later hby).s4) (first | (go_at_call 16; refine (ref_copy _ _ _ _ _ (R3.out.later (Drew.once _).below)).mono ?_; rintro e wx ⟨vx, rfl, ox, hbx⟩; obtain ⟨ax, capx, rfl, hrx⟩ := ox.rd hn) | (go_at_call 17; refine (KS.out _ _ _ hrx ((HE.out.later ((B3.out.trans ((Drew.once _).below.mono B3.out.size)).trans (hbx.mono (Nat.le_trans B3.out.size (Drew.once _).below.size)))).sub (by decide))).mono ?_; rintro e w5 ⟨v5, rfl, o5, hby⟩))
        have hb35 := (Drew.once w3).below.trans ((hbx.mono (Drew.once w3).below.size).trans (hby.mono (Nat.le_trans (Drew.once w3).below.size hbx.size)))
        have B5 := Kp.mk (B3.out.trans (hb35.mono B3.out.size))
        have R5 := Kp.mk (R3.out.later hb35)
        have O5 := Kp.mk (O3.out.later hb35)
        obtain ⟨a5, cap5, rfl, hr5⟩ := o5.rd HLn.out
        have N5 := Kp.mk hr5
        clear hb35 hbx hby ox o5 hrx hr5
        go_wp2_with fail
        refine (ref_copy _ _ _ _ w5 R5.out).mono ?_
        rintro e w6 ⟨v6, rfl, o6, hb⟩
        have M6 := Kp.mk o6
        have B6 := Kp.mk (B5.out.trans (hb.mono B5.out.size))
        have R6 := Kp.mk (R5.out.later hb)
        have O6 := Kp.mk (O5.out.later hb)
        have N6 := Kp.mk (N5.out.later hb)
        have S6 := Kp.mk hb.size
        have T6 := Kp.mk hb
        clear hb o6
        have c1 := O6.out.c1
        have c2 := O6.out.c2
        have c3 := O6.out.c3
        go_wp2_with fail
        refine (KP.out w6 w5.heap.size v6 M6.out ((HE.out.later B6.out).sub (by decide))).mono ?_
        rintro e w7 ⟨rfl, o7, hbb, _⟩
        have hb := hbb w5.heap.size (Nat.le_refl _) S6.out
        have h57 := T6.out.trans hb
        have B7 := Kp.mk (B5.out.trans (h57.mono B5.out.size))
        have R7 := Kp.mk (R5.out.later h57)
        have O7 := Kp.mk (O5.out.later h57)
        have N7 := Kp.mk (N5.out.later h57)
        obtain ⟨a7, cap7, rfl, hr7⟩ := o7.rd hn
        have M7 := Kp.mk hr7
        clear hb hbb h57 o7 hr7 c1 c2 c3
        go_wp2_with fail
        refine (law_code A _ w7 HLE.out (HE.out.later B7.out) (HT.out.later B7.out)).mono ?_
        rintro e w8 ⟨rfl, hb⟩
        have B8 := Kp.mk (B7.out.trans (hb.mono B7.out.size))
        have R8 := Kp.mk (R7.out.later hb)
        have O8 := Kp.mk (O7.out.later hb)
        have N8 := Kp.mk (N7.out.later hb)
        have M8 := Kp.mk (M7.out.later hb)
        clear hb
        go_wp2_with fail
        refine (law_code A _ w8 HLE.out (HE.out.later B8.out) (HT.out.later B8.out)).mono ?_
        rintro e w9 ⟨rfl, hb⟩
        have B9 := Kp.mk (B8.out.trans (hb.mono B8.out.size))
        have R9 := Kp.mk (R8.out.later hb)
        have O9 := Kp.mk (O8.out.later hb)
        have N9 := Kp.mk (N8.out.later hb)
        have M9 := Kp.mk (M8.out.later hb)
        clear hb
        simp only [errOf]
        go_wp2_with fail
        refine (ref_same _ _ n _ _ _ _ w9 N9.out M9.out (fun i hi => rfl)).mono ?_
        rintro e wA ⟨rfl, hd⟩
        have BA := Kp.mk (B9.out.trans (hd.below.mono B9.out.size))
        have RA := Kp.mk (R9.out.later hd.below)
        have OA := Kp.mk (O9.out.later hd.below)
        have NA := Kp.mk (N9.out.later hd.below)
        clear hd
        have c1 := OA.out.c1
        have c2 := OA.out.c2
        go_wp2_with fail
        refine (law_others _ _ n _ _ _ _ wA RA.out NA.out ad 4 had (by omega) HOt.out).mono ?_
        rintro e wT ⟨rfl, hd⟩
        have BT := Kp.mk (BA.out.trans (hd.below.mono BA.out.size))
        have RT := Kp.mk (RA.out.later hd.below)
        have OT := Kp.mk (OA.out.later hd.below)
        have NT := Kp.mk (NA.out.later hd.below)
        clear hd c1 c2
        have c1 := OT.out.c1
        have c2 := OT.out.c2
        have c3 := OT.out.c3
        go_wp2_with fail
        refine (KL.out wT _ _ NT.out).mono ?_
        rintro e wL ⟨rfl, hw⟩
        obtain rfl := hw.symm
        go_wp2_with fail
        go_region_held3 (fun v => v.cell? ⟨g0, 1, none⟩ = some (.int .i64 4) ∧ v.cell? ⟨g0, 2, none⟩ = some (.int .u32 (ad : Int)) ∧ v.cell? ⟨g0, 3, none⟩ = some (.int .u32 (x : Int)) ∧ v.cell? ⟨g0, 4, none⟩ = some (.string D)) (first | exact (OT.out.later (Drew.once _).below).s4 | exact ((OT.out.later (Drew.once _).below).later hbx).s4 | exact (((OT.out.later (Drew.once _).below).later hbx).later hby).s4) (first | (go_at_call 16; refine (ref_copy _ _ _ _ _ (RT.out.later (Drew.once _).below)).mono ?_; rintro e wx ⟨vx, rfl, ox, hbx⟩; obtain ⟨ax, capx, rfl, hrx⟩ := ox.rd hn) | (go_at_call 18; refine (KI.out _ _ _ hrx).mono ?_; rintro e wI ⟨vI, rfl, oI, hby⟩))
        have hbTI := (Drew.once wT).below.trans ((hbx.mono (Drew.once wT).below.size).trans (hby.mono (Nat.le_trans (Drew.once wT).below.size hbx.size)))
        have BI := Kp.mk (BT.out.trans (hbTI.mono BT.out.size))
        have RI := Kp.mk (RT.out.later hbTI)
        have OI := Kp.mk (OT.out.later hbTI)
        obtain ⟨aI, capI, rfl, hrI⟩ := oI.rd HL2n.out
        have NI := Kp.mk hrI
        clear hbTI hbx hby ox oI hrx hrI
        have c2 := OI.out.c2
        have c4 := OI.out.c4
        by_cases hz2 : F2 = 0
        · obtain ⟨hp1, hp2, hp3, hp4, hp5, hp6⟩ := HIn.out hz2
          subst hz2
          have hp7 := hp6.symm
          clear hp6
          subst hp7
          have KO := Kp.mk (page_out aI n capI (inQ R ad D) wI NI.out ad D.size had (by omega))
          rw [hp1, hp2] at KO
          have HOt := Kp.mk hp3
          clear hp1 hp2 hp3
          go_wp2_with fail
          refine KO.out.mono ?_
          rintro e wJ ⟨rfl, hb⟩
          have BJ := Kp.mk (BI.out.trans (hb.mono BI.out.size))
          have RJ := Kp.mk (RI.out.later hb)
          have OJ := Kp.mk (OI.out.later hb)
          have NJ := Kp.mk (NI.out.later hb)
          clear hb c2 c4
          have c2 := OJ.out.c2
          have c4 := OJ.out.c4
          go_wp2_with fail
          refine (law_others _ _ n _ _ _ _ wJ RJ.out NJ.out ad D.size had (by omega) HOt.out).mono ?_
          rintro e wK ⟨rfl, hd⟩
          have BK := Kp.mk (BJ.out.trans (hd.below.mono BJ.out.size))
          clear hd
          go_wp2
          go_ret
          exact ⟨rfl, BK.out⟩
        · obtain ⟨rfl, hemp⟩ := HIno.out hz2
          have hne2 := intNe hz2
          go_wp2
          go_ret
          exact ⟨rfl, BI.out⟩
    · obtain ⟨F, hF⟩ : ∃ F, F = lookF R n ad k 1 := ⟨_, rfl⟩
      have e1 : stF R n ad (k : Int) 1 = F := by simp [stF, hsz, hF]
      have eo : stOk R n ad (k : Int) = false := by simp [stOk, hsz, h0]
      have e3 : stL R n ad (k : Int) = 0 := by simp [stL, eo]
      have e4 : pkP R n ad (k : Int) x = R := by simp [pkP, eo]
      have KS := Kp.mk (fun (w' : World) a' cap' (hv : RdP w' a' n cap' R) (he : Errs w' [12] A) => uni_store A a' n cap' R w' hv ad had (k : Int) x hx he)
      have KP := Kp.mk (fun (w' : World) B v (hv : OwnP w' B v n R) (he : Errs w' [12] A) => uni_poke A n R w' B v hv hn ad had (k : Int) x hx he)
      rw [e1, hC, e3] at KS
      rw [e1, hC, e4] at KP
      have HLE : Kp ((0 : Nat) ≤ 20) := ⟨by decide⟩
      have HLn : Kp ((0 : Nat) ≤ 1759218604441) := ⟨by decide⟩
      have hne : ((F : Int) != 0) = true := intNe (by rw [hF]; exact h0)
      have hFF : ((F : Int) != (F : Int)) = false := by simp
      obtain ⟨s, hsk⟩ : ∃ s : Int, s = (k : Int) := ⟨_, rfl⟩
      rw [← hsk] at KS KP ⊢
      clear hsz hC h0 hkn e1 eo e3 e4 hF hRB hk hsk
      obtain ⟨w1, hw1⟩ : ∃ w1, w1 = w.alloc (.cells (PopN.row ⟨kind, s, ad, x, D⟩).toArray 41) := ⟨_, rfl⟩
      have B1 : Kp (Below w.heap.size w w1) := ⟨by rw [hw1]; exact (Below.refl _ _).alloc (Nat.le_refl _) _⟩
      have O1 : Kp (OpAt w1 w.heap.size ⟨kind, s, ad, x, D⟩) := ⟨by rw [hw1]; exact OpAt.made w _⟩
      have W1 := Kp.mk hw1
      obtain ⟨g0, hg0⟩ : ∃ g0, g0 = w.heap.size := ⟨_, rfl⟩
      have G0 := Kp.mk hg0
      rw [← hg0] at O1
      clear hw1 hg0
      go_enter Tryd.func7, Tryd.ntmps7
      go_wp2_with (refine Great.wpList_boxTo rfl 41 (.tmp 1) rfl _ rfl g0 G0.out.symm (PopN.row ⟨kind, s, ad, x, D⟩).toArray rfl ?_; rw [← W1.out])
      refine (law_known _).mono ?_
      rintro e w2 ⟨rfl, hb⟩
      have B2 := Kp.mk (B1.out.trans (hb.mono B1.out.size))
      have O2 := Kp.mk (O1.out.later hb)
      clear hb
      go_wp2_with fail
      refine (law_readable _ _ _ _ w2 (H0.out.later B2.out)).mono ?_
      rintro e w3 ⟨v3, rfl, o3, hb⟩
      rw [← HRR.out] at o3
      obtain ⟨a3, cap3, rfl, hr3⟩ := o3.rd hn
      have R3 := Kp.mk hr3
      have B3 := Kp.mk (B2.out.trans (hb.mono B2.out.size))
      have O3 := Kp.mk (O2.out.later hb)
      clear hb hr3 o3
      go_wp2_with fail
      go_region_held3 (fun v => v.cell? ⟨g0, 1, none⟩ = some (.int .i64 s) ∧ v.cell? ⟨g0, 2, none⟩ = some (.int .u32 (ad : Int)) ∧ v.cell? ⟨g0, 3, none⟩ = some (.int .u32 (x : Int)) ∧ v.cell? ⟨g0, 4, none⟩ = some (.string D)) (first | exact (O3.out.later (Drew.once _).below).s4 | exact ((O3.out.later (Drew.once _).below).later hbx).s4 | exact (((O3.out.later (Drew.once _).below).later hbx).later hby).s4) (first | (go_at_call 16; refine (ref_copy _ _ _ _ _ (R3.out.later (Drew.once _).below)).mono ?_; rintro e wx ⟨vx, rfl, ox, hbx⟩; obtain ⟨ax, capx, rfl, hrx⟩ := ox.rd hn) | (go_at_call 17; refine (KS.out _ _ _ hrx ((HE.out.later ((B3.out.trans ((Drew.once _).below.mono B3.out.size)).trans (hbx.mono (Nat.le_trans B3.out.size (Drew.once _).below.size)))).sub (by decide))).mono ?_; rintro e w5 ⟨v5, rfl, o5, hby⟩))
      have hb35 := (Drew.once w3).below.trans ((hbx.mono (Drew.once w3).below.size).trans (hby.mono (Nat.le_trans (Drew.once w3).below.size hbx.size)))
      have B5 := Kp.mk (B3.out.trans (hb35.mono B3.out.size))
      have R5 := Kp.mk (R3.out.later hb35)
      have O5 := Kp.mk (O3.out.later hb35)
      obtain ⟨a5, cap5, rfl, hr5⟩ := o5.rd HLn.out
      have N5 := Kp.mk hr5
      clear hb35 hbx hby ox o5 hrx hr5
      go_wp2_with fail
      refine (ref_copy _ _ _ _ w5 R5.out).mono ?_
      rintro e w6 ⟨v6, rfl, o6, hb⟩
      have M6 := Kp.mk o6
      have B6 := Kp.mk (B5.out.trans (hb.mono B5.out.size))
      have R6 := Kp.mk (R5.out.later hb)
      have O6 := Kp.mk (O5.out.later hb)
      have N6 := Kp.mk (N5.out.later hb)
      have S6 := Kp.mk hb.size
      have T6 := Kp.mk hb
      clear hb o6
      have c1 := O6.out.c1
      have c2 := O6.out.c2
      have c3 := O6.out.c3
      go_wp2_with fail
      refine (KP.out w6 w5.heap.size v6 M6.out ((HE.out.later B6.out).sub (by decide))).mono ?_
      rintro e w7 ⟨rfl, o7, hbb, _⟩
      have hb := hbb w5.heap.size (Nat.le_refl _) S6.out
      have h57 := T6.out.trans hb
      have B7 := Kp.mk (B5.out.trans (h57.mono B5.out.size))
      have R7 := Kp.mk (R5.out.later h57)
      have O7 := Kp.mk (O5.out.later h57)
      have N7 := Kp.mk (N5.out.later h57)
      obtain ⟨a7, cap7, rfl, hr7⟩ := o7.rd hn
      have M7 := Kp.mk hr7
      clear hb hbb h57 o7 hr7 c1 c2 c3
      go_wp2_with fail
      refine (law_code A _ w7 HLE.out (HE.out.later B7.out) (HT.out.later B7.out)).mono ?_
      rintro e w8 ⟨rfl, hb⟩
      have B8 := Kp.mk (B7.out.trans (hb.mono B7.out.size))
      have R8 := Kp.mk (R7.out.later hb)
      have O8 := Kp.mk (O7.out.later hb)
      have N8 := Kp.mk (N7.out.later hb)
      have M8 := Kp.mk (M7.out.later hb)
      clear hb
      go_wp2_with fail
      refine (law_code A _ w8 HLE.out (HE.out.later B8.out) (HT.out.later B8.out)).mono ?_
      rintro e w9 ⟨rfl, hb⟩
      have B9 := Kp.mk (B8.out.trans (hb.mono B8.out.size))
      have R9 := Kp.mk (R8.out.later hb)
      have O9 := Kp.mk (O8.out.later hb)
      have N9 := Kp.mk (N8.out.later hb)
      have M9 := Kp.mk (M8.out.later hb)
      clear hb
      simp only [errOf]
      go_wp2_with fail
      refine (ref_same _ _ n _ _ _ _ w9 M9.out R9.out (fun i hi => rfl)).mono ?_
      rintro e wT ⟨rfl, hd⟩
      have BT := Kp.mk (B9.out.trans (hd.below.mono B9.out.size))
      have RT := Kp.mk (R9.out.later hd.below)
      have OT := Kp.mk (O9.out.later hd.below)
      clear hd
      have c1 := OT.out.c1
      have c4 := OT.out.c4
      go_wp2_with fail
      go_region_held3 (fun v => v.cell? ⟨g0, 1, none⟩ = some (.int .i64 s) ∧ v.cell? ⟨g0, 2, none⟩ = some (.int .u32 (ad : Int)) ∧ v.cell? ⟨g0, 3, none⟩ = some (.int .u32 (x : Int)) ∧ v.cell? ⟨g0, 4, none⟩ = some (.string D)) (first | exact (OT.out.later (Drew.once _).below).s4 | exact ((OT.out.later (Drew.once _).below).later hbx).s4 | exact (((OT.out.later (Drew.once _).below).later hbx).later hby).s4) (first | (go_at_call 16; refine (ref_copy _ _ _ _ _ (RT.out.later (Drew.once _).below)).mono ?_; rintro e wx ⟨vx, rfl, ox, hbx⟩; obtain ⟨ax, capx, rfl, hrx⟩ := ox.rd hn) | (go_at_call 18; refine (KI.out _ _ _ hrx).mono ?_; rintro e wI ⟨vI, rfl, oI, hby⟩))
      have hbTI := (Drew.once wT).below.trans ((hbx.mono (Drew.once wT).below.size).trans (hby.mono (Nat.le_trans (Drew.once wT).below.size hbx.size)))
      have BI := Kp.mk (BT.out.trans (hbTI.mono BT.out.size))
      have RI := Kp.mk (RT.out.later hbTI)
      have OI := Kp.mk (OT.out.later hbTI)
      obtain ⟨aI, capI, rfl, hrI⟩ := oI.rd HL2n.out
      have NI := Kp.mk hrI
      clear hbTI hbx hby ox oI hrx hrI
      have c2 := OI.out.c2
      have c4 := OI.out.c4
      by_cases hz2 : F2 = 0
      · obtain ⟨hp1, hp2, hp3, hp4, hp5, hp6⟩ := HIn.out hz2
        subst hz2
        have hp7 := hp6.symm
        clear hp6
        subst hp7
        have KO := Kp.mk (page_out aI n capI (inQ R ad D) wI NI.out ad D.size had (by omega))
        rw [hp1, hp2] at KO
        have HOt := Kp.mk hp3
        clear hp1 hp2 hp3
        go_wp2_with fail
        refine KO.out.mono ?_
        rintro e wJ ⟨rfl, hb⟩
        have BJ := Kp.mk (BI.out.trans (hb.mono BI.out.size))
        have RJ := Kp.mk (RI.out.later hb)
        have OJ := Kp.mk (OI.out.later hb)
        have NJ := Kp.mk (NI.out.later hb)
        clear hb c2 c4
        have c2 := OJ.out.c2
        have c4 := OJ.out.c4
        go_wp2_with fail
        refine (law_others _ _ n _ _ _ _ wJ RJ.out NJ.out ad D.size had (by omega) HOt.out).mono ?_
        rintro e wK ⟨rfl, hd⟩
        have BK := Kp.mk (BJ.out.trans (hd.below.mono BJ.out.size))
        clear hd
        go_wp2
        go_ret
        exact ⟨rfl, BK.out⟩
      · obtain ⟨rfl, hemp⟩ := HIno.out hz2
        have hne2 := intNe hz2
        go_wp2
        go_ret
        exact ⟨rfl, BI.out⟩
end Go.Proofs.YtkkclkmiaenipaaDoor
