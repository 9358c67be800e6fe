/- PageMarks, walked. -/
import Derived.Test.YtkkclkmiaenipaaDoorPageStored
import Derived.Test.YtkkclkmiaenipaaDoorPagePlays
namespace Go.Proofs.YtkkclkmiaenipaaDoor
open Go Go.RowKit
set_option linter.unusedVariables false

/-- What differs is dirty. -/
def Marked (P Q : Nat → PageV) (n : Nat) : Prop := ∀ i, i < n → dataEq (P i).data (Q i).data = false → (Q i).dirty = true
theorem marked_self (P : Nat → PageV) (n : Nat) : Marked P P n := fun i _ h => by rw [dataEq_refl] at h; cases h
theorem marked_upd {P Q : Nat → PageV} {n : Nat} (h : Marked P Q n) (k : Nat) (p : PageV) (hp : p.dirty = true) : Marked P (upd Q k p) n := fun i hi => by
  by_cases e : i = k
  · subst e; rw [upd_at]; exact fun _ => hp
  · rw [upd_other _ _ _ _ e]; exact h i hi
theorem marked_in {P Q : Nat → PageV} {n : Nat} (h : Marked P Q n) (ad : Nat) (f : Nat → BitVec 8) : ∀ k, Marked P (inP Q ad f k) n
  | 0 => h
  | k + 1 => marked_upd (marked_in h ad f k) _ _ rfl
theorem marked_store {P Q : Nat → PageV} {n : Nat} (h : Marked P Q n) (ad k x : Nat) : Marked P (Pg.store Q ad k x) n := marked_upd h _ _ rfl
theorem marked_poke {P Q : Nat → PageV} {n : Nat} (h : Marked P Q n) (m ad : Nat) (s : Int) (x : Nat) : Marked P (pkP Q m ad s x) n := by
  unfold pkP
  cases stOk Q m ad s
  · exact h
  · exact marked_store h _ _ _
theorem dirtyL_filter (P : Nat → PageV) : ∀ n, dirtyL P n = (List.range n).filter fun i => (P i).dirty
  | 0 => rfl
  | n + 1 => by
    rw [dirtyL, dirtyL_filter P n, List.range_succ, List.filter_append]
    cases h : (P n).dirty <;> simp [h]
theorem diffs_filter (P Q : Nat → PageV) : ∀ n, diffs P Q n = (List.range n).filter fun i => !dataEq (P i).data (Q i).data
  | 0 => rfl
  | n + 1 => by
    rw [diffs, diffs_filter P Q n, List.range_succ, List.filter_append]
    cases h : dataEq (P n).data (Q n).data <;> simp [h]
theorem filter_sorted (p : Nat → Bool) (n i j : Nat) (hij : i < j) (hj : j < ((List.range n).filter p).length) : ((List.range n).filter p).getD i 0 < ((List.range n).filter p).getD j 0 := by
  have h : ((List.range n).filter p).Pairwise (· < ·) := List.Pairwise.filter p List.pairwise_lt_range
  rw [List.pairwise_iff_getElem] at h
  have := h i j (by omega) hj hij
  rw [List.getD_eq_getElem?_getD, List.getD_eq_getElem?_getD, List.getElem?_eq_getElem (by omega), List.getElem?_eq_getElem hj]
  exact this
theorem marked_mem {P Q : Nat → PageV} {n : Nat} (h : Marked P Q n) (i : Nat) (hi : i < (diffs P Q n).length) : ∃ p, p < (dirtyL Q n).length ∧ (dirtyL Q n).getD p 0 = (diffs P Q n).getD i 0 := by
  have hm : (diffs P Q n).getD i 0 ∈ diffs P Q n := by
    rw [List.getD_eq_getElem?_getD, List.getElem?_eq_getElem hi]; exact List.getElem_mem hi
  have hd : (diffs P Q n).getD i 0 ∈ dirtyL Q n := by
    rw [diffs_filter] at hm ⊢
    obtain ⟨h1, h2⟩ := List.mem_filter.1 hm
    rw [dirtyL_filter]
    exact List.mem_filter.2 ⟨h1, h _ (List.mem_range.1 h1) (by simpa using h2)⟩
  obtain ⟨p, hp, e⟩ := List.getElem_of_mem hd
  exact ⟨p, hp, by rw [List.getD_eq_getElem?_getD, List.getElem?_eq_getElem hp]; exact e⟩
theorem clean_none (P : Nat → PageV) (n : Nat) : dirtyL (cleanP P n) n = [] := by
  rw [dirtyL_filter]
  apply List.filter_eq_nil_iff.2
  intro i hi
  rw [cleanP_lt (List.mem_range.1 hi)]
  simp [cleanPg]
theorem clean_like (P : Nat → PageV) (n : Nat) : ∀ i, i < n → (cleanP P n i).like (P i) = true := fun i hi => by
  rw [cleanP_lt hi]
  simp [PageV.like, cleanPg, dataEq_refl]
noncomputable def zPop : Array Value := #[.int .i64 0, .int .i64 0, .int .u32 0, .int .u32 0, .string ⟨#[]⟩]
theorem zvPop (w : World) : (zeroValue 41).run Tryd.prog w = .ok (.agg zPop) w := by kernel_rfl
theorem pop_one (o : PopN) : o.row.toArray.all (·.oneCell') = true := by simp [PopN.row, Value.oneCell']
theorem op_local (wr : World) (o : PopN) : ∃ wa, wa = (wr.alloc (.cells zPop 41)).setRow wr.heap.size o.row.toArray ∧ Below wr.heap.size wr wa ∧ OpAt wa wr.heap.size o := by
  refine ⟨_, rfl, below_setRow ((Below.refl _ _).alloc (Nat.le_refl _) _) (Nat.le_refl _) _, ?_⟩
  intro j u hu
  have h := setRow_heap (wr.alloc (.cells zPop 41)) wr.heap.size zPop o.row.toArray 41 (0, 0) (heap_alloc_last wr _)
  rw [Nat.zero_add]
  exact cell_of_row _ wr.heap.size j _ _ _ (by simpa using h) |>.trans (by simpa using hu)
set_option maxRecDepth 100000 in
set_option maxHeartbeats 16000000 in
theorem law_PageMarks (A : Nat → Addr) (a : Option Addr) (n cap : Nat) (P : Nat → PageV) (a2 : Option Addr) (m c2 : Nat) (C : Nat → PopV) (w : World) (h : RdP w a n cap P) (h2 : RdQ w a2 m c2 C) (hE : Errs w [5, 12] A) :
    Calls Tryd.prog 4 #[.slice a n cap, .slice a2 m c2] w fun e w' => e = .returned (.bool true) ∧ Below w.heap.size w w' := by
  have H0 := Kp.mk h
  have H2 := Kp.mk h2
  have HE := Kp.mk hE
  have hn := h.bound
  have hm := h2.bound
  have hzv := zvPop
  clear h h2 hE
  go_enter Tryd.func4, Tryd.ntmps4
  go_wp2_with fail
  refine (law_known _).mono ?_
  rintro e w1 ⟨rfl, hb⟩
  have B1 := Kp.mk hb
  clear hb
  go_wp2_with fail
  refine (ref_copy _ _ _ _ w1 (H0.out.later B1.out)).mono ?_
  rintro e w2 ⟨v2, rfl, o2, hb⟩
  obtain ⟨aa, capa, rfl, hr2⟩ := o2.rd hn
  have R2 := Kp.mk hr2
  have B2 := Kp.mk (B1.out.trans (hb.mono B1.out.size))
  clear hb o2 hr2
  go_wp2_with fail
  refine (page_clean _ _ _ _ w2 R2.out).mono ?_
  rintro e w3 ⟨v3, rfl, o3, hb⟩
  obtain ⟨a3, cap3, rfl, hr3⟩ := o3.rd hn
  obtain ⟨P0, hP0⟩ : ∃ P0, P0 = cleanP P n := ⟨_, rfl⟩
  have hnone := clean_none P n
  rw [← hP0] at hr3 hnone
  have F3 := Kp.mk hr3
  have W3 := Kp.mk (B2.out.trans (hb.mono B2.out.size))
  clear hb o3 hr3 hP0
  have HNone := Kp.mk hnone
  clear hnone
  go_wp2_with fail
  refine (ref_copy _ _ _ _ w3 F3.out).mono ?_
  rintro e w4 ⟨v4, rfl, o4, hb⟩
  have N4 := Kp.mk o4
  have B4 := Kp.mk hb
  clear hb o4
  go_wp2
  go_loopw [6, 7] (fun nv iv wr => ∃ (k : Nat) (Q : Nat → PageV), k ≤ m ∧ iv = .int .i64 (k : Int) ∧ Kp (OwnP wr w3.heap.size nv n Q) ∧ Kp (Marked P0 Q n) ∧ Kp (Below w3.heap.size w3 wr)) (fun _ iv _ => m - (intOf iv).toNat)
  case atStart => exact ⟨0, P0, by omega, rfl, N4, ⟨marked_self _ _⟩, B4⟩
  case round =>
    obtain ⟨k, Q, hk, rfl, HO, HM, HB⟩ := hrel
    by_cases hlt : k < m
    · have hb : decide ((k : Int) < m) = true := decide_eq_true (by omega)
      obtain ⟨b, off, ha, hcell⟩ := H2.out.cells (by omega)
      have hfit := H2.out.fits k hlt
      have hc := prange_later (prange_later (hcell k hlt) W3.out) HB.out
      obtain ⟨kind, s, ad, x, D, hr, had, hx, hs, hD, hkk⟩ := (C k).num hfit
      rw [hr] at hc
      have HC := Kp.mk hc
      subst ha
      clear hcell hfit hc hr hkk
      by_cases hk2 : kind = 2
      · subst hk2
        have hok := stOk_iff Q n ad s
        have KS := Kp.mk (fun (w' : World) a' cap' (hv : RdP w' a' n cap' Q) (he : Errs w' [12] A) => uni_store A a' n cap' Q w' hv ad had s x hx he)
        have hC2 : stC s = 0 ∨ stC s = 12 := by unfold stC; cases szOk s <;> simp
        have hz : (stOk Q n ad s = true ∧ stF Q n ad s 1 = 0 ∧ stC s = 0) ∨ (stOk Q n ad s = false ∧ stF Q n ad s 1 ≠ 0) ∨ (stOk Q n ad s = false ∧ stF Q n ad s 1 = 0 ∧ stC s = 12) := by
          cases ht : stOk Q n ad s with
          | true => exact .inl ⟨rfl, hok.1 ht⟩
          | false =>
            by_cases e : stF Q n ad s 1 = 0
            · rcases hC2 with e2 | e2
              · have := hok.2 ⟨e, e2⟩; rw [ht] at this; cases this
              · exact .inr (.inr ⟨rfl, e, e2⟩)
            · exact .inr (.inl ⟨rfl, e⟩)
        clear hok
        rcases hz with ⟨ht, e1, e2⟩ | ⟨ht, e1⟩ | ⟨ht, e1, e2⟩
        · rw [e1, e2, show stL Q n ad s = n by simp [stL, ht], show errOf A 0 = .nilIface from rfl, show stP Q ad s x = Pg.store Q ad s.toNat x from rfl] at KS
          clear ht e1 e2 hC2
          obtain ⟨wa, ea, hba, hoa⟩ := op_local wr ⟨2, s, ad, x, D⟩
          have EA := Kp.mk ea
          have OA := Kp.mk hoa
          have NA := Kp.mk (HO.out.later hba)
          have BA := Kp.mk (HB.out.trans (hba.mono HB.out.size))
          have SA := Kp.mk hba.size
          obtain ⟨aw, capw, rfl, hrd⟩ := HO.out.rd hn
          have RA := Kp.mk (hrd.later hba)
          have c0 := OA.out.c0
          have c1 := OA.out.c1
          have c2 := OA.out.c2
          have c3 := OA.out.c3
          have c4 := OA.out.c4
          clear ea hba hoa hrd
          go_wp2_with (first
            | (refine wpList_load_mid rfl 41 _ rfl b (off + k * 5) rfl (PopN.row ⟨2, s, ad, x, D⟩) _ HC.out Tryd.underlying41 rfl opLen ?_)
            | (refine wpList_store_row rfl 41 _ _ rfl wr.heap.size (PopN.row ⟨2, s, ad, x, D⟩).toArray rfl rfl 41 zPop (heap_alloc_last wr _) opLen rfl (pop_one _) ?_; rw [← EA.out]))
          go_region_held3 (fun v => v.cell? ⟨wr.heap.size, 1, none⟩ = some (.int .i64 s) ∧ v.cell? ⟨wr.heap.size, 2, none⟩ = some (.int .u32 (ad : Int)) ∧ v.cell? ⟨wr.heap.size, 3, none⟩ = some (.int .u32 (x : Int)) ∧ v.cell? ⟨wr.heap.size, 4, none⟩ = some (.string D)) (first | exact (OA.out.later (Drew.once _).below).s4 | exact ((OA.out.later (Drew.once _).below).later hbx).s4 | exact (((OA.out.later (Drew.once _).below).later hbx).later hby).s4) (first | (go_at_call 16; refine (ref_copy _ _ _ _ _ (RA.out.later (Drew.once _).below)).mono ?_; rintro e wx ⟨vx, rfl, ox, hbx⟩; obtain ⟨ax, capx, rfl, hrx⟩ := ox.rd hn) | (go_at_call 17; refine (KS.out _ _ _ hrx ((HE.out.later (W3.out.trans ((BA.out.trans ((Drew.once _).below.mono BA.out.size)).trans (hbx.mono (Nat.le_trans BA.out.size (Drew.once _).below.size)) |>.mono W3.out.size))).sub (by decide))).mono ?_; rintro e wy ⟨vy, rfl, oy, hby⟩))
          have hxy := (Drew.once wa).below.trans ((hbx.mono (Drew.once wa).below.size).trans (hby.mono (Nat.le_trans (Drew.once wa).below.size hbx.size)))
          have HB2 := Kp.mk (BA.out.trans (hxy.mono BA.out.size))
          have HO2 := Kp.mk (oy.mono (Nat.le_trans BA.out.size (Nat.le_trans (Drew.once wa).below.size hbx.size)))
          have HM2 := Kp.mk (marked_store HM.out ad s.toNat x)
          clear hxy hbx hby ox oy hrx c0 c1 c2 c3 c4
          go_wp2
          go_roundw
          case rel => exact ⟨k + 1, _, by omega, by go_num, HO2, HM2, HB2⟩
          case measure => simp [intOf]; omega
        · obtain ⟨Fv, hF⟩ : ∃ Fv, Fv = stF Q n ad s 1 := ⟨_, rfl⟩
          obtain ⟨Cv, hCv⟩ : ∃ Cv, Cv = errOf A (stC s) := ⟨_, rfl⟩
          rw [← hF, ← hCv, show stL Q n ad s = 0 by simp [stL, ht]] at KS
          rw [← hF] at e1
          have hne : ((Fv : Int) == 0) = false := intEq e1
          clear ht e1 hC2 hF hCv
          obtain ⟨wa, ea, hba, hoa⟩ := op_local wr ⟨2, s, ad, x, D⟩
          have EA := Kp.mk ea
          have OA := Kp.mk hoa
          have NA := Kp.mk (HO.out.later hba)
          have BA := Kp.mk (HB.out.trans (hba.mono HB.out.size))
          have SA := Kp.mk hba.size
          obtain ⟨aw, capw, rfl, hrd⟩ := HO.out.rd hn
          have RA := Kp.mk (hrd.later hba)
          have c0 := OA.out.c0
          have c1 := OA.out.c1
          have c2 := OA.out.c2
          have c3 := OA.out.c3
          have c4 := OA.out.c4
          clear ea hba hoa hrd
          go_wp2_with (first
            | (refine wpList_load_mid rfl 41 _ rfl b (off + k * 5) rfl (PopN.row ⟨2, s, ad, x, D⟩) _ HC.out Tryd.underlying41 rfl opLen ?_)
            | (refine wpList_store_row rfl 41 _ _ rfl wr.heap.size (PopN.row ⟨2, s, ad, x, D⟩).toArray rfl rfl 41 zPop (heap_alloc_last wr _) opLen rfl (pop_one _) ?_; rw [← EA.out]))
          go_region_held3 (fun v => v.cell? ⟨wr.heap.size, 1, none⟩ = some (.int .i64 s) ∧ v.cell? ⟨wr.heap.size, 2, none⟩ = some (.int .u32 (ad : Int)) ∧ v.cell? ⟨wr.heap.size, 3, none⟩ = some (.int .u32 (x : Int)) ∧ v.cell? ⟨wr.heap.size, 4, none⟩ = some (.string D)) (first | exact (OA.out.later (Drew.once _).below).s4 | exact ((OA.out.later (Drew.once _).below).later hbx).s4 | exact (((OA.out.later (Drew.once _).below).later hbx).later hby).s4) (first | (go_at_call 16; refine (ref_copy _ _ _ _ _ (RA.out.later (Drew.once _).below)).mono ?_; rintro e wx ⟨vx, rfl, ox, hbx⟩; obtain ⟨ax, capx, rfl, hrx⟩ := ox.rd hn) | (go_at_call 17; refine (KS.out _ _ _ hrx ((HE.out.later (W3.out.trans ((BA.out.trans ((Drew.once _).below.mono BA.out.size)).trans (hbx.mono (Nat.le_trans BA.out.size (Drew.once _).below.size)) |>.mono W3.out.size))).sub (by decide))).mono ?_; rintro e wy ⟨vy, rfl, oy, hby⟩))
          have hxy := (Drew.once wa).below.trans ((hbx.mono (Drew.once wa).below.size).trans (hby.mono (Nat.le_trans (Drew.once wa).below.size hbx.size)))
          have HB2 := Kp.mk (BA.out.trans (hxy.mono BA.out.size))
          have HO2 := Kp.mk (NA.out.later hxy)
          have HM2 := HM
          clear hxy hbx hby ox oy hrx c0 c1 c2 c3 c4
          go_wp2
          go_roundw
          case rel => exact ⟨k + 1, Q, by omega, by go_num, HO2, HM2, HB2⟩
          case measure => simp [intOf]; omega
        · rw [e1, e2, show stL Q n ad s = 0 by simp [stL, ht], show errOf A 12 = errv (A 12) from rfl] at KS
          clear ht e1 e2 hC2
          obtain ⟨wa, ea, hba, hoa⟩ := op_local wr ⟨2, s, ad, x, D⟩
          have EA := Kp.mk ea
          have OA := Kp.mk hoa
          have NA := Kp.mk (HO.out.later hba)
          have BA := Kp.mk (HB.out.trans (hba.mono HB.out.size))
          have SA := Kp.mk hba.size
          obtain ⟨aw, capw, rfl, hrd⟩ := HO.out.rd hn
          have RA := Kp.mk (hrd.later hba)
          have c0 := OA.out.c0
          have c1 := OA.out.c1
          have c2 := OA.out.c2
          have c3 := OA.out.c3
          have c4 := OA.out.c4
          clear ea hba hoa hrd
          go_wp2_with (first
            | (refine wpList_load_mid rfl 41 _ rfl b (off + k * 5) rfl (PopN.row ⟨2, s, ad, x, D⟩) _ HC.out Tryd.underlying41 rfl opLen ?_)
            | (refine wpList_store_row rfl 41 _ _ rfl wr.heap.size (PopN.row ⟨2, s, ad, x, D⟩).toArray rfl rfl 41 zPop (heap_alloc_last wr _) opLen rfl (pop_one _) ?_; rw [← EA.out]))
          go_region_held3 (fun v => v.cell? ⟨wr.heap.size, 1, none⟩ = some (.int .i64 s) ∧ v.cell? ⟨wr.heap.size, 2, none⟩ = some (.int .u32 (ad : Int)) ∧ v.cell? ⟨wr.heap.size, 3, none⟩ = some (.int .u32 (x : Int)) ∧ v.cell? ⟨wr.heap.size, 4, none⟩ = some (.string D)) (first | exact (OA.out.later (Drew.once _).below).s4 | exact ((OA.out.later (Drew.once _).below).later hbx).s4 | exact (((OA.out.later (Drew.once _).below).later hbx).later hby).s4) (first | (go_at_call 16; refine (ref_copy _ _ _ _ _ (RA.out.later (Drew.once _).below)).mono ?_; rintro e wx ⟨vx, rfl, ox, hbx⟩; obtain ⟨ax, capx, rfl, hrx⟩ := ox.rd hn) | (go_at_call 17; refine (KS.out _ _ _ hrx ((HE.out.later (W3.out.trans ((BA.out.trans ((Drew.once _).below.mono BA.out.size)).trans (hbx.mono (Nat.le_trans BA.out.size (Drew.once _).below.size)) |>.mono W3.out.size))).sub (by decide))).mono ?_; rintro e wy ⟨vy, rfl, oy, hby⟩))
          have hxy := (Drew.once wa).below.trans ((hbx.mono (Drew.once wa).below.size).trans (hby.mono (Nat.le_trans (Drew.once wa).below.size hbx.size)))
          have HB2 := Kp.mk (BA.out.trans (hxy.mono BA.out.size))
          have HO2 := Kp.mk (NA.out.later hxy)
          have HM2 := HM
          clear hxy hbx hby ox oy hrx c0 c1 c2 c3 c4
          go_wp2
          go_roundw
          case rel => exact ⟨k + 1, Q, by omega, by go_num, HO2, HM2, HB2⟩
          case measure => simp [intOf]; omega
      · have n2 : (kind == 2) = false := by simpa using hk2
        by_cases hk5 : kind = 5
        · subst hk5
          have KI := Kp.mk (fun (w' : World) a' cap' (hv : RdP w' a' n cap' Q) => uni_in a' n cap' Q w' hv ad had D hD)
          by_cases hz : inF Q n ad D = 0
          · rw [show inL Q n ad D = n by simp [inL, hz], hz, show inQ Q ad D = inP Q ad (strF D) D.size from rfl] at KI
            clear hz hk2 n2
            obtain ⟨wa, ea, hba, hoa⟩ := op_local wr ⟨5, s, ad, x, D⟩
            have EA := Kp.mk ea
            have OA := Kp.mk hoa
            have NA := Kp.mk (HO.out.later hba)
            have BA := Kp.mk (HB.out.trans (hba.mono HB.out.size))
            have SA := Kp.mk hba.size
            obtain ⟨aw, capw, rfl, hrd⟩ := HO.out.rd hn
            have RA := Kp.mk (hrd.later hba)
            have c0 := OA.out.c0
            have c1 := OA.out.c1
            have c2 := OA.out.c2
            have c3 := OA.out.c3
            have c4 := OA.out.c4
            clear ea hba hoa hrd
            go_wp2_with (first
              | (refine wpList_load_mid rfl 41 _ rfl b (off + k * 5) rfl (PopN.row ⟨5, s, ad, x, D⟩) _ HC.out Tryd.underlying41 rfl opLen ?_)
              | (refine wpList_store_row rfl 41 _ _ rfl wr.heap.size (PopN.row ⟨5, s, ad, x, D⟩).toArray rfl rfl 41 zPop (heap_alloc_last wr _) opLen rfl (pop_one _) ?_; rw [← EA.out]))
            go_region_held3 (fun v => v.cell? ⟨wr.heap.size, 1, none⟩ = some (.int .i64 s) ∧ v.cell? ⟨wr.heap.size, 2, none⟩ = some (.int .u32 (ad : Int)) ∧ v.cell? ⟨wr.heap.size, 3, none⟩ = some (.int .u32 (x : Int)) ∧ v.cell? ⟨wr.heap.size, 4, none⟩ = some (.string D)) (first | exact (OA.out.later (Drew.once _).below).s4 | exact ((OA.out.later (Drew.once _).below).later hbx).s4 | exact (((OA.out.later (Drew.once _).below).later hbx).later hby).s4) (first | (go_at_call 16; refine (ref_copy _ _ _ _ _ (RA.out.later (Drew.once _).below)).mono ?_; rintro e wx ⟨vx, rfl, ox, hbx⟩; obtain ⟨ax, capx, rfl, hrx⟩ := ox.rd hn) | (go_at_call 18; refine (KI.out _ _ _ hrx).mono ?_; rintro e wy ⟨vy, rfl, oy, hby⟩))
            have hxy := (Drew.once wa).below.trans ((hbx.mono (Drew.once wa).below.size).trans (hby.mono (Nat.le_trans (Drew.once wa).below.size hbx.size)))
            have HB2 := Kp.mk (BA.out.trans (hxy.mono BA.out.size))
            have HO2 := Kp.mk (oy.mono (Nat.le_trans BA.out.size (Nat.le_trans (Drew.once wa).below.size hbx.size)))
            have HM2 := Kp.mk (marked_in HM.out ad (strF D) D.size)
            clear hxy hbx hby ox oy hrx c0 c1 c2 c3 c4
            go_wp2
            go_roundw
            case rel => exact ⟨k + 1, _, by omega, by go_num, HO2, HM2, HB2⟩
            case measure => simp [intOf]; omega
          · obtain ⟨Fv, hF⟩ : ∃ Fv, Fv = inF Q n ad D := ⟨_, rfl⟩
            rw [← hF] at hz
            rw [show inL Q n ad D = 0 by simp [inL, ← hF, hz], ← hF] at KI
            have hne : ((Fv : Int) == 0) = false := intEq hz
            clear hz hF hk2 n2
            obtain ⟨wa, ea, hba, hoa⟩ := op_local wr ⟨5, s, ad, x, D⟩
            have EA := Kp.mk ea
            have OA := Kp.mk hoa
            have NA := Kp.mk (HO.out.later hba)
            have BA := Kp.mk (HB.out.trans (hba.mono HB.out.size))
            have SA := Kp.mk hba.size
            obtain ⟨aw, capw, rfl, hrd⟩ := HO.out.rd hn
            have RA := Kp.mk (hrd.later hba)
            have c0 := OA.out.c0
            have c1 := OA.out.c1
            have c2 := OA.out.c2
            have c3 := OA.out.c3
            have c4 := OA.out.c4
            clear ea hba hoa hrd
            go_wp2_with (first
              | (refine wpList_load_mid rfl 41 _ rfl b (off + k * 5) rfl (PopN.row ⟨5, s, ad, x, D⟩) _ HC.out Tryd.underlying41 rfl opLen ?_)
              | (refine wpList_store_row rfl 41 _ _ rfl wr.heap.size (PopN.row ⟨5, s, ad, x, D⟩).toArray rfl rfl 41 zPop (heap_alloc_last wr _) opLen rfl (pop_one _) ?_; rw [← EA.out]))
            go_region_held3 (fun v => v.cell? ⟨wr.heap.size, 1, none⟩ = some (.int .i64 s) ∧ v.cell? ⟨wr.heap.size, 2, none⟩ = some (.int .u32 (ad : Int)) ∧ v.cell? ⟨wr.heap.size, 3, none⟩ = some (.int .u32 (x : Int)) ∧ v.cell? ⟨wr.heap.size, 4, none⟩ = some (.string D)) (first | exact (OA.out.later (Drew.once _).below).s4 | exact ((OA.out.later (Drew.once _).below).later hbx).s4 | exact (((OA.out.later (Drew.once _).below).later hbx).later hby).s4) (first | (go_at_call 16; refine (ref_copy _ _ _ _ _ (RA.out.later (Drew.once _).below)).mono ?_; rintro e wx ⟨vx, rfl, ox, hbx⟩; obtain ⟨ax, capx, rfl, hrx⟩ := ox.rd hn) | (go_at_call 18; refine (KI.out _ _ _ hrx).mono ?_; rintro e wy ⟨vy, rfl, oy, hby⟩))
            have hxy := (Drew.once wa).below.trans ((hbx.mono (Drew.once wa).below.size).trans (hby.mono (Nat.le_trans (Drew.once wa).below.size hbx.size)))
            have HB2 := Kp.mk (BA.out.trans (hxy.mono BA.out.size))
            have HO2 := Kp.mk (NA.out.later hxy)
            have HM2 := HM
            clear hxy hbx hby ox oy hrx c0 c1 c2 c3 c4
            go_wp2
            go_roundw
            case rel => exact ⟨k + 1, Q, by omega, by go_num, HO2, HM2, HB2⟩
            case measure => simp [intOf]; omega
        · have n5 : (kind == 5) = false := by simpa using hk5
          by_cases hk6 : kind = 6
          · subst hk6
            have KP := Kp.mk (fun (w' : World) B v (hv : OwnP w' B v n Q) (he : Errs w' [12] A) => uni_poke A n Q w' B v hv hn ad had s x hx he)
            have HM2 := Kp.mk (marked_poke HM.out n ad s x)
            clear hk2 n2 hk5 n5
            obtain ⟨wa, ea, hba, hoa⟩ := op_local wr ⟨6, s, ad, x, D⟩
            have EA := Kp.mk ea
            have OA := Kp.mk hoa
            have NA := Kp.mk (HO.out.later hba)
            have BA := Kp.mk (HB.out.trans (hba.mono HB.out.size))
            have SA := Kp.mk hba.size
            obtain ⟨aw, capw, rfl, hrd⟩ := HO.out.rd hn
            have RA := Kp.mk (hrd.later hba)
            have c0 := OA.out.c0
            have c1 := OA.out.c1
            have c2 := OA.out.c2
            have c3 := OA.out.c3
            have c4 := OA.out.c4
            clear ea hba hoa hrd
            go_wp2_with (first
              | (refine wpList_load_mid rfl 41 _ rfl b (off + k * 5) rfl (PopN.row ⟨6, s, ad, x, D⟩) _ HC.out Tryd.underlying41 rfl opLen ?_)
              | (refine wpList_store_row rfl 41 _ _ rfl wr.heap.size (PopN.row ⟨6, s, ad, x, D⟩).toArray rfl rfl 41 zPop (heap_alloc_last wr _) opLen rfl (pop_one _) ?_; rw [← EA.out]))
            refine (KP.out wa w3.heap.size _ NA.out ((HE.out.later (W3.out.trans (BA.out.mono W3.out.size))).sub (by decide))).mono ?_
            rintro e wy ⟨rfl, oy, hby, _⟩
            have HB2 := Kp.mk (BA.out.trans (hby w3.heap.size (Nat.le_refl _) BA.out.size))
            have HO2 := Kp.mk oy
            clear hby oy c0 c1 c2 c3 c4
            go_wp2
            go_roundw
            case rel => exact ⟨k + 1, _, by omega, by go_num, HO2, HM2, HB2⟩
            case measure => simp [intOf]; omega
          · have n6 : (kind == 6) = false := by simpa using hk6
            clear hk2 hk5 hk6
            obtain ⟨wa, ea, hba, hoa⟩ := op_local wr ⟨kind, s, ad, x, D⟩
            have EA := Kp.mk ea
            have OA := Kp.mk hoa
            have NA := Kp.mk (HO.out.later hba)
            have BA := Kp.mk (HB.out.trans (hba.mono HB.out.size))
            have SA := Kp.mk hba.size
            obtain ⟨aw, capw, rfl, hrd⟩ := HO.out.rd hn
            have RA := Kp.mk (hrd.later hba)
            have c0 := OA.out.c0
            have c1 := OA.out.c1
            have c2 := OA.out.c2
            have c3 := OA.out.c3
            have c4 := OA.out.c4
            clear ea hba hoa hrd
            go_wp2_with (first
              | (refine wpList_load_mid rfl 41 _ rfl b (off + k * 5) rfl (PopN.row ⟨kind, s, ad, x, D⟩) _ HC.out Tryd.underlying41 rfl opLen ?_)
              | (refine wpList_store_row rfl 41 _ _ rfl wr.heap.size (PopN.row ⟨kind, s, ad, x, D⟩).toArray rfl rfl 41 zPop (heap_alloc_last wr _) opLen rfl (pop_one _) ?_; rw [← EA.out]))
            have HB2 := BA
            have HO2 := NA
            have HM2 := HM
            go_roundw
            case rel => exact ⟨k + 1, Q, by omega, by go_num, HO2, HM2, HB2⟩
            case measure => simp [intOf]; omega
    · have : k = m := by omega
      subst this
      have hb : decide ((k : Int) < k) = false := by simp
      have hmem := fun i => marked_mem HM.out i
      have hL1 := diffs_filter P0 Q n
      have hM1 := dirtyL_filter Q n
      have HLlen := Kp.mk (diffs_length P0 Q n)
      have HMlen := Kp.mk (dirtyL_length Q n)
      obtain ⟨aw, capw, rfl, hrw⟩ := HO.out.rd hn
      have RW := Kp.mk hrw
      have FW := Kp.mk (F3.out.later HB.out)
      have KD := page_differ A a3 aw n n cap3 capw P0 Q wr FW.out RW.out (diffs P0 Q n) 0 (.inl ⟨rfl, rfl, rfl⟩) ((HE.out.later (W3.out.trans (HB.out.mono W3.out.size))).sub (by decide))
      rw [show errOf A 0 = .nilIface from rfl] at KD
      obtain ⟨L, hL⟩ : ∃ L, L = diffs P0 Q n := ⟨_, rfl⟩
      obtain ⟨M, hM⟩ : ∃ M, M = dirtyL Q n := ⟨_, rfl⟩
      rw [← hL] at KD hmem HLlen
      rw [← hM] at hmem HMlen
      have HLS : Kp (∀ i j, i < j → j < L.length → L.getD i 0 < L.getD j 0) := ⟨fun i j h1 h2 => by
        rw [hL, hL1] at h2 ⊢; exact filter_sorted _ n i j h1 h2⟩
      have HMS : Kp (∀ i j, i < j → j < M.length → M.getD i 0 < M.getD j 0) := ⟨fun i j h1 h2 => by
        rw [hM, hM1] at h2 ⊢; exact filter_sorted _ n i j h1 h2⟩
      have HMM := Kp.mk hmem
      have HMe := Kp.mk hM
      have KD := Kp.mk KD
      clear hmem hL1 hM1 hL hM hrw
      go_wp2_with fail
      refine KD.out.mono ?_
      rintro e w5 ⟨v5, rfl, o5, hb5⟩
      have OL5 := Kp.mk o5
      have B5 := Kp.mk (HB.out.trans (hb5.mono HB.out.size))
      have RW5 := Kp.mk (RW.out.later hb5)
      clear hb5 o5 KD
      go_wp2_with fail
      refine (page_written _ _ _ _ w5 RW5.out).mono ?_
      rintro e w6 ⟨v6, rfl, o6, hb6⟩
      rw [← HMe.out] at o6
      have OM6 := Kp.mk o6
      have OL6 := Kp.mk (OL5.out.later hb6)
      have B6 := Kp.mk (B5.out.trans (hb6.mono B5.out.size))
      have RW6 := Kp.mk (RW5.out.later hb6)
      clear hb6 o6
      go_wp2_with fail
      refine (page_written _ _ _ _ w6 (F3.out.later B6.out)).mono ?_
      rintro e w7 ⟨v7, rfl, o7, hb7⟩
      rw [HNone.out] at o7
      obtain ⟨a7, cap7, rfl, _⟩ := o7.cells
      have OM7 := Kp.mk (OM6.out.later hb7)
      have OL7 := Kp.mk (OL6.out.later hb7)
      have B7 := Kp.mk (B6.out.trans (hb7.mono B6.out.size))
      have RW7 := Kp.mk (RW6.out.later hb7)
      clear hb7 o7
      obtain ⟨aL, capL, rfl, hcL⟩ := OL7.out.cells
      obtain ⟨aM, capM, rfl, hcM⟩ := OM7.out.cells
      have CL := Kp.mk hcL
      have CM := Kp.mk hcM
      obtain ⟨lL, hlL⟩ : ∃ lL, lL = L.length := ⟨_, rfl⟩
      obtain ⟨lM, hlM⟩ : ∃ lM, lM = M.length := ⟨_, rfl⟩
      rw [← hlL] at CL HLS HLlen HMM ⊢
      rw [← hlM] at CM HMS HMlen HMM ⊢
      have hlLb : lL ≤ 1759218604441 := by have := HLlen.out; omega
      have hlMb : lM ≤ 1759218604441 := by have := HMlen.out; omega
      clear hcL hcM hlL hlM
      go_wp2
      go_loopw [17, 18] (fun jv iv wr8 => ∃ i j : Nat, i ≤ lL ∧ j ≤ lM ∧ iv = .int .i64 (i : Int) ∧ jv = .int .i64 (j : Int) ∧ Kp (∀ t u, t < j → i ≤ u → u < lL → M.getD t 0 < L.getD u 0) ∧ Kp (Drew w7 wr8)) (fun _ iv _ => lL - (intOf iv).toNat)
      case atStart => exact ⟨0, 0, by omega, by omega, rfl, rfl, ⟨fun t u h => by omega⟩, ⟨Drew.refl _⟩⟩
      case round =>
        obtain ⟨i, j, hi, hj, rfl, rfl, HJ, HD⟩ := hrel
        by_cases hil : i < lL
        · have hb1 : decide ((i : Int) < (lL : Int)) = true := decide_eq_true (by omega)
          obtain ⟨gL, haL, hcL⟩ := CL.out (by omega)
          have hcLi := hcL i hil
          obtain ⟨y, hy⟩ : ∃ y, y = L.getD i 0 := ⟨_, rfl⟩
          rw [← hy] at hcLi
          have HCL := Kp.mk hcLi
          have HY := Kp.mk hy
          subst haL
          clear hcL hcLi hy
          go_wp2
          go_loopw [17] (fun jv wr9 => ∃ j : Nat, j ≤ lM ∧ jv = .int .i64 (j : Int) ∧ Kp (∀ t u, t < j → i ≤ u → u < lL → M.getD t 0 < L.getD u 0) ∧ Kp (Drew w7 wr9)) (fun jv _ => lM - (intOf jv).toNat)
          case atStart => exact ⟨j, hj, rfl, HJ, HD⟩
          case round =>
            obtain ⟨j, hj, rfl, HJ, HD⟩ := hrel
            obtain ⟨p, hp, hpe⟩ := HMM.out i hil
            have hjp : j ≤ p := by
              rcases Nat.lt_or_ge p j with e | e
              · have := HJ.out p i e (Nat.le_refl _) hil
                omega
              · exact e
            have hjl : j < lM := by omega
            have hb2 : decide ((j : Int) < (lM : Int)) = true := decide_eq_true (by omega)
            obtain ⟨gM, haM, hcM⟩ := CM.out (by omega)
            have hcMj := hcM j hjl
            obtain ⟨x, hx⟩ : ∃ x, x = M.getD j 0 := ⟨_, rfl⟩
            rw [← hx] at hcMj
            have k1 := HD.out.below.cell (p := ⟨gM, j, none⟩) (World.block_lt_of_cell? _ ⟨gM, j, none⟩ hcMj) |>.trans hcMj
            have k2 := HD.out.below.cell (p := ⟨gL, i, none⟩) (World.block_lt_of_cell? _ ⟨gL, i, none⟩ HCL.out) |>.trans HCL.out
            have HX := Kp.mk hx
            have HPJ := Kp.mk (And.intro hp (And.intro hpe hjp))
            subst haM
            clear hcM hcMj hx hp hpe hjp
            by_cases hxy : x < y
            · have hb3 : decide ((x : Int) < (y : Int)) = true := decide_eq_true (by omega)
              have HJ2 : Kp (∀ t u, t < j + 1 → i ≤ u → u < lL → M.getD t 0 < L.getD u 0) := ⟨fun t u h1 h2 h3 => by
                rcases Nat.lt_or_ge t j with e | e
                · exact HJ.out t u e h2 h3
                · have : t = j := by omega
                  subst this
                  rw [← HX.out]
                  rcases Nat.eq_or_lt_of_le h2 with e2 | e2
                  · subst e2; rw [← HY.out]; exact hxy
                  · have := HLS.out i u e2 h3
                    rw [← HY.out] at this
                    omega⟩
              go_wp2
              go_quiet (fail)
              have HD2 := Kp.mk (HD.out.trans ⟨nq, rfl⟩)
              go_wp2
              go_roundw
              case rel => exact ⟨j + 1, by omega, by go_num, HJ2, HD2⟩
              case measure => simp [intOf]; omega
            · have hb3 : decide ((x : Int) < (y : Int)) = false := decide_eq_false (by omega)
              have hxe : x = y := by
                obtain ⟨q1, q2, q3⟩ := HPJ.out
                rcases Nat.eq_or_lt_of_le q3 with e | e
                · subst e; rw [HX.out, q2, HY.out]
                · have := HMS.out j p e q1
                  rw [← HX.out, q2, ← HY.out] at this
                  omega
              subst hxe
              have hjn : ((j : Int) == (lM : Int)) = false := by simp; omega
              have hxx : ((x : Int) != (x : Int)) = false := by simp
              have HJ2 : Kp (∀ t u, t < j → i + 1 ≤ u → u < lL → M.getD t 0 < L.getD u 0) := ⟨fun t u h1 h2 h3 => HJ.out t u h1 (by omega) h3⟩
              go_wp2
              go_quiet (fail)
              have HD2 := Kp.mk (HD.out.trans ⟨nq, rfl⟩)
              have hdq : Below wr.heap.size wr (wr.drewN nq) := Drew.below ⟨nq, rfl⟩
              have k1' := (hdq.cell (p := ⟨gM, j, none⟩) (World.block_lt_of_cell? _ ⟨gM, j, none⟩ k1)).trans k1
              have k2' := (hdq.cell (p := ⟨gL, i, none⟩) (World.block_lt_of_cell? _ ⟨gL, i, none⟩ k2)).trans k2
              obtain ⟨wq, hwq⟩ : ∃ wq, wq = wr.drewN nq := ⟨_, rfl⟩
              rw [← hwq] at HD2 k1' k2' ⊢
              clear k1 k2 hwq hdq
              go_wp2
              go_quiet (fail)
              have HD3 := Kp.mk (HD2.out.trans ⟨nq, rfl⟩)
              go_wp2
              go_roundw
              case rel => exact ⟨i + 1, j, by omega, by omega, by go_num, rfl, HJ2, HD3⟩
              case measure => simp [intOf]; omega
        · have hb1 : decide ((i : Int) < (lL : Int)) = false := decide_eq_false (by omega)
          have B8 := Kp.mk (B7.out.trans (HD.out.below.mono B7.out.size))
          have RW8 := Kp.mk (RW7.out.later HD.out.below)
          clear hi
          go_wp2_with fail
          refine (page_clean _ _ _ _ _ RW8.out).mono ?_
          rintro e w9 ⟨v9, rfl, o9, hb9⟩
          obtain ⟨a9, cap9, rfl, hr9⟩ := o9.rd hn
          have R9 := Kp.mk hr9
          have B9 := Kp.mk (B8.out.trans (hb9.mono B8.out.size))
          have RW9 := Kp.mk (RW8.out.later hb9)
          clear o9 hb9 hr9
          have HAl := Kp.mk (clean_like Q n)
          go_wp2_with fail
          refine (page_alike _ _ _ _ _ _ _ _ w9 R9.out RW9.out true ⟨fun _ => ⟨rfl, HAl.out⟩, fun _ => rfl⟩).mono ?_
          rintro e wA ⟨rfl, hbA⟩
          have BA := Kp.mk (B9.out.trans (hbA.mono B9.out.size))
          have RA := Kp.mk (R9.out.later hbA)
          clear hbA
          go_wp2_with fail
          refine (page_written _ _ _ _ wA RA.out).mono ?_
          rintro e wB ⟨vB, rfl, oB, hbB⟩
          rw [clean_none] at oB
          obtain ⟨aB, capB, rfl, _⟩ := oB.cells
          have BB := Kp.mk (W3.out.trans ((BA.out.trans (hbB.mono BA.out.size)).mono W3.out.size))
          clear hbB oB
          go_wp2
          go_ret
          exact ⟨rfl, BB.out⟩
end Go.Proofs.YtkkclkmiaenipaaDoor
