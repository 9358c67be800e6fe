/- The program's Make, walked. -/
import Derived.Test.YtkkclkmiaenipaaDoorPlanBase
import Derived.Test.YtkkclkmiaenipaaDoorPageCompares
import Derived.Deep.RegionLaw
namespace Go.Proofs.YtkkclkmiaenipaaDoor
open Go Go.RowKit
set_option linter.unusedVariables false

theorem made_many {C : Nat → PlanV} {n L c : Nat} {pl : Int} (h : Made C n L c pl) (hn : 32 < n) : L = 0 ∧ c = 11 ∧ pl = -1 := by
  cases h with
  | many _ => exact ⟨rfl, rfl, rfl⟩
  | bad k c h' _ _ _ _ => omega
  | good h' _ => omega
theorem made_bad {C : Nat → PlanV} {n L c k : Nat} {pl : Int} (h : Made C n L c pl) (hn : n ≤ 32) (hk : k < n) (hb : badK (C k) ≠ 0) (hg : ∀ i, i < k → badK (C i) = 0) : L = 0 ∧ c = badK (C k) ∧ pl = (k : Int) := by
  cases h with
  | many _ => omega
  | bad k' _ h' hk' hc' h0 hb' =>
    have : k' = k := by
      rcases Nat.lt_trichotomy k' k with e | e | e
      · exact absurd (hg k' e) (by rw [hc']; exact h0)
      · exact e
      · exact absurd (hb' k e) hb
    subst this
    exact ⟨rfl, hc'.symm, rfl⟩
  | good h' hb' => exact absurd (hb' k hk) hb
theorem made_good {C : Nat → PlanV} {n L c : Nat} {pl : Int} (h : Made C n L c pl) (hn : n ≤ 32) (hg : ∀ i, i < n → badK (C i) = 0) : L = n ∧ c = 0 ∧ pl = -1 := by
  cases h with
  | many _ => omega
  | bad k' _ h' hk' hc' h0 hb' => exact absurd (hg k' hk') (by rw [hc']; exact h0)
  | good h' hb' => exact ⟨rfl, rfl, rfl⟩
noncomputable def zPlan : Array Value := #[.int .i64 0, .string ⟨#[]⟩]
theorem zvPlan (w : World) : (zeroValue 58).run Tryd.prog w = .ok (.agg zPlan) w := by kernel_rfl
theorem planLen (p : PlanV) : (Tryd.prog.info? 58).map (·.size) = some p.row.length := by
  have h : (Tryd.prog.info? 58).map (·.size) = some 2 := by kernel_rfl
  exact h
theorem plan_one (p : PlanV) : p.row.toArray.all (·.oneCell') = true := by simp [PlanV.row, Value.oneCell']
theorem plan_local (wr : World) (p : PlanV) : ∃ wa, wa = (wr.alloc (.cells zPlan 58)).setRow wr.heap.size p.row.toArray ∧ Below wr.heap.size wr wa ∧ wa.rangeAt wr.heap.size 0 p.row := by
  refine ⟨_, rfl, below_setRow ((Below.refl _ _).alloc (Nat.le_refl _) _) (Nat.le_refl _) _, ?_⟩
  intro j u hu
  have h := setRow_heap (wr.alloc (.cells zPlan 58)) wr.heap.size zPlan p.row.toArray 58 (0, 0) (heap_alloc_last wr _)
  rw [Nat.zero_add]
  exact cell_of_row _ wr.heap.size j _ _ _ (by simpa using h) |>.trans (by simpa using hu)
theorem builtBare (r : Int) : Tryd.prog.built 36 [(0, .int .i64 r)] = some (bareP r).row.toArray := by kernel_rfl
theorem slice_whole (b o : Nat) (w : World) : (Instr.sliceAt 34 (.pointer (some ⟨b, o, none⟩)) none none none).run Tryd.prog w = .ok (.slice (some ⟨b, o, none⟩) 64 64) w := by
  rw [run_sliceAt_array_all w 34 ⟨b, o, none⟩ (by kernel_rfl)]
  have he : Tryd.prog.elem 34 = 5 := by kernel_rfl
  rw [he, arrayLenData]
  cases hi : Tryd.prog.info? 5 with
  | none => exact absurd sizeU8 (by rw [hi]; simp)
  | some i => simp [sizeOf, typeInfo, hi, slicedAt, Addr.add]
/-- A place told. -/
theorem at_new (wa : World) (k : Int) (a : Addr) : ∃ w', w' = (wa.alloc (.cells #[.int .i64 k, errv a] 87)).drew ∧ AtAt w' wa.heap.size k a ∧ Below wa.heap.size wa w' := by
  have h1 : Below wa.heap.size wa (wa.alloc (.cells #[.int .i64 k, errv a] 87)) := (Below.refl _ _).alloc (Nat.le_refl _) _
  have h2 := Drew.once (wa.alloc (.cells #[.int .i64 k, errv a] 87))
  have h3 : AtAt (wa.alloc (.cells #[.int .i64 k, errv a] 87)) wa.heap.size k a := ⟨by rw [World.cell?_alloc_new]; rfl, by rw [World.cell?_alloc_new]; rfl⟩
  exact ⟨_, rfl, h3.later h2.below, h1.trans (h2.below.mono h1.size)⟩
set_option maxRecDepth 100000 in
set_option maxHeartbeats 8000000 in
theorem page_make (A : Nat → Addr) (a : Option Addr) (n cap : Nat) (C : Nat → PlanV) (w : World) (h : RdK w a n cap C) (L c : Nat) (pl : Int) (hM : Made C n L c pl) (hE : Errs w [4, 5, 11] A) :
    Calls Tryd.prog 23 #[.slice a n cap] w fun e w' => ∃ v ev, e = .returned (.tuple #[v, ev]) ∧ OwnP w' w.heap.size v L (mkP C) ∧ ErrP w' A c pl ev ∧ Below w.heap.size w w' := by
  have H0 := Kp.mk h
  have HM := Kp.mk hM
  have HE := Kp.mk hE
  have hn := h.bound
  have hzp := zvPlan
  have hzv := zvPage
  clear h hM hE
  by_cases hmany : 32 < n
  · obtain ⟨rfl, rfl, rfl⟩ := made_many HM.out hmany
    have hb : decide ((n : Int) > 32) = true := decide_eq_true (by omega)
    have hc : w.cell? ⟨2, 0, none⟩ = some (errv (A 11)) := HE.out.cell 11 (by decide)
    go_enter Tryd.func23, Tryd.ntmps23
    go_wp2
    go_quiet (fail)
    go_wp2
    go_ret2
    exact ⟨_, _, rfl, OwnP.nil _ _ _, .inr (.inl ⟨by decide, by decide, rfl, rfl⟩), Drew.below ⟨nq, rfl⟩⟩
  · have hb : decide ((n : Int) > 32) = false := decide_eq_false (by omega)
    have h32 : n ≤ 32 := by omega
    go_enter Tryd.func23, Tryd.ntmps23
    go_wp2
    go_loopw [4, 5, 14] (fun v _ iv wr => ∃ k : Nat, k ≤ n ∧ iv = .int .i64 (k : Int) ∧ Kp (OwnP wr w.heap.size v k (mkP C)) ∧ Kp (∀ i, i < k → badK (C i) = 0) ∧ Kp (Below w.heap.size w wr)) (fun _ _ iv _ => n - (intOf iv).toNat)
    case atStart => exact ⟨0, by omega, rfl, ⟨OwnP.nil _ _ _⟩, ⟨fun i hi => by omega⟩, ⟨Below.refl _ _⟩⟩
    case round =>
      obtain ⟨k, hk, rfl, HO, HG, HB⟩ := hrel
      by_cases hlt : k < n
      · have hb1 : decide ((k : Int) < n) = true := decide_eq_true (by omega)
        obtain ⟨b, off, ha, hcell⟩ := H0.out.cells (by omega)
        have HC := Kp.mk (prange_later (hcell k hlt) HB.out)
        have HPL := Kp.mk (planLen (C k))
        have HP1 := Kp.mk (plan_one (C k))
        have HZS : Kp (zPlan.size = (C k).row.toArray.size) := ⟨rfl⟩
        obtain ⟨wa, ea, hba, hra⟩ := plan_local wr (C k)
        have EA := Kp.mk ea
        have BA := Kp.mk (HB.out.trans (hba.mono HB.out.size))
        have RA := Kp.mk hra
        have SA := Kp.mk hba
        have p0 : wa.cell? ⟨wr.heap.size, 0, none⟩ = some (.int .i64 (C k).rights) := hra 0 _ rfl
        have p1 : wa.cell? ⟨wr.heap.size, 1, none⟩ = some (.string (C k).init) := hra 1 _ rfl
        have hMB := fun hb => made_bad HM.out h32 hlt hb HG.out
        obtain ⟨q, hq⟩ : ∃ q, q = C k := ⟨_, rfl⟩
        have HQ := Kp.mk hq
        rw [← hq] at HC HPL HP1 HZS EA RA p0 p1 hMB
        obtain ⟨r, hr⟩ : ∃ r, r = q.rights := ⟨_, rfl⟩
        obtain ⟨D, hD⟩ : ∃ D, D = q.init := ⟨_, rfl⟩
        rw [← hr] at p0
        rw [← hD] at p1
        have hlow := fun (h : q.rights < 0) => badK_low h
        have hhigh := fun (h0 : ¬ q.rights < 0) (h : 7 < q.rights) => badK_high h0 h
        have hlong := fun (h0 : ¬ q.rights < 0) (h1 : ¬ 7 < q.rights) (h : 64 < q.init.size) => badK_long h0 h1 h
        have hfine := fun (h0 : ¬ q.rights < 0) (h1 : ¬ 7 < q.rights) (h : ¬ 64 < q.init.size) => badK_ok h0 h1 h
        have hmk : mkPg q = pieceP (bareP r) 0 D.size (strF D) := by rw [hr, hD]; rfl
        rw [← hr, ← hD] at hfine hlong
        rw [← hr] at hlow hhigh
        have HRW := Kp.mk (And.intro hr hD)
        obtain ⟨row, hrow⟩ : ∃ row, row = q.row := ⟨_, rfl⟩
        rw [← hrow] at HC HPL HP1 HZS EA
        subst ha
        clear hcell ea hba hra hq hr hD hrow
        by_cases h0 : r < 0
        · have hb2 : decide (r < 0) = true := decide_eq_true h0
          obtain ⟨rfl, hc, rfl⟩ := hMB (by rw [hlow h0]; decide)
          rw [hlow h0] at hc
          subst hc
          have hc : wa.cell? ⟨3, 0, none⟩ = some (errv (A 4)) := (HE.out.later BA.out).cell 4 (by decide)
          have HAN := Kp.mk (at_new wa (k : Int) (A 4))
          clear hMB hlow hhigh hlong hfine hmk
          go_wp2_with (first
            | (refine wpList_load_mid rfl 58 _ rfl b (off + k * 2) rfl row _ HC.out Tryd.underlying58 rfl HPL.out ?_)
            | (refine wpList_store_row rfl 58 _ _ rfl wr.heap.size row.toArray rfl rfl 58 zPlan (heap_alloc_last wr _) HPL.out HZS.out HP1.out ?_; rw [← EA.out]))
          go_region
          all_goals (
            obtain ⟨w', hw', hat, hbb⟩ := HAN.out
            rw [← hw']
            have HAt := Kp.mk hat
            have HBb := Kp.mk (BA.out.trans (hbb.mono BA.out.size))
            clear hw' hat hbb HAN
            go_wp2
            go_ret2
            exact ⟨_, _, rfl, OwnP.nil _ _ _, .inr (.inr ⟨by decide, by decide, _, rfl, HAt.out⟩), HBb.out⟩)
        · have hb2 : decide (r < 0) = false := decide_eq_false h0
          by_cases h1 : 7 < r
          · have hb3 : decide (r > 7) = true := decide_eq_true h1
            obtain ⟨rfl, hc, rfl⟩ := hMB (by rw [hhigh h0 h1]; decide)
            rw [hhigh h0 h1] at hc
            subst hc
            have hc : wa.cell? ⟨3, 0, none⟩ = some (errv (A 4)) := (HE.out.later BA.out).cell 4 (by decide)
            have HAN := Kp.mk (at_new wa (k : Int) (A 4))
            clear hMB hlow hhigh hlong hfine hmk
            go_wp2_with (first
              | (refine wpList_load_mid rfl 58 _ rfl b (off + k * 2) rfl row _ HC.out Tryd.underlying58 rfl HPL.out ?_)
              | (refine wpList_store_row rfl 58 _ _ rfl wr.heap.size row.toArray rfl rfl 58 zPlan (heap_alloc_last wr _) HPL.out HZS.out HP1.out ?_; rw [← EA.out]))
            go_region
            all_goals (
              obtain ⟨w', hw', hat, hbb⟩ := HAN.out
              rw [← hw']
              have HAt := Kp.mk hat
              have HBb := Kp.mk (BA.out.trans (hbb.mono BA.out.size))
              clear hw' hat hbb HAN
              go_wp2
              go_ret2
              exact ⟨_, _, rfl, OwnP.nil _ _ _, .inr (.inr ⟨by decide, by decide, _, rfl, HAt.out⟩), HBb.out⟩)
          · have hb3 : decide (r > 7) = false := decide_eq_false h1
            by_cases h2 : 64 < D.size
            · have hb4 : decide ((D.size : Int) > 64) = true := decide_eq_true (by omega)
              obtain ⟨rfl, hc, rfl⟩ := hMB (by rw [hlong h0 h1 h2]; decide)
              rw [hlong h0 h1 h2] at hc
              subst hc
              have hc : wa.cell? ⟨1, 0, none⟩ = some (errv (A 5)) := (HE.out.later BA.out).cell 5 (by decide)
              have HAN := Kp.mk (at_new wa (k : Int) (A 5))
              clear hMB hlow hhigh hlong hfine hmk
              go_wp2_with (first
                | (refine wpList_load_mid rfl 58 _ rfl b (off + k * 2) rfl row _ HC.out Tryd.underlying58 rfl HPL.out ?_)
                | (refine wpList_store_row rfl 58 _ _ rfl wr.heap.size row.toArray rfl rfl 58 zPlan (heap_alloc_last wr _) HPL.out HZS.out HP1.out ?_; rw [← EA.out]))
              go_region
              all_goals (
                obtain ⟨w', hw', hat, hbb⟩ := HAN.out
                rw [← hw']
                have HAt := Kp.mk hat
                have HBb := Kp.mk (BA.out.trans (hbb.mono BA.out.size))
                clear hw' hat hbb HAN
                go_wp2
                go_ret2
                exact ⟨_, _, rfl, OwnP.nil _ _ _, .inr (.inr ⟨by decide, by decide, _, rfl, HAt.out⟩), HBb.out⟩)
            · have hb4 : decide ((D.size : Int) > 64) = false := decide_eq_false (by omega)
              have hs64 : D.size ≤ 64 := by omega
              have HF := Kp.mk (hfine h0 h1 h2)
              obtain ⟨wb, eb, hbb, hrb⟩ := page_local wa (bareP r)
              have EB := Kp.mk eb
              have BB := Kp.mk (BA.out.trans (hbb.mono BA.out.size))
              have SB := Kp.mk (SA.out.trans (hbb.mono SA.out.size))
              have sA : wr.heap.size < wa.heap.size := World.block_lt_of_cell? wa ⟨wr.heap.size, 0, none⟩ p0
              have p1b : wb.cell? ⟨wr.heap.size, 1, none⟩ = some (.string D) := (hbb.cell (p := ⟨wr.heap.size, 1, none⟩) sA).trans p1
              have hown := own_var hrb
              obtain ⟨ho3, ht3⟩ := OwnP.pieces (hown.later (Drew.once wb).below) 0 0 (strF D) (by decide) D.size (by omega)
              rw [← strF_take D D.size (Nat.le_refl _), List.take_of_length_le (by simp), show 0 * 66 + 2 + 0 = 2 from rfl] at ho3 ht3
              obtain ⟨wc, hwc⟩ : ∃ wc, wc = wb.drew.setCells wa.heap.size 2 (D.data.toList.map fun x => Value.int .u8 (x.toNat : Int)) := ⟨_, rfl⟩
              have hcc : ∀ j, j < D.size → (wb.drew.cell? ⟨wa.heap.size, 2 + j, none⟩).isSome = true := fun j hj => by
                have := (hown.later (Drew.once wb).below).cell 0 (j + 2) (by decide) (by omega)
                rw [PageV.row_data _ _ (by omega), Nat.zero_mul, Nat.zero_add, Nat.add_comm] at this
                rw [this]; rfl
              have hcf : ∀ j, j < D.size → wb.drew.frozen? ⟨wa.heap.size, 2 + j, none⟩ = false := fun j hj => (hown.later (Drew.once wb).below).frozen _
              rw [← hwc] at ho3 ht3
              have hr3 := ho3.range1
              rw [upd_at, ← hmk] at hr3
              have R3 := Kp.mk hr3
              have WC := Kp.mk hwc
              have sBa : wa.heap.size < wb.heap.size := (Array.getElem?_eq_some_iff.1 hrb).1
              have hbc : Below wr.heap.size wr wc := SB.out.trans (((Drew.once wb).below.mono SB.out.size).trans (ht3.below wr.heap.size (Nat.le_of_lt sA) (Nat.le_trans SB.out.size (Drew.once wb).below.size)))
              have BC := Kp.mk (HB.out.trans (hbc.mono HB.out.size))
              have HO3 := Kp.mk (HO.out.later hbc)
              have HCC := Kp.mk (And.intro hcc hcf)
              have HMKR := Kp.mk (pageLen (mkPg q))
              have HSZ := Kp.mk (rowSize (mkPg q))
              have HONE := Kp.mk ((mkPg q).row_one)
              obtain ⟨wd, hwd⟩ : ∃ wd, wd = wc.alloc (.cells (mkPg q).row.toArray 36) := ⟨_, rfl⟩
              have HAd : Kp (Below wc.heap.size wc wd) := ⟨by rw [hwd]; exact (Below.refl _ _).alloc (Nat.le_refl _) _⟩
              have HX : Kp (∀ j u, (mkPg q).row[j]? = some u → wd.cell? ((⟨wc.heap.size, 0, none⟩ : Addr).add j) = some u) := ⟨fun j u hu => by
                rw [Addr.add_mid, Nat.zero_add, hwd, World.cell?_alloc_new]
                simpa using hu⟩
              have WD := Kp.mk hwd
              have HOd := Kp.mk (HO3.out.later HAd.out)
              have HLn : Kp ((mkPg q).row.length = 66) := ⟨PageV.row_length _⟩
              have hsw := slice_whole wa.heap.size 2
              have hEB := Kp.mk (pageSize (bareP r))
              have hEZ := Kp.mk (zPage_size (bareP r))
              have hEA := Kp.mk (pageAll (bareP r))
              clear hMB hlow hhigh hlong hfine eb hbb hrb hown ho3 ht3 hwc hcc hcf hr3 hbc hwd hmk sA sBa
              go_wp2_with (first
                | (refine wpList_load_mid rfl 58 _ rfl b (off + k * 2) rfl row _ HC.out Tryd.underlying58 rfl HPL.out ?_)
                | (refine wpList_store_row rfl 58 _ _ rfl wr.heap.size row.toArray rfl rfl 58 zPlan (heap_alloc_last wr _) HPL.out HZS.out HP1.out ?_; rw [← EA.out])
                | (refine build_lit rfl _ rfl (bareP r) (builtBare r) ?_)
                | (refine wpList_store_row rfl 36 _ _ rfl wa.heap.size (bareP r).row.toArray rfl rfl 36 zPage (heap_alloc_last wa _) hEB.out hEZ.out hEA.out ?_; rw [← EB.out]))
              go_region_law (refine step_copy_string rfl (.tmp 45) (.tmp 47) 80 9 rfl 5 Tryd.underlying80 sizeRunU8 wa.heap.size 2 64 64 (by simp [Act.eval, Act.put]) D (by simp [Act.eval, Act.put]) hs64 HCC.out.1 HCC.out.2 ?_)
              all_goals (
                rw [← WC.out]
                go_wp2_with (first
                  | (refine wpList_load_mid rfl 36 _ rfl wa.heap.size 0 rfl (mkPg q).row _ R3.out Tryd.underlying36 rfl HMKR.out ?_)
                  | (refine build_page rfl _ rfl (mkPg q).row.toArray rfl HSZ.out ?_; rw [← WD.out])
                  | (refine append_pages rfl _ _ rfl w.heap.size _ k _ rfl HOd.out ⟨wc.heap.size, 0, none⟩ 1 1 (mkPg q).row rfl (by rw [HLn.out]) HX.out HONE.out (by omega) (Nat.le_trans BC.out.size HAd.out.size) ?_; rintro v' w5 ho5 hg5 _))
                have HO5 : Kp (OwnP w5 w.heap.size v' (k + 1) (mkP C)) := ⟨by rw [HQ.out] at ho5; exact ho5⟩
                have hB3 := BC.out.trans (HAd.out.mono BC.out.size)
                have HG5 := Kp.mk (hB3.grown hg5 hB3.size (fun j hj => own_base66 HOd.out hj))
                have HGG : Kp (∀ i, i < k + 1 → badK (C i) = 0) := ⟨fun i hi => by
                  rcases Nat.lt_or_ge i k with e | e
                  · exact HG.out i e
                  · have : i = k := by omega
                    subst this
                    rw [← HQ.out]; exact HF.out⟩
                clear ho5 hg5 hB3
                go_roundw
                case rel => exact ⟨k + 1, by omega, by go_num, HO5, HGG, HG5⟩
                case measure => simp [intOf]; omega)
      · have : k = n := by omega
        subst this
        obtain ⟨rfl, rfl, rfl⟩ := made_good HM.out h32 HG.out
        have hb1 : decide ((L : Int) < L) = false := by simp
        go_wp2
        go_ret2
        exact ⟨_, _, rfl, HO.out, .inl ⟨rfl, rfl, rfl⟩, HB.out⟩
end Go.Proofs.YtkkclkmiaenipaaDoor
