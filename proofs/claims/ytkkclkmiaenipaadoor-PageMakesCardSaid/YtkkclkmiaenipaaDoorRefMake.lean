/- The document's Make, walked. -/
import Derived.Test.YtkkclkmiaenipaaDoorPageMake
import Derived.Test.YtkkclkmiaenipaaDoorRefIn
namespace Go.Proofs.YtkkclkmiaenipaaDoor
open Go Go.RowKit
set_option linter.unusedVariables false

set_option maxRecDepth 100000 in
set_option maxHeartbeats 8000000 in
theorem ref_make (a : Option Addr) (n cap : Nat) (C : Nat → PlanV) (w : World) (h : RdK w a n cap C) (L c : Nat) (pl : Int) (hM : Made C n L c pl) :
    Calls Tryd.prog 24 #[.slice a n cap] w fun e w' => ∃ v, e = .returned (.tuple #[v, .int .i64 (c : Int), .int .i64 pl]) ∧ OwnP w' w.heap.size v L (mkP C) ∧ Below w.heap.size w w' := by
  have H0 := Kp.mk h
  have HM := Kp.mk hM
  have hn := h.bound
  have hzv := zvPage
  clear h hM
  by_cases hmany : 32 < n
  · obtain ⟨rfl, rfl, rfl⟩ := made_many HM.out hmany
    have hb : decide ((n : Int) > 32) = true := decide_eq_true (by omega)
    go_enter Tryd.func24, Tryd.ntmps24
    go_wp2
    go_ret3
    exact ⟨_, rfl, OwnP.nil _ _ _, Below.refl _ _⟩
  · have hb : decide ((n : Int) > 32) = false := decide_eq_false (by omega)
    have h32 : n ≤ 32 := by omega
    go_enter Tryd.func24, Tryd.ntmps24
    go_wp2
    go_loopw [5, 6, 8] (fun v iv _ wr => ∃ k : Nat, k ≤ n ∧ iv = .int .i64 (k : Int) ∧ Kp (OwnP wr w.heap.size v k (mkP C)) ∧ Kp (∀ i, i < k → badK (C i) = 0) ∧ Kp (Below w.heap.size w wr)) (fun _ iv _ _ => n - (intOf iv).toNat)
    case atStart => exact ⟨0, by omega, rfl, ⟨OwnP.nil _ _ _⟩, ⟨fun i hi => by omega⟩, ⟨Below.refl _ _⟩⟩
    case round =>
      obtain ⟨k, hk, rfl, HO, HG, HB⟩ := hrel
      by_cases hlt : k < n
      · have hb1 : decide ((k : Int) < n) = true := decide_eq_true (by omega)
        obtain ⟨b, off, ha, hcell⟩ := H0.out.cells (by omega)
        have hra := prange_later (hcell k hlt) HB.out
        have p0 : wr.cell? ⟨b, off + k * 2, none⟩ = some (.int .i64 (C k).rights) := hra 0 _ rfl
        have p1 : wr.cell? ⟨b, off + k * 2 + 1, none⟩ = some (.string (C k).init) := hra 1 _ rfl
        have hMB := fun hb => made_bad HM.out h32 hlt hb HG.out
        obtain ⟨q, hq⟩ : ∃ q, q = C k := ⟨_, rfl⟩
        have HQ := Kp.mk hq
        rw [← hq] at p0 p1 hMB
        obtain ⟨r, hr⟩ : ∃ r, r = q.rights := ⟨_, rfl⟩
        obtain ⟨D, hD⟩ : ∃ D, D = q.init := ⟨_, rfl⟩
        rw [← hr] at p0
        rw [← hD] at p1
        have hlow := fun (h : q.rights < 0) => badK_low h
        have hhigh := fun (h0 : ¬ q.rights < 0) (h : 7 < q.rights) => badK_high h0 h
        have hlong := fun (h0 : ¬ q.rights < 0) (h1 : ¬ 7 < q.rights) (h : 64 < q.init.size) => badK_long h0 h1 h
        have hfine := fun (h0 : ¬ q.rights < 0) (h1 : ¬ 7 < q.rights) (h : ¬ 64 < q.init.size) => badK_ok h0 h1 h
        have hmk : mkPg q = pieceP (bareP r) 0 D.size (strF D) := by rw [hr, hD]; rfl
        rw [← hr, ← hD] at hfine hlong
        rw [← hr] at hlow hhigh
        subst ha
        clear hcell hra hq hr hD
        by_cases h0 : r < 0
        · have hb2 : decide (r < 0) = true := decide_eq_true h0
          obtain ⟨rfl, hc, rfl⟩ := hMB (by rw [hlow h0]; decide)
          rw [hlow h0] at hc
          subst hc
          clear hMB hlow hhigh hlong hfine hmk
          go_wp2
          go_ret3
          exact ⟨_, rfl, OwnP.nil _ _ _, HB.out⟩
        · have hb2 : decide (r < 0) = false := decide_eq_false h0
          by_cases h1 : 7 < r
          · have hb3 : decide (r > 7) = true := decide_eq_true h1
            obtain ⟨rfl, hc, rfl⟩ := hMB (by rw [hhigh h0 h1]; decide)
            rw [hhigh h0 h1] at hc
            subst hc
            clear hMB hlow hhigh hlong hfine hmk
            go_wp2
            go_ret3
            exact ⟨_, rfl, OwnP.nil _ _ _, HB.out⟩
          · have hb3 : decide (r > 7) = false := decide_eq_false h1
            by_cases h2 : 64 < D.size
            · have hb4 : decide ((D.size : Int) > 64) = true := decide_eq_true (by omega)
              obtain ⟨rfl, hc, rfl⟩ := hMB (by rw [hlong h0 h1 h2]; decide)
              rw [hlong h0 h1 h2] at hc
              subst hc
              clear hMB hlow hhigh hlong hfine hmk
              go_wp2
              go_ret3
              exact ⟨_, rfl, OwnP.nil _ _ _, HB.out⟩
            · obtain ⟨w0, hw0⟩ : ∃ w0, w0 = wr := ⟨_, rfl⟩
              subst hw0
              have hb4 : decide ((D.size : Int) > 64) = false := decide_eq_false (by omega)
              have hs64 : D.size ≤ 64 := by omega
              have HF := Kp.mk (hfine h0 h1 h2)
              obtain ⟨wb, eb, hbb, hrb⟩ := page_local w0 (bareP r)
              have EB := Kp.mk eb
              have SB := Kp.mk hbb
              have hown := own_var hrb
              have HW0 : Kp (OwnP wb w0.heap.size (.slice (some ⟨w0.heap.size, 0, none⟩) 1 1) 1 (fun _ => pieceP (bareP r) 0 0 (strF D))) := ⟨by rw [pieceP_zero]; exact hown⟩
              have hEB := Kp.mk (pageSize (bareP r))
              have hEZ := Kp.mk (zPage_size (bareP r))
              have hEA := Kp.mk (pageAll (bareP r))
              have HMK := Kp.mk hmk
              have HA := Kp.mk (strF_at D)
              have hpl := World.block_lt_of_cell? _ ⟨b, off + k * 2 + 1, none⟩ p1
              have P1 := Kp.mk (And.intro p1 hpl)
              have P0 := Kp.mk p0
              have hpl0 : b < w0.heap.size := hpl
              have BLT := Kp.mk hpl0
              clear hMB hlow hhigh hlong hfine eb hbb hrb hown hpl hmk hpl0
              go_wp2_with (first
                | (refine build_lit rfl _ rfl (bareP r) (builtBare r) ?_)
                | (refine wpList_store_row rfl 36 _ _ rfl w0.heap.size (bareP r).row.toArray rfl rfl 36 zPage (heap_alloc_last w0 _) hEB.out hEZ.out hEA.out ?_; rw [← EB.out]))
              go_loopw [8] (fun jv w2 => ∃ j : Nat, j ≤ D.size ∧ jv = .int .i64 (j : Int) ∧ Kp (OwnP w2 w0.heap.size (.slice (some ⟨w0.heap.size, 0, none⟩) 1 1) 1 (fun _ => pieceP (bareP r) 0 j (strF D))) ∧ Kp (Below w0.heap.size w0 w2)) (fun jv _ => D.size - (intOf jv).toNat)
              case atStart => exact ⟨0, by omega, rfl, HW0, SB⟩
              case round =>
                obtain ⟨j, hj, rfl, HW, HBW⟩ := hrel
                have q1 := (HBW.out.cell (p := ⟨b, off + k * 2 + 1, none⟩) P1.out.2).trans P1.out.1
                by_cases hjl : j < D.size
                · have hb5 : decide ((j : Int) < (D.size : Int)) = true := decide_eq_true (by omega)
                  have hch := fun h => HA.out j h
                  obtain ⟨c, hc⟩ : ∃ c, c = strF D j := ⟨_, rfl⟩
                  rw [← hc] at hch
                  have k1 := HW.out.cell 0 (j + 2) (by decide) (by omega)
                  rw [PageV.row_data _ _ (by omega), Nat.zero_mul, Nat.zero_add, Nat.add_comm j 2] at k1
                  have k2 := HW.out.frozen (2 + j)
                  have ho := HW.out.stored 0 (j + 2) (by decide) (by omega) (pieceP (bareP r) 0 (j + 1) (strF D)) (.int .u8 (c.toNat : Int)) (by rw [hc, pieceP_more, Nat.zero_add])
                  rw [Nat.zero_mul, Nat.zero_add, Nat.add_comm j 2] at ho
                  obtain ⟨y, hy⟩ : ∃ y : BitVec 8, y = (pieceP (bareP r) 0 j (strF D)).data j := ⟨_, rfl⟩
                  rw [← hy] at k1
                  have HW2 : Kp (OwnP (wr.setCell ⟨w0.heap.size, 2 + j, none⟩ (.int .u8 (c.toNat : Int))) w0.heap.size (.slice (some ⟨w0.heap.size, 0, none⟩) 1 1) 1 (fun _ => pieceP (bareP r) 0 (j + 1) (strF D))) := ⟨ho.congr (fun i hi => by rw [show i = 0 by omega, upd_at])⟩
                  have HBW2 := Kp.mk (HBW.out.setCell (p := ⟨w0.heap.size, 2 + j, none⟩) (Nat.le_refl _) (.int .u8 (c.toNat : Int)))
                  clear hc hy ho
                  go_wp2
                  go_roundw
                  case rel => exact ⟨j + 1, by omega, by go_num, HW2, HBW2⟩
                  case measure => simp [intOf]; omega
                · have : j = D.size := by omega
                  subst this
                  have hb5 : decide ((D.size : Int) < (D.size : Int)) = false := by simp
                  have hr3 := HW.out.range1
                  rw [← HMK.out] at hr3
                  have R3 := Kp.mk hr3
                  have BC := Kp.mk (HB.out.trans (HBW.out.mono HB.out.size))
                  have HO3 := Kp.mk (HO.out.later HBW.out)
                  have HMKR := Kp.mk (pageLen (mkPg q))
                  have HSZ := Kp.mk (rowSize (mkPg q))
                  have HONE := Kp.mk ((mkPg q).row_one)
                  obtain ⟨wd, hwd⟩ : ∃ wd, wd = wr.alloc (.cells (mkPg q).row.toArray 36) := ⟨_, rfl⟩
                  have HAd : Kp (Below wr.heap.size wr wd) := ⟨by rw [hwd]; exact (Below.refl _ _).alloc (Nat.le_refl _) _⟩
                  have HX : Kp (∀ j u, (mkPg q).row[j]? = some u → wd.cell? ((⟨wr.heap.size, 0, none⟩ : Addr).add j) = some u) := ⟨fun j u hu => by
                    rw [Addr.add_mid, Nat.zero_add, hwd, World.cell?_alloc_new]
                    simpa using hu⟩
                  have WD := Kp.mk hwd
                  have HOd := Kp.mk (HO3.out.later HAd.out)
                  have HLn : Kp ((mkPg q).row.length = 66) := ⟨PageV.row_length _⟩
                  clear hwd hr3 hj
                  go_wp2_with (first
                    | (refine wpList_load_mid rfl 36 _ rfl w0.heap.size 0 rfl (mkPg q).row _ R3.out Tryd.underlying36 rfl HMKR.out ?_)
                    | (refine build_page rfl _ rfl (mkPg q).row.toArray rfl HSZ.out ?_; rw [← WD.out])
                    | (refine append_pages rfl _ _ rfl w.heap.size _ k _ rfl HOd.out ⟨wr.heap.size, 0, none⟩ 1 1 (mkPg q).row rfl (by rw [HLn.out]) HX.out HONE.out (by omega) (Nat.le_trans BC.out.size HAd.out.size) ?_; rintro v' w5 ho5 hg5 _))
                  have HO5 : Kp (OwnP w5 w.heap.size v' (k + 1) (mkP C)) := ⟨by rw [HQ.out] at ho5; exact ho5⟩
                  have hB3 := BC.out.trans (HAd.out.mono BC.out.size)
                  have HG5 := Kp.mk (hB3.grown hg5 hB3.size (fun j hj => own_base66 HOd.out hj))
                  have HGG : Kp (∀ i, i < k + 1 → badK (C i) = 0) := ⟨fun i hi => by
                    rcases Nat.lt_or_ge i k with e | e
                    · exact HG.out i e
                    · have : i = k := by omega
                      subst this
                      rw [← HQ.out]; exact HF.out⟩
                  clear ho5 hg5 hB3
                  go_roundw
                  case rel => exact ⟨k + 1, by omega, by go_num, HO5, HGG, HG5⟩
                  case measure => simp [intOf]; omega
      · have : k = n := by omega
        subst this
        obtain ⟨rfl, rfl, rfl⟩ := made_good HM.out h32 HG.out
        have hb1 : decide ((L : Int) < L) = false := by simp
        go_wp2
        go_ret3
        exact ⟨_, rfl, HO.out, HB.out⟩
end Go.Proofs.YtkkclkmiaenipaaDoor
