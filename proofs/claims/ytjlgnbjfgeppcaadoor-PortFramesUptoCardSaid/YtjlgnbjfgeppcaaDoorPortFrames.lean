/- PortFrames, walked. -/
import Derived.Test.YtjlgnbjfgeppcaaDoorArrTwo
import Derived.Deep.DeepMust
namespace Go.Proofs.YtjlgnbjfgeppcaaDoor
open Go Go.RowKit
set_option linter.unusedVariables false
attribute [local go_sem ↓] Go.wp_at_zero Go.wp_at_succ

/-- A cell is set to what it holds. -/
theorem setCell_id {w : World} {b : Nat} {cs : Array Value} {T : TypeId} (h : Blk w b cs T) (i : Nat) (v : Value) (hv : cs[i]? = some v) : w.setCell ⟨b, i, none⟩ v = w := by
  have e : (w.setCell ⟨b, i, none⟩ v).heap = w.heap := by
    apply Array.ext_getElem?
    intro k
    by_cases hk : k = b
    · subst hk
      have h1 := h.set i v
      unfold Blk at h1 h
      rw [h1, h]
      have : cs.setIfInBounds i v = cs := by
        apply Array.ext_getElem?
        intro j
        rw [Array.getElem?_setIfInBounds]
        split
        · rename_i hj; subst hj; split
          · exact hv.symm
          · rename_i hlt
            rw [Array.getElem?_eq_none (by omega)]
        · rfl
      rw [this]
    · exact heap_setCell_other _ ⟨b, i, none⟩ k _ hk
  have e2 : w.setCell ⟨b, i, none⟩ v = { w with heap := (w.setCell ⟨b, i, none⟩ v).heap } := rfl
  rw [e2, e]
theorem rows_len (P : Nat → PortP) : ∀ i, (P i).row.length = 4 := fun i => rfl
theorem rows_len2 (C : Nat → MsgV) : ∀ i, (C i).row.length = 2 := fun i => rfl
set_option maxRecDepth 100000 in
set_option maxHeartbeats 16000000 in
theorem law_PortFrames (A : Nat → Addr) (k s d r : Int) (a : Option Addr) (n cap : Nat) (g : Int) (D : ByteArray) (pa : Option Addr) (pn pc : Nat) (P : Nat → PortP) (qa : Option Addr) (qn qc : Nat) (V : Nat → PortV) (ma : Option Addr) (mn mc : Nat) (C : Nat → MsgV) (w : World)
    (h1 : RdPl w pa pn pc P) (h2 : RdPo w qa qn qc V) (h3 : RdRows w 2 ma mn mc (fun i => (C i).row)) (hs : ∀ i, i < mn → (C i).data.size < 9223372036854775808) (hM : 8 * pn ≤ 5864062014805) (hE : Errs w allCodes A) (hT : TypeVar w) :
    Calls Tryd.prog 7 #[.agg (caseA k s d r a n cap g D pa pn pc qa qn qc ma mn mc)] w fun e w' => e = .returned (.bool true) ∧ Below w.heap.size w w' := by
  obtain ⟨c, pl, hA⟩ := allE_ex P V pn qn
  have hpn := h1.bound
  have hmn := h3.bound
  obtain ⟨w1, e1⟩ : ∃ w1, w1 = w.alloc (.cells (caseA k s d r a n cap g D pa pn pc qa qn qc ma mn mc) 45) := ⟨_, rfl⟩
  have b1 : Below w.heap.size w w1 := by rw [e1]; exact below_alloc _ _
  have k1 : Blk w1 w.heap.size (caseA k s d r a n cap g D pa pn pc qa qn qc ma mn mc) 45 := by rw [e1]; exact Blk.new _ _ _
  have E1 := Kp.mk e1
  have B1 := Kp.mk b1
  have K1 := Kp.mk k1
  have HE := Kp.mk hE
  have HT := Kp.mk hT
  have H1 := Kp.mk h1
  have H2 := Kp.mk h2
  have H3 := Kp.mk h3
  have HS := Kp.mk hs
  have HA := Kp.mk hA
  have HMX := Kp.mk hM
  have HF := Kp.mk (law_fixed A w1 (hE.later b1))
  clear h1 h2 h3 hs hM hE hT e1 b1 k1 hA
  go_enter Tryd.func7, Tryd.ntmps7
  go_wp2_with fail
  rw [← E1.out]
  refine HF.out.mono ?_
  rintro e w2 ⟨rfl, hb⟩
  have B2 := Kp.mk (B1.out.trans (hb.mono B1.out.size))
  have K2 := Kp.mk (K1.out.later hb)
  clear hb HF B1 K1 E1
  have L1 := Kp.mk (H1.out.later B2.out)
  have L2 := Kp.mk (H2.out.later B2.out)
  have L3 := Kp.mk (H3.out.later B2.out)
  have LE := Kp.mk (HE.out.later B2.out)
  have LT := Kp.mk (HT.out.later B2.out)
  clear H1 H2 H3 HE HT
  obtain ⟨nn, hnn⟩ : ∃ x, x = cutN c pn := ⟨_, rfl⟩
  obtain ⟨nl, hnl⟩ : ∃ x, x = cutN c (arrD P pn (agedS P V) C mn).length := ⟨_, rfl⟩
  obtain ⟨SS, hSS⟩ : ∃ x, x = arrS P pn (agedS P V) C mn := ⟨_, rfl⟩
  obtain ⟨RR, hRR⟩ : ∃ x : Nat → RepV, x = fun i => (arrD P pn (agedS P V) C mn).getD i zRep := ⟨_, rfl⟩
  have C41 : Kp (∀ v, Below w2.heap.size w2 v → Calls Tryd.prog 41 #[.slice qa qn qc] v fun e w' => ∃ oa oc U, e = .returned (.slice oa qn oc) ∧ Kp (RdPo w' oa qn oc U ∧ ∀ i, (U i).l = (V i).l ∧ (U i).g = (V i).g) ∧ Below v.heap.size v w') := ⟨fun v hv => (law_copiedAll2 qa qn qc V v (L2.out.later hv)).mono fun e w' ⟨oa, oc, U, h1, h2, h3, h4⟩ => ⟨oa, oc, U, h1, ⟨h2, h3⟩, h4⟩⟩
  have CP : Kp (∀ v a3 c3 oa oc U a5 c5, Below w2.heap.size w2 v → RdRows v 4 a3 pn c3 (fun i => (P i).row) → RdPo v oa qn oc U → (∀ i, (U i).l = (V i).l ∧ (U i).g = (V i).g) → RdRows v 2 a5 mn c5 (fun i => (C i).row) → Calls Tryd.prog 40 #[.slice a3 pn c3, .slice oa qn oc, .slice a5 mn c5] v fun e w' => ∃ va ca da dc U1 ev, e = .returned (.tuple #[.slice va nn ca, .slice da nl dc, ev]) ∧ Kp (ErrP w' A c pl ev) ∧ Kp (RdPo w' va nn ca U1 ∧ (∀ j, j < nn → (U1 j).l = (SS j).l ∧ (U1 j).g = (SS j).g) ∧ RdRows w' 4 da nl dc (fun i => (RR i).row)) ∧ Below v.heap.size v w') := ⟨fun v a3 c3 oa oc U a5 c5 hv p1 p2 p3 p4 => (port_arrive_two A a3 pn c3 P oa qn oc U a5 mn c5 C v (RdPl.of_rows p1 hpn) p2 c pl (HA.out.same p3) p4 HS.out (LE.out.later hv)).mono fun e w' ⟨v1, d1, ev, h1, h2, h3, h4⟩ => by
    rw [agedS_same p3, ← hnn, ← hnl, ← hSS] at h3
    obtain ⟨aa, ac, da, dc, U1, rfl, g2, g3, rfl, g5⟩ := h3
    exact ⟨aa, ac, da, dc, U1, ev, h1, ⟨h2⟩, ⟨g2, g3, by rw [hRR]; exact g5⟩, h4⟩⟩
  have CR : Kp (∀ v, Below w2.heap.size w2 v → Calls Tryd.prog 42 #[.slice pa pn pc, .slice qa qn qc, .slice ma mn mc] v fun e w' => ∃ va ca da dc U1, e = .returned (.tuple #[.slice va nn ca, .slice da nl dc, .agg (errA c pl)]) ∧ Kp (RdPo w' va nn ca U1 ∧ (∀ j, j < nn → (U1 j).l = (SS j).l ∧ (U1 j).g = (SS j).g) ∧ RdRows w' 4 da nl dc (fun i => (RR i).row)) ∧ Below v.heap.size v w') := ⟨fun v hv => (ref_arrive_two pa pn pc P qa qn qc V ma mn mc C v (L1.out.later hv) (L2.out.later hv) c pl HA.out (L3.out.later hv) HS.out).mono fun e w' ⟨v1, d1, h1, h3, h4⟩ => by
    rw [← hnn, ← hnl, ← hSS] at h3
    obtain ⟨aa, ac, da, dc, U1, rfl, g2, g3, rfl, g5⟩ := h3
    exact ⟨aa, ac, da, dc, U1, h1, ⟨g2, g3, by rw [hRR]; exact g5⟩, h4⟩⟩
  have HNN := Kp.mk hnn
  have HNS := Kp.mk (And.intro hnl (And.intro hSS hRR))
  clear hnn hnl hSS hRR
  have SQ : Kp (∀ v, Below w2.heap.size w2 v → v.cell? ⟨w.heap.size, 7, none⟩ = some (.slice pa pn pc) ∧ v.cell? ⟨w.heap.size, 8, none⟩ = some (.slice qa qn qc) ∧ v.cell? ⟨w.heap.size, 9, none⟩ = some (.slice ma mn mc)) := ⟨fun v hv => ⟨(K2.out.later hv).cell 7 _ rfl, (K2.out.later hv).cell 8 _ rfl, (K2.out.later hv).cell 9 _ rfl⟩⟩
  obtain ⟨s7, s8, s9⟩ := SQ.out w2 (Below.refl _ _)
  go_wp2_with fail
  go_region_held3 (fun v => v.cell? ⟨w.heap.size, 7, none⟩ = some (.slice pa pn pc) ∧ v.cell? ⟨w.heap.size, 8, none⟩ = some (.slice qa qn qc) ∧ v.cell? ⟨w.heap.size, 9, none⟩ = some (.slice ma mn mc)) (exact SQ.out _ (by repeat first | exact HX4.out | exact HX3.out | exact HX2.out | exact HX1.out | exact Below.refl _ _ | apply bal | apply bdr))
    (first
      | (refine step_append_rd rfl (.tmp 14) (.tmp 16) 41 23 4 32 _ rfl Tryd.underlying41 infoPlan rfl (by decide) _ (by first | rfl | simp [Act.eval, Act.put]) pa pn pc (fun i => (P i).row) (by first | rfl | simp [Act.eval, Act.put]) (L1.out.rows.later (by repeat first | exact HX4.out | exact HX3.out | exact HX2.out | exact HX1.out | exact Below.refl _ _ | apply bal | apply bdr)) (rows_len P) (by omega) ?_; intro a3 c3 x1 hr hb; have HX1 : Kp (Below w2.heap.size w2 x1) := ⟨bthen (by repeat first | exact HX4.out | exact HX3.out | exact HX2.out | exact HX1.out | exact Below.refl _ _ | apply bal | apply bdr) hb⟩; have R3 := Kp.mk hr; clear hr hb)
      | (go_at_call 41; (with_reducible refine (C41.out _ (by repeat first | exact HX4.out | exact HX3.out | exact HX2.out | exact HX1.out | exact Below.refl _ _ | apply bal | apply bdr)).mono ?_); rintro e x2 ⟨oa, oc, U, rfl, hu, hb⟩; have HX2 : Kp (Below w2.heap.size w2 x2) := ⟨bthen (by repeat first | exact HX4.out | exact HX3.out | exact HX2.out | exact HX1.out | exact Below.refl _ _ | apply bal | apply bdr) hb⟩; have R3 : Kp (RdRows x2 4 a3 pn c3 (fun i => (P i).row)) := ⟨(R3.out.later (by repeat first | exact Below.refl _ _ | apply bal | apply bdr)).later hb⟩; clear hb)
      | (refine step_append_rd rfl (.tmp 21) (.tmp 23) 43 101 2 24 _ rfl Tryd.underlying43 infoMsg rfl (by decide) _ (by first | rfl | simp [Act.eval, Act.put]) ma mn mc (fun i => (C i).row) (by first | rfl | simp [Act.eval, Act.put]) (L3.out.later (by repeat first | exact HX4.out | exact HX3.out | exact HX2.out | exact HX1.out | exact Below.refl _ _ | apply bal | apply bdr)) (rows_len2 C) (by omega) ?_; intro a5 c5 x3 hr hb; have HX3 : Kp (Below w2.heap.size w2 x3) := ⟨bthen (by repeat first | exact HX4.out | exact HX3.out | exact HX2.out | exact HX1.out | exact Below.refl _ _ | apply bal | apply bdr) hb⟩; have R5 := Kp.mk hr; have R3 : Kp (RdRows x3 4 a3 pn c3 (fun i => (P i).row)) := ⟨(R3.out.later (by repeat first | exact Below.refl _ _ | apply bal | apply bdr)).later hb⟩; have RU : Kp (RdPo x3 oa qn oc U) := ⟨(hu.out.1.later (by repeat first | exact Below.refl _ _ | apply bal | apply bdr)).later hb⟩; clear hr hb)
      | (go_at_call 40; (with_reducible refine (CP.out _ a3 c3 oa oc U a5 c5 HX3.out R3.out RU.out hu.out.2 R5.out).mono ?_); rintro e x4 ⟨va, ca, da, dc, U1, ev, rfl, hp, hq, hb⟩; have HX4 : Kp (Below w2.heap.size w2 x4) := ⟨bthen HX3.out hb⟩; clear hb))
  all_goals (
    clear s7 s8 s9 R3 R5 RU hu HX1 HX2 HX3 CP C41
    obtain ⟨s7, s8, s9⟩ := SQ.out x4 HX4.out
    go_wp2_with fail
    refine (CR.out x4 HX4.out).mono ?_
    rintro e x5 ⟨va2, ca2, da2, dc2, U2, rfl, hq2, hb⟩
    have HB5 : Kp (Below w2.heap.size w2 x5) := ⟨bthen HX4.out hb⟩
    obtain ⟨w6, e6⟩ : ∃ w6, w6 = x5.alloc (.cells #[.int .i64 (c : Int), .int .i64 pl] 89) := ⟨_, rfl⟩
    have b6 : Below x5.heap.size x5 w6 := by rw [e6]; exact below_alloc _ _
    have X6 : Kp (Blk w6 x5.heap.size (errA c pl) 89) := ⟨by rw [e6]; exact Blk.new _ _ _⟩
    obtain ⟨eb, heb⟩ : ∃ x, x = x5.heap.size := ⟨_, rfl⟩
    rw [← heb] at X6
    have B6 : Kp (Below w2.heap.size w2 w6) := ⟨bthen HB5.out b6⟩
    have P6 : Kp (ErrP w6 A c pl ev) := ⟨(hp.out.later hb).later b6⟩
    have QA : Kp (RdPo w6 va nn ca U1) := ⟨(hq.out.1.later hb).later b6⟩
    have QB : Kp (RdPo w6 va2 nn ca2 U2) := ⟨hq2.out.1.later b6⟩
    have QE : Kp (∀ i, i < nn → (U1 i).l = (U2 i).l ∧ (U1 i).g = (U2 i).g) := ⟨fun i hi => ⟨(hq.out.2.1 i hi).1.trans (hq2.out.2.1 i hi).1.symm, (hq.out.2.1 i hi).2.trans (hq2.out.2.1 i hi).2.symm⟩⟩
    have RA : Kp (RdRows w6 4 da nl dc (fun i => (RR i).row)) := ⟨(hq.out.2.2.later hb).later b6⟩
    have RB : Kp (RdRows w6 4 da2 nl dc2 (fun i => (RR i).row)) := ⟨hq2.out.2.2.later b6⟩
    have HTD := Kp.mk (law_told w6 (LE.out.later B6.out) (LT.out.later B6.out) c pl ev P6.out)
    have E6 := Kp.mk e6
    clear hb hp hq hq2 b6 s7 s8 s9 CR HX4 HB5 e6
    go_wp2_with fail
    rw [← E6.out]
    rw [← heb]
    clear heb
    refine HTD.out.mono ?_
    rintro e x7 ⟨rfl, hb⟩
    have HSP := Kp.mk (ref_samePorts va nn ca U1 va2 nn ca2 U2 x7 (QA.out.later hb) (QB.out.later hb) rfl QE.out)
    have B7 : Kp (Below w6.heap.size w6 x7) := ⟨hb⟩
    clear hb HTD E6
    go_wp2_with fail
    refine HSP.out.mono ?_
    rintro e x8 ⟨rfl, hb⟩
    have B8 : Kp (Below w6.heap.size w6 x8) := ⟨bthen B7.out hb⟩
    have HSR := Kp.mk (law_sameReports da nl dc da2 nl dc2 RR x8 (RA.out.later B8.out) (RB.out.later B8.out) rfl)
    clear hb HSP B7
    go_wp2_with fail
    refine HSR.out.mono ?_
    rintro e w9 ⟨rfl, hd⟩
    have B9 : Kp (Below w.heap.size w w9) := ⟨bthen (bthen (bthen B2.out B6.out) B8.out) hd.below⟩
    have K9 := Kp.mk (((K2.out.later B6.out).later B8.out).later hd.below)
    have X9 := Kp.mk ((X6.out.later B8.out).later hd.below)
    have M1 := Kp.mk (((L1.out.later B6.out).later B8.out).later hd.below)
    have M2 := Kp.mk (((L2.out.later B6.out).later B8.out).later hd.below)
    have ME := Kp.mk (((LE.out.later B6.out).later B8.out).later hd.below)
    have MT := Kp.mk (((LT.out.later B6.out).later B8.out).later hd.below)
    clear hd HSR B8 P6 QA QB QE RA RB B6 X6 SQ L1 L2 L3 LE LT B2 K2
    obtain ⟨L1, hL1⟩ : ∃ x, x = M1 := ⟨_, rfl⟩
    obtain ⟨L2, hL2⟩ : ∃ x, x = M2 := ⟨_, rfl⟩
    obtain ⟨LE, hLE⟩ : ∃ x, x = ME := ⟨_, rfl⟩
    obtain ⟨LT, hLT⟩ : ∃ x, x = MT := ⟨_, rfl⟩
    clear hL1 hL2 hLE hLT M1 M2 ME MT
    clear HNS
    obtain ⟨nl, hnl⟩ : ∃ x, x = cutN c (outM P V pn).length := ⟨_, rfl⟩
    obtain ⟨SS, hSS⟩ : ∃ x, x = outS P V := ⟨_, rfl⟩
    obtain ⟨RR, hRR⟩ : ∃ x : Nat → MsgV, x = fun i => (outM P V pn).getD i zMsg := ⟨_, rfl⟩
    have C41 : Kp (∀ v, Below w9.heap.size w9 v → Calls Tryd.prog 41 #[.slice qa qn qc] v fun e w' => ∃ oa oc U, e = .returned (.slice oa qn oc) ∧ Kp (RdPo w' oa qn oc U ∧ ∀ i, (U i).l = (V i).l ∧ (U i).g = (V i).g) ∧ Below v.heap.size v w') := ⟨fun v hv => (law_copiedAll2 qa qn qc V v (L2.out.later hv)).mono fun e w' ⟨oa, oc, U, h1, h2, h3, h4⟩ => ⟨oa, oc, U, h1, ⟨h2, h3⟩, h4⟩⟩
    have CP : Kp (∀ v a3 c3 oa oc U, Below w9.heap.size w9 v → RdRows v 4 a3 pn c3 (fun i => (P i).row) → RdPo v oa qn oc U → (∀ i, (U i).l = (V i).l ∧ (U i).g = (V i).g) → Calls Tryd.prog 46 #[.slice a3 pn c3, .slice oa qn oc] v fun e w' => ∃ va ca da dc U1 ev, e = .returned (.tuple #[.slice va nn ca, .slice da nl dc, ev]) ∧ Kp (ErrP w' A c pl ev) ∧ Kp (RdPo w' va nn ca U1 ∧ (∀ j, j < nn → (U1 j).l = (SS j).l ∧ (U1 j).g = (SS j).g) ∧ RdRows w' 2 da nl dc (fun i => (RR i).row)) ∧ Below v.heap.size v w') := ⟨fun v a3 c3 oa oc U hv p1 p2 p3 => (port_emit_two A a3 pn c3 P oa qn oc U v (RdPl.of_rows p1 hpn) p2 c pl (HA.out.same p3) HMX.out (LE.out.later hv)).mono fun e w' ⟨v1, d1, ev, h1, h2, h3, h4⟩ => by
      rw [outS_same p3, outM_same p3, ← HNN.out, ← hnl, ← hSS] at h3
      obtain ⟨aa, ac, da, dc, U1, rfl, g2, g3, rfl, g5⟩ := h3
      exact ⟨aa, ac, da, dc, U1, ev, h1, ⟨h2⟩, ⟨g2, g3, by rw [hRR]; exact g5⟩, h4⟩⟩
    have CR : Kp (∀ v, Below w9.heap.size w9 v → Calls Tryd.prog 47 #[.slice pa pn pc, .slice qa qn qc] v fun e w' => ∃ va ca da dc U1, e = .returned (.tuple #[.slice va nn ca, .slice da nl dc, .agg (errA c pl)]) ∧ Kp (RdPo w' va nn ca U1 ∧ (∀ j, j < nn → (U1 j).l = (SS j).l ∧ (U1 j).g = (SS j).g) ∧ RdRows w' 2 da nl dc (fun i => (RR i).row)) ∧ Below v.heap.size v w') := ⟨fun v hv => (ref_emit_two pa pn pc P qa qn qc V v (L1.out.later hv) (L2.out.later hv) c pl HA.out HMX.out).mono fun e w' ⟨v1, d1, h1, h3, h4⟩ => by
      rw [← HNN.out, ← hnl, ← hSS] at h3
      obtain ⟨aa, ac, da, dc, U1, rfl, g2, g3, rfl, g5⟩ := h3
      exact ⟨aa, ac, da, dc, U1, h1, ⟨g2, g3, by rw [hRR]; exact g5⟩, h4⟩⟩
    clear hnl hSS hRR
    have SQ : Kp (∀ v, Below w9.heap.size w9 v → v.cell? ⟨w.heap.size, 7, none⟩ = some (.slice pa pn pc) ∧ v.cell? ⟨w.heap.size, 8, none⟩ = some (.slice qa qn qc) ∧ v.cell? ⟨w.heap.size, 9, none⟩ = some (.slice ma mn mc)) := ⟨fun v hv => ⟨(K9.out.later hv).cell 7 _ rfl, (K9.out.later hv).cell 8 _ rfl, (K9.out.later hv).cell 9 _ rfl⟩⟩
    obtain ⟨s7, s8, s9⟩ := SQ.out w9 (Below.refl _ _)
    go_wp2_with fail
    go_region_held3 (fun v => v.cell? ⟨w.heap.size, 7, none⟩ = some (.slice pa pn pc) ∧ v.cell? ⟨w.heap.size, 8, none⟩ = some (.slice qa qn qc) ∧ v.cell? ⟨w.heap.size, 9, none⟩ = some (.slice ma mn mc)) (exact SQ.out _ (by repeat first | exact HX4.out | exact HX3.out | exact HX2.out | exact HX1.out | exact Below.refl _ _ | apply bal | apply bdr))
      (first
        | (refine step_append_rd rfl (.tmp 57) (.tmp 59) 41 23 4 32 _ rfl Tryd.underlying41 infoPlan rfl (by decide) _ (by first | rfl | simp [Act.eval, Act.put]) pa pn pc (fun i => (P i).row) (by first | rfl | simp [Act.eval, Act.put]) (L1.out.rows.later (by repeat first | exact HX4.out | exact HX3.out | exact HX2.out | exact HX1.out | exact Below.refl _ _ | apply bal | apply bdr)) (rows_len P) (by omega) ?_; intro a3 c3 x1 hr hb; have HX1 : Kp (Below w9.heap.size w9 x1) := ⟨bthen (by repeat first | exact HX4.out | exact HX3.out | exact HX2.out | exact HX1.out | exact Below.refl _ _ | apply bal | apply bdr) hb⟩; have R3 := Kp.mk hr; clear hr hb)
        | (go_at_call 41; (with_reducible refine (C41.out _ (by repeat first | exact HX4.out | exact HX3.out | exact HX2.out | exact HX1.out | exact Below.refl _ _ | apply bal | apply bdr)).mono ?_); rintro e x2 ⟨oa, oc, U, rfl, hu, hb⟩; have HX2 : Kp (Below w9.heap.size w9 x2) := ⟨bthen (by repeat first | exact HX4.out | exact HX3.out | exact HX2.out | exact HX1.out | exact Below.refl _ _ | apply bal | apply bdr) hb⟩; have R3 : Kp (RdRows x2 4 a3 pn c3 (fun i => (P i).row)) := ⟨(R3.out.later (by repeat first | exact Below.refl _ _ | apply bal | apply bdr)).later hb⟩; clear hb)
        | (go_at_call 46; (with_reducible refine (CP.out _ a3 c3 oa oc U HX2.out R3.out hu.out.1 hu.out.2).mono ?_); rintro e x4 ⟨va, ca, da, dc, U1, ev, rfl, hp, hq, hb⟩; have HX4 : Kp (Below w9.heap.size w9 x4) := ⟨bthen HX2.out hb⟩; clear hb))
    all_goals (
      clear s7 s8 s9 R3 hu HX1 HX2 CP C41
      obtain ⟨s7, s8, s9⟩ := SQ.out x4 HX4.out
      go_wp2_with fail
      refine (CR.out x4 HX4.out).mono ?_
      rintro e x5 ⟨va2, ca2, da2, dc2, U2, rfl, hq2, hb⟩
      have HB5 : Kp (Below w9.heap.size w9 x5) := ⟨bthen HX4.out hb⟩
      obtain ⟨w6, e6⟩ : ∃ w6, w6 = x5 := ⟨_, rfl⟩
      have b6 : Below x5.heap.size x5 w6 := by rw [e6]; exact Below.refl _ _
      have X6 : Kp (Blk w6 eb (errA c pl) 89) := ⟨by rw [e6]; exact X9.out.later HB5.out⟩
      have hid : (x5.setCell ⟨eb, 0, none⟩ (.int .i64 (c : Int))).setCell ⟨eb, 1, none⟩ (.int .i64 pl) = w6 := by
        rw [e6] at X6
        rw [e6, setCell_id X6.out 0 (.int .i64 (c : Int)) rfl, setCell_id X6.out 1 (.int .i64 pl) rfl]
      have B6 : Kp (Below w9.heap.size w9 w6) := ⟨bthen HB5.out b6⟩
      have P6 : Kp (ErrP w6 A c pl ev) := ⟨(hp.out.later hb).later b6⟩
      have QA : Kp (RdPo w6 va nn ca U1) := ⟨(hq.out.1.later hb).later b6⟩
      have QB : Kp (RdPo w6 va2 nn ca2 U2) := ⟨hq2.out.1.later b6⟩
      have QE : Kp (∀ i, i < nn → (U1 i).l = (U2 i).l ∧ (U1 i).g = (U2 i).g) := ⟨fun i hi => ⟨(hq.out.2.1 i hi).1.trans (hq2.out.2.1 i hi).1.symm, (hq.out.2.1 i hi).2.trans (hq2.out.2.1 i hi).2.symm⟩⟩
      have RA : Kp (RdRows w6 2 da nl dc (fun i => (RR i).row)) := ⟨(hq.out.2.2.later hb).later b6⟩
      have RB : Kp (RdRows w6 2 da2 nl dc2 (fun i => (RR i).row)) := ⟨hq2.out.2.2.later b6⟩
      have HTD := Kp.mk (law_told w6 (LE.out.later B6.out) (LT.out.later B6.out) c pl ev P6.out)
      have E6 := Kp.mk hid
      have y0 := (X9.out.later HB5.out).cell 0 _ rfl
      have y1 := (X9.out.later HB5.out).cell 1 _ rfl
      have f0 := (X9.out.later HB5.out).free 0
      have f1 := (X9.out.later HB5.out).free 1
      clear hb hp hq hq2 b6 s7 s8 s9 CR HX4 HB5 e6 hid
      go_wp2_with fail
      rw [E6.out]
      refine HTD.out.mono ?_
      rintro e x7 ⟨rfl, hb⟩
      have HSP := Kp.mk (ref_samePorts va nn ca U1 va2 nn ca2 U2 x7 (QA.out.later hb) (QB.out.later hb) rfl QE.out)
      have B7 : Kp (Below w6.heap.size w6 x7) := ⟨hb⟩
      clear hb HTD E6 y0 y1 f0 f1
      go_wp2_with fail
      refine HSP.out.mono ?_
      rintro e x8 ⟨rfl, hb⟩
      have B8 : Kp (Below w6.heap.size w6 x8) := ⟨bthen B7.out hb⟩
      have HSR := Kp.mk (law_sameMsgs da nl dc da2 nl dc2 RR x8 (RA.out.later B8.out) (RB.out.later B8.out) rfl)
      clear hb HSP B7
      go_wp2_with fail
      refine HSR.out.mono ?_
      rintro e wz ⟨rfl, hd⟩
      have BF : Kp (Below w.heap.size w wz) := ⟨bthen (bthen (bthen B9.out B6.out) B8.out) hd.below⟩
      clear hd HSR
      go_wp2_with fail
      go_ret
      exact ⟨rfl, BF.out⟩))
end Go.Proofs.YtjlgnbjfgeppcaaDoor
