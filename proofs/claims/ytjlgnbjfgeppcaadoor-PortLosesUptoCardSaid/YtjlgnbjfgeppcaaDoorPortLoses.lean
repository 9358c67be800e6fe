/- PortLoses, walked. -/
import Derived.Test.YtjlgnbjfgeppcaaDoorLosesPure
import Derived.BigQuiet
import Derived.Deep.DeepMust
namespace Go.Proofs.YtjlgnbjfgeppcaaDoor
open Go Go.RowKit
set_option linter.unusedVariables false
attribute [local go_sem ↓] Go.wp_at_zero Go.wp_at_succ

theorem sumQ_le (P : Nat → PortP) {F : Nat → Nat} {n : Nat} (h : ∀ i, i < n → F i ≤ 8) (i : Nat) (hi : i ≤ n) : sumQ P F i ≤ 8 * i := by
  induction i with
  | zero => exact Nat.le_refl _
  | succ i ih =>
    have h1 := ih (by omega)
    have h2 := h i (by omega)
    unfold sumQ
    cases decide ((P i).kind = 3)
    · simp only [cond_false]; omega
    · simp only [cond_true]; omega
theorem sumA_le {F : Nat → Nat} {n : Nat} (h : ∀ i, i < n → F i ≤ 8) (i : Nat) (hi : i ≤ n) : sumA F i ≤ 8 * i := by
  induction i with
  | zero => exact Nat.le_refl _
  | succ i ih =>
    have h1 := ih (by omega)
    have h2 := h i (by omega)
    unfold sumA
    omega
theorem nS_le (P : Nat → PortP) (n : Nat) (C : Nat → MsgV) (j : Nat) : nS P n C j ≤ j := by
  induction j with
  | zero => exact Nat.le_refl _
  | succ j ih => unfold nS; cases isS P n (C j) <;> simp <;> omega
theorem setOther7 {w : World} {b : Nat} {cs : Array Value} {T : TypeId} (h : Blk w b cs T) : Blk w b cs T := h
set_option maxRecDepth 100000 in
set_option maxHeartbeats 16000000 in
theorem law_PortLoses_bad (A : Nat → Addr) (k s d r : Int) (a : Option Addr) (n cap : Nat) (g : Int) (D : ByteArray) (pa : Option Addr) (pn pc : Nat) (P : Nat → PortP) (qa : Option Addr) (qn qc : Nat) (V : Nat → PortV) (ma : Option Addr) (mn mc : Nat) (C : Nat → MsgV) (w : World)
    (h1 : RdPl w pa pn pc P) (h2 : RdPo w qa qn qc V) (h3 : RdRows w 2 ma mn mc (fun i => (C i).row)) (hs : ∀ i, i < mn → (C i).data.size < 9223372036854775808) (hpn : pn ≤ 1048576) (hmn : mn ≤ 1048576) (hE : Errs w allCodes A) (hT : TypeVar w) (c : Nat) (pl : Int) (hA : AllE P V pn qn c pl) (hc : c ≠ 0) :
    Calls Tryd.prog 8 #[.agg (caseA k s d r a n cap g D pa pn pc qa qn qc ma mn mc)] w fun e w' => e = .returned (.bool true) ∧ Below w.heap.size w w' := by
  have HT := Kp.mk hT
  have hcb : ((c : Int) != 0) = true := by simpa using hc
  clear hT
  have HM1 := h3.bound
  obtain ⟨w1, e1⟩ : ∃ w1, w1 = w.alloc (.cells (caseA k s d r a n cap g D pa pn pc qa qn qc ma mn mc) 45) := ⟨_, rfl⟩
  have b1 : Below w.heap.size w w1 := by rw [e1]; exact below_alloc _ _
  have k1 : Blk w1 w.heap.size (caseA k s d r a n cap g D pa pn pc qa qn qc ma mn mc) 45 := by rw [e1]; exact Blk.new _ _ _
  have E1 := Kp.mk e1
  have B1 := Kp.mk b1
  have K1 := Kp.mk k1
  have HE := Kp.mk hE
  have H1 := Kp.mk h1
  have H2 := Kp.mk h2
  have H3 := Kp.mk h3
  have HS := Kp.mk hs
  have HA := Kp.mk hA
  have HF := Kp.mk (law_fixed A w1 (hE.later b1))
  clear h1 h2 h3 hs hE e1 b1 k1 hA
  go_enter Tryd.func8, Tryd.ntmps8
  go_wp2_with fail
  rw [← E1.out]
  refine HF.out.mono ?_
  rintro e w2 ⟨rfl, hb⟩
  have B2 := Kp.mk (B1.out.trans (hb.mono B1.out.size))
  have K2 := Kp.mk (K1.out.later hb)
  clear hb HF B1 K1 E1
  have L1 := Kp.mk (H1.out.later B2.out)
  have L2 := Kp.mk (H2.out.later B2.out)
  have L3 := Kp.mk (H3.out.later B2.out)
  have LE := Kp.mk (HE.out.later B2.out)
  clear H1 H2 H3 HE
  have C41 : Kp (∀ v, Below w2.heap.size w2 v → Calls Tryd.prog 41 #[.slice qa qn qc] v fun e w' => ∃ oa oc U, e = .returned (.slice oa qn oc) ∧ Kp (RdPo w' oa qn oc U ∧ ∀ i, (U i).l = (V i).l ∧ (U i).g = (V i).g) ∧ Below v.heap.size v w') := ⟨fun v hv => (law_copiedAll2 qa qn qc V v (L2.out.later hv)).mono fun e w' ⟨oa, oc, U, h1, h2, h3, h4⟩ => ⟨oa, oc, U, h1, ⟨h2, h3⟩, h4⟩⟩
  have SQ : Kp (∀ v, Below w2.heap.size w2 v → v.cell? ⟨w.heap.size, 7, none⟩ = some (.slice pa pn pc) ∧ v.cell? ⟨w.heap.size, 8, none⟩ = some (.slice qa qn qc) ∧ v.cell? ⟨w.heap.size, 9, none⟩ = some (.slice ma mn mc)) := ⟨fun v hv => ⟨(K2.out.later hv).cell 7 _ rfl, (K2.out.later hv).cell 8 _ rfl, (K2.out.later hv).cell 9 _ rfl⟩⟩
  obtain ⟨s7, s8, s9⟩ := SQ.out w2 (Below.refl _ _)
  have LT := Kp.mk (HT.out.later B2.out)
  have CP : Kp (∀ v oa oc U, Below w2.heap.size w2 v → RdPo v oa qn oc U → (∀ i, (U i).l = (V i).l ∧ (U i).g = (V i).g) → Calls Tryd.prog 40 #[.slice pa pn pc, .slice oa qn oc, .slice ma mn mc] v fun e w' => ∃ ev, e = .returned (.tuple #[.slice none 0 0, .slice none 0 0, ev]) ∧ Kp (ErrP w' A c pl ev) ∧ Below v.heap.size v w') := ⟨fun v oa oc U hv p2 p3 => (port_arrive_bad A pa pn pc P oa qn oc U ma mn mc v (L1.out.later hv) p2 c pl (HA.out.same p3) (LE.out.later hv) hc).mono fun e w' ⟨ev, h1, h2, h3⟩ => ⟨ev, h1, ⟨h2⟩, h3⟩⟩
  have CR : Kp (∀ v, Below w2.heap.size w2 v → Calls Tryd.prog 42 #[.slice pa pn pc, .slice qa qn qc, .slice none 0 0] v fun e w' => e = .returned (.tuple #[.slice none 0 0, .slice none 0 0, .agg (errA c pl)]) ∧ Below v.heap.size v w') := ⟨fun v hv => ref_arrive_bad pa pn pc P qa qn qc V none 0 0 v (L1.out.later hv) (L2.out.later hv) c pl HA.out hc⟩
  clear hc
  go_wp2_with fail
  go_region_held3 (fun v => v.cell? ⟨w.heap.size, 7, none⟩ = some (.slice pa pn pc) ∧ v.cell? ⟨w.heap.size, 8, none⟩ = some (.slice qa qn qc) ∧ v.cell? ⟨w.heap.size, 9, none⟩ = some (.slice ma mn mc)) (first | exact SQ.out _ (Drew.once _).below | exact SQ.out _ HX4.out | exact SQ.out _ HX2.out)
    (first
      | (go_at_call 41; (with_reducible refine (C41.out _ (Drew.once _).below).mono ?_); rintro e x2 ⟨oa, oc, U, rfl, hu, hb⟩; have HX2 : Kp (Below w2.heap.size w2 x2) := ⟨bthen (Drew.once _).below hb⟩; clear hb)
      | (go_at_call 40; (with_reducible refine (CP.out _ oa oc U HX2.out hu.out.1 hu.out.2).mono ?_); rintro e x4 ⟨ev, rfl, hp, hb⟩; have HX4 : Kp (Below w2.heap.size w2 x4) := ⟨bthen HX2.out hb⟩; have HP4 := Kp.mk hp; clear hb))
  all_goals (
    clear s7 s8 s9 HX2 CP C41 hu
    obtain ⟨s7, s8, s9⟩ := SQ.out x4 HX4.out
    go_wp2_with fail
    refine (CR.out x4 HX4.out).mono ?_
    rintro e x5 ⟨rfl, hb⟩
    obtain ⟨w6, e6⟩ : ∃ w6, w6 = x5.alloc (.cells #[.int .i64 (c : Int), .int .i64 pl] 89) := ⟨_, rfl⟩
    have b6 : Below x5.heap.size x5 w6 := by rw [e6]; exact below_alloc _ _
    have B6 : Kp (Below w2.heap.size w2 w6) := ⟨bthen (bthen HX4.out hb) b6⟩
    have P6 : Kp (ErrP w6 A c pl ev) := ⟨(hp.out.later hb).later b6⟩
    have HTD := Kp.mk (law_told w6 (LE.out.later B6.out) (LT.out.later B6.out) c pl ev P6.out)
    have E6 := Kp.mk e6
    clear hb b6 e6 hp HP4 s7 s8 s9 CR HX4
    go_wp2_with fail
    rw [← E6.out]
    refine HTD.out.mono ?_
    rintro e x7 ⟨rfl, hb⟩
    have BF : Kp (Below w.heap.size w x7) := ⟨bthen (bthen B2.out B6.out) hb⟩
    clear hb
    go_wp2_with fail
    go_ret
    exact ⟨rfl, BF.out⟩)
set_option maxRecDepth 100000 in
set_option maxHeartbeats 32000000 in
theorem law_PortLoses_good (A : Nat → Addr) (k s d r : Int) (a : Option Addr) (n cap : Nat) (g : Int) (D : ByteArray) (pa : Option Addr) (pn pc : Nat) (P : Nat → PortP) (qa : Option Addr) (qn qc : Nat) (V : Nat → PortV) (ma : Option Addr) (mn mc : Nat) (C : Nat → MsgV) (w : World)
    (h1 : RdPl w pa pn pc P) (h2 : RdPo w qa qn qc V) (h3 : RdRows w 2 ma mn mc (fun i => (C i).row)) (hs : ∀ i, i < mn → (C i).data.size < 9223372036854775808) (hpn : pn ≤ 1048576) (hmn : mn ≤ 1048576) (hE : Errs w allCodes A) (hA : AllE P V pn qn 0 (-1)) :
    Calls Tryd.prog 8 #[.agg (caseA k s d r a n cap g D pa pn pc qa qn qc ma mn mc)] w fun e w' => e = .returned (.bool true) ∧ Below w.heap.size w w' := by
  have hg : pn = qn ∧ AllGood P V pn := by
    rcases allE_cases hA with ⟨h, _⟩ | ⟨_, _, h1, h2⟩
    · exact absurd rfl h
    · exact ⟨h1, h2⟩
  obtain ⟨hnq, hgood⟩ := hg
  subst hnq
  obtain ⟨SS, hSS⟩ : ∃ x, x = arrS P pn (agedS P V) C mn := ⟨_, rfl⟩
  have HSG : Kp (∀ i, i < pn → portC (P i) (SS i).l (SS i).g = 0) := ⟨fun i hi => by rw [hSS]; exact arr_good (C := C) (fun j hj => aged_good hgood j hj) mn i hi⟩
  obtain ⟨nl, hnl⟩ : ∃ x, x = (arrD P pn (agedS P V) C mn).length := ⟨_, rfl⟩
  have hnl8 : nl ≤ mn := by rw [hnl]; exact arrD_len _ _ _ _ _
  have HCL : Kp (sumQ P (fun i => (SS i).l.length) pn + nS P pn C mn + nl = sumQ P (fun i => (V i).l.length) pn + mn) := ⟨by rw [hSS, hnl]; exact came_law hgood C mn⟩
  have HG := Kp.mk hgood
  have HPN := Kp.mk hpn
  have HSS := Kp.mk (And.intro hSS hnl)
  clear hgood hSS hnl
  have HM1 := h3.bound
  obtain ⟨w1, e1⟩ : ∃ w1, w1 = w.alloc (.cells (caseA k s d r a n cap g D pa pn pc qa pn qc ma mn mc) 45) := ⟨_, rfl⟩
  have b1 : Below w.heap.size w w1 := by rw [e1]; exact below_alloc _ _
  have k1 : Blk w1 w.heap.size (caseA k s d r a n cap g D pa pn pc qa pn qc ma mn mc) 45 := by rw [e1]; exact Blk.new _ _ _
  have E1 := Kp.mk e1
  have B1 := Kp.mk b1
  have K1 := Kp.mk k1
  have HE := Kp.mk hE
  have H1 := Kp.mk h1
  have H2 := Kp.mk h2
  have H3 := Kp.mk h3
  have HS := Kp.mk hs
  have HA := Kp.mk hA
  have HF := Kp.mk (law_fixed A w1 (hE.later b1))
  clear h1 h2 h3 hs hE e1 b1 k1 hA
  go_enter Tryd.func8, Tryd.ntmps8
  go_wp2_with fail
  rw [← E1.out]
  refine HF.out.mono ?_
  rintro e w2 ⟨rfl, hb⟩
  have B2 := Kp.mk (B1.out.trans (hb.mono B1.out.size))
  have K2 := Kp.mk (K1.out.later hb)
  clear hb HF B1 K1 E1
  have L1 := Kp.mk (H1.out.later B2.out)
  have L2 := Kp.mk (H2.out.later B2.out)
  have L3 := Kp.mk (H3.out.later B2.out)
  have LE := Kp.mk (HE.out.later B2.out)
  clear H1 H2 H3 HE
  have C41 : Kp (∀ v, Below w2.heap.size w2 v → Calls Tryd.prog 41 #[.slice qa pn qc] v fun e w' => ∃ oa oc U, e = .returned (.slice oa pn oc) ∧ Kp (RdPo w' oa pn oc U ∧ ∀ i, (U i).l = (V i).l ∧ (U i).g = (V i).g) ∧ Below v.heap.size v w') := ⟨fun v hv => (law_copiedAll2 qa pn qc V v (L2.out.later hv)).mono fun e w' ⟨oa, oc, U, h1, h2, h3, h4⟩ => ⟨oa, oc, U, h1, ⟨h2, h3⟩, h4⟩⟩
  have SQ : Kp (∀ v, Below w2.heap.size w2 v → v.cell? ⟨w.heap.size, 7, none⟩ = some (.slice pa pn pc) ∧ v.cell? ⟨w.heap.size, 8, none⟩ = some (.slice qa pn qc) ∧ v.cell? ⟨w.heap.size, 9, none⟩ = some (.slice ma mn mc)) := ⟨fun v hv => ⟨(K2.out.later hv).cell 7 _ rfl, (K2.out.later hv).cell 8 _ rfl, (K2.out.later hv).cell 9 _ rfl⟩⟩
  obtain ⟨s7, s8, s9⟩ := SQ.out w2 (Below.refl _ _)
  have CP : Kp (∀ v oa oc U, Below w2.heap.size w2 v → RdPo v oa pn oc U → (∀ i, (U i).l = (V i).l ∧ (U i).g = (V i).g) → Calls Tryd.prog 40 #[.slice pa pn pc, .slice oa pn oc, .slice ma mn mc] v fun e w' => ∃ va ca da dc U1, e = .returned (.tuple #[.slice va pn ca, .slice da nl dc, .nilIface]) ∧ Kp (RdPo w' va pn ca U1 ∧ (∀ j, j < pn → (U1 j).l = (SS j).l ∧ (U1 j).g = (SS j).g)) ∧ Below v.heap.size v w') := ⟨fun v oa oc U hv p2 p3 => (port_arrive_two A pa pn pc P oa pn oc U ma mn mc C v (L1.out.later hv) p2 0 (-1) (HA.out.same p3) (L3.out.later hv) HS.out (LE.out.later hv)).mono fun e w' ⟨v1, d1, ev, h1, h2, h3, h4⟩ => by
    rw [agedS_same p3, cutN0, cutN0, ← HSS.out.1, ← HSS.out.2] at h3
    obtain ⟨aa, ac, da, dc, U1, rfl, g2, g3, rfl, g5⟩ := h3
    obtain rfl := errP_nil h2
    exact ⟨aa, ac, da, dc, U1, h1, ⟨g2, g3⟩, h4⟩⟩
  have CR : Kp (∀ v, Below w2.heap.size w2 v → Calls Tryd.prog 42 #[.slice pa pn pc, .slice qa pn qc, .slice none 0 0] v fun e w' => ∃ v1 d1, e = .returned (.tuple #[v1, d1, .agg #[.int .i64 0, .int .i64 (-1)]]) ∧ Below v.heap.size v w') := ⟨fun v hv => (ref_arrive_two pa pn pc P qa pn qc V none 0 0 C v (L1.out.later hv) (L2.out.later hv) 0 (-1) HA.out ⟨Nat.le_refl _, by omega, fun _ => rfl, fun h => by omega⟩ (fun i hi => by omega)).mono fun e w' ⟨v1, d1, h1, h3, h4⟩ => ⟨v1, d1, h1, h4⟩⟩
  go_wp2_with fail
  go_region_held3 (fun v => v.cell? ⟨w.heap.size, 7, none⟩ = some (.slice pa pn pc) ∧ v.cell? ⟨w.heap.size, 8, none⟩ = some (.slice qa pn qc) ∧ v.cell? ⟨w.heap.size, 9, none⟩ = some (.slice ma mn mc)) (first | exact SQ.out _ (Drew.once _).below | exact SQ.out _ HX4.out | exact SQ.out _ HX2.out)
    (first
      | (go_at_call 41; (with_reducible refine (C41.out _ (Drew.once _).below).mono ?_); rintro e x2 ⟨oa, oc, U, rfl, hu, hb⟩; have HX2 : Kp (Below w2.heap.size w2 x2) := ⟨bthen (Drew.once _).below hb⟩; clear hb)
      | (go_at_call 40; (with_reducible refine (CP.out _ oa oc U HX2.out hu.out.1 hu.out.2).mono ?_); rintro e x4 ⟨va, ca, da, dc, U1, rfl, hq, hb⟩; have HX4 : Kp (Below w2.heap.size w2 x4) := ⟨bthen HX2.out hb⟩; have HQ4 := Kp.mk hq; clear hb))
  all_goals (
    clear s7 s8 s9 HX2 CP C41 hu hq
    obtain ⟨s7, s8, s9⟩ := SQ.out x4 HX4.out
    go_wp2_with fail
    refine (CR.out x4 HX4.out).mono ?_
    rintro e x5 ⟨y1, y2, rfl, hb⟩
    obtain ⟨w6, e6⟩ : ∃ w6, w6 = x5.alloc (.cells #[.int .i64 0, .int .i64 (-1)] 89) := ⟨_, rfl⟩
    have b6 : Below x5.heap.size x5 w6 := by rw [e6]; exact below_alloc _ _
    have B6 : Kp (Below w2.heap.size w2 w6) := ⟨bthen (bthen HX4.out hb) b6⟩
    have QA : Kp (RdPo w6 va pn ca U1) := ⟨(HQ4.out.out.1.later hb).later b6⟩
    have QE : Kp (∀ i, i < pn → (U1 i).l = (SS i).l ∧ (U1 i).g = (SS i).g) := ⟨HQ4.out.out.2⟩
    have M1 := Kp.mk (L1.out.later B6.out)
    have M2 := Kp.mk (L2.out.later B6.out)
    have M3 := Kp.mk (L3.out.later B6.out)
    have ME := Kp.mk (LE.out.later B6.out)
    have KW : Kp (∀ v, Below w6.heap.size w6 v → v.cell? ⟨w.heap.size, 7, none⟩ = some (.slice pa pn pc) ∧ v.cell? ⟨w.heap.size, 8, none⟩ = some (.slice qa pn qc) ∧ v.cell? ⟨w.heap.size, 9, none⟩ = some (.slice ma mn mc)) := ⟨fun v hv => SQ.out v (bthen B6.out hv)⟩
    have UG : Kp (∀ i, i < pn → portC (P i) (U1 i).l (U1 i).g = 0) := ⟨fun i hi => by rw [(QE.out i hi).1, (QE.out i hi).2]; exact HSG.out i hi⟩
    obtain ⟨F0, hF0⟩ : ∃ F : Nat → Nat, F = fun i => (V i).l.length := ⟨_, rfl⟩
    obtain ⟨F1, hF1⟩ : ∃ F : Nat → Nat, F = fun i => (U1 i).l.length := ⟨_, rfl⟩
    have HF0 : Kp (∀ i, F0 i = (V i).l.length) := ⟨fun i => by rw [hF0]⟩
    have HF1 : Kp (∀ i, F1 i = (U1 i).l.length) := ⟨fun i => by rw [hF1]⟩
    have F08 : Kp (∀ i, i < pn → F0 i ≤ 8) := ⟨fun i hi => by rw [HF0.out]; exact (good_sm (HG.out i hi)).1⟩
    have F18 : Kp (∀ i, i < pn → F1 i ≤ 8) := ⟨fun i hi => by rw [HF1.out]; exact (good_sm (UG.out i hi)).1⟩
    have HCL2 : Kp (sumQ P F1 pn + nS P pn C mn + nl = sumQ P F0 pn + mn) := ⟨by
      have h1 := HCL.out
      rw [sumQ_congr P (F := fun i => (SS i).l.length) (F' := F1) pn (fun i hi => by rw [HF1.out, (QE.out i hi).1])] at h1
      rw [hF0]; exact h1⟩
    have hne : ((pn : Int) != (pn : Int)) = false := by simp
    have HX5 : Kp (Below w2.heap.size w2 x5) := ⟨bthen HX4.out hb⟩
    have hlw : w.heap.size < x5.heap.size := (K2.out.later HX5.out).lt
    clear s7 s8 s9
    obtain ⟨s7, s8, s9⟩ := SQ.out x5 HX5.out
    have E6 := Kp.mk e6
    clear hb b6 e6 hF0 hF1 HQ4 CR HX4 HX5 HCL HSS HSG SQ L1 L2 L3 LE
    go_wp2_with fail
    rw [← E6.out]
    clear E6 s7 s8 s9 hlw
    go_loopw [9, 10, 12] (fun cv hv iv wr => ∃ (i : Nat) (cm hd : Int), i ≤ pn ∧ iv = .int .i64 (i : Int) ∧ cv = .int .i64 cm ∧ hv = .int .i64 hd ∧ Kp (cm = (sumQ P F1 i : Int) - (sumQ P F0 i : Int) ∧ hd = (sumA F1 i : Int)) ∧ Kp (Below w6.heap.size w6 wr)) (fun _ _ iv _ => pn - (intOf iv).toNat)
    case atStart => exact ⟨0, 0, 0, by omega, rfl, rfl, rfl, ⟨rfl, rfl⟩, ⟨Below.refl _ _⟩⟩
    case round =>
      obtain ⟨i, cm, hd, hi, rfl, rfl, rfl, HCH, HB⟩ := hrel
      obtain ⟨s7, s8, s9⟩ := KW.out wr HB.out
      have hb1 := sumQ_le P F18.out i hi
      have hb2 := sumQ_le P F08.out i hi
      have hb3 := sumA_le F18.out i hi
      have hcl : -8388608 ≤ cm ∧ cm ≤ 8388608 ∧ 0 ≤ hd ∧ hd ≤ 8388608 := by have := HCH.out; omega
      obtain ⟨hc1, hc2, hc3, hc4⟩ := hcl
      clear hb1 hb2 hb3
      by_cases hlt : i < pn
      · have t1 : decide ((i : Int) < pn) = true := decide_eq_true (by omega)
        have t2 : (0 : Int) ≤ (i : Int) := by omega
        have t3 : (i : Int) < (pn : Int) := by omega
        obtain ⟨b, off, ha, c0, c1, c2, c3⟩ := (M1.out.later HB.out).at i hlt
        obtain ⟨b', off', ha', q0, q1⟩ := (M2.out.later HB.out).at i hlt
        obtain ⟨ub, uo, hua, u0, u1⟩ := (QA.out.later HB.out).at i hlt
        have hm1 : (U1 i).m = F1 i := by rw [HF1.out]; exact (QA.out.rd i hlt).len.symm
        have hm0 : (V i).m = F0 i := by rw [HF0.out]; exact (M2.out.rd i hlt).len.symm
        rw [hm1] at u0
        rw [hm0] at q0
        obtain ⟨f0, hf0⟩ : ∃ x, x = F0 i := ⟨_, rfl⟩
        obtain ⟨f1, hf1⟩ : ∃ x, x = F1 i := ⟨_, rfl⟩
        have h08 : f0 ≤ 8 := by rw [hf0]; exact F08.out i hlt
        have h18 : f1 ≤ 8 := by rw [hf1]; exact F18.out i hlt
        rw [← hf0] at q0
        rw [← hf1] at u0
        have hq1 : sumQ P F1 (i + 1) = sumQ P F1 i + (bif decide ((P i).kind = 3) then F1 i else 0) := rfl
        have hq0 : sumQ P F0 (i + 1) = sumQ P F0 i + (bif decide ((P i).kind = 3) then F0 i else 0) := rfl
        have ha1 : sumA F1 (i + 1) = sumA F1 i + F1 i := rfl
        obtain ⟨pk, hpk⟩ : ∃ x, x = (P i).kind := ⟨_, rfl⟩
        rw [← hpk] at c0 hq1 hq0
        rw [← hf1] at hq1 ha1
        rw [← hf0] at hq0
        by_cases hk3 : pk = 3
        · have t4 : (pk == 3) = true := by simp [hk3]
          have HN : Kp (cm + ((f1 : Int) - (f0 : Int)) = (sumQ P F1 (i + 1) : Int) - (sumQ P F0 (i + 1) : Int) ∧ hd + (f1 : Int) = (sumA F1 (i + 1) : Int)) := ⟨by
            rw [hq1, hq0, ha1, decide_eq_true hk3]
            simp only [cond_true]
            have := HCH.out
            omega⟩
          subst ha; subst ha'; subst hua
          clear hq1 hq0 ha1 hf0 hf1 hpk hk3 hm1 hm0 c1 c2 c3 q1 u1 HCH
          go_wp2_with fail
          go_quiet (fail)
          have HB2 : Kp (Below w6.heap.size w6 (wr.drewN nq)) := ⟨bthen HB.out (Drew.below ⟨nq, rfl⟩)⟩
          obtain ⟨w8, e8⟩ : ∃ w8, w8 = wr.drewN nq := ⟨_, rfl⟩
          have u0' := scell_later (Drew.below (w := wr) ⟨nq, rfl⟩) u0
          rw [← e8] at HB2 u0' ⊢
          clear e8 s7 s8 s9 c0 q0 u0
          go_wp2_with fail
          go_roundw
          case rel => exact ⟨i + 1, _, _, by omega, by go_num, rfl, rfl, HN, HB2⟩
          case measure => simp [intOf]; omega
        · have t4 : (pk == 3) = false := by simp [hk3]
          have HN : Kp (cm = (sumQ P F1 (i + 1) : Int) - (sumQ P F0 (i + 1) : Int) ∧ hd + (f1 : Int) = (sumA F1 (i + 1) : Int)) := ⟨by
            rw [hq1, hq0, ha1, decide_eq_false hk3]
            simp only [cond_false]
            have := HCH.out
            omega⟩
          subst ha; subst ha'; subst hua
          clear hq1 hq0 ha1 hf0 hf1 hpk hk3 hm1 hm0 c1 c2 c3 q1 u1 HCH
          go_wp2_with fail
          go_roundw
          case rel => exact ⟨i + 1, _, _, by omega, by go_num, rfl, rfl, HN, HB⟩
          case measure => simp [intOf]; omega
      · have hip : pn = i := by omega
        subst hip
        have t1 : decide ((pn : Int) < pn) = false := by simp
        have HCE := HCH
        clear HCH
        obtain ⟨w7, ew7⟩ : ∃ x : World, x = wr := ⟨_, rfl⟩
        subst ew7
        go_wp2_with fail
        go_loopw [11, 13] (fun sv jv wr => ∃ (j sn : Nat), j ≤ mn ∧ jv = .int .i64 (j : Int) ∧ sv = .int .i64 (sn : Int) ∧ Kp (sn = nS P pn C j) ∧ Kp (Below w6.heap.size w6 wr)) (fun _ jv _ => mn - (intOf jv).toNat)
        case atStart => exact ⟨0, 0, by omega, rfl, rfl, ⟨rfl⟩, HB⟩
        case round =>
          clear s7 s8 s9 HB
          obtain ⟨j, sn, hj, rfl, rfl, HSN, HB⟩ := hrel
          have hsn : sn ≤ j := by rw [HSN.out]; exact nS_le _ _ _ _
          obtain ⟨s7, s8, s9⟩ := KW.out wr HB.out
          by_cases hlt : j < mn
          · have t1 : decide ((j : Int) < mn) = true := decide_eq_true (by omega)
            have t2 : (0 : Int) ≤ (j : Int) := by omega
            have t3 : (j : Int) < (mn : Int) := by omega
            obtain ⟨mb, mo, hma, hmc⟩ := M3.out.cells (by omega)
            have hrow := srange_later (hmc j hlt) HB.out
            have hmd := HS.out j hlt
            obtain ⟨⟨mp, md⟩, hm⟩ : ∃ x, x = C j := ⟨_, rfl⟩
            have hrow : wr.rangeAt mb (mo + j * 2) (C j).row := hrow
            rw [← hm] at hrow hmd
            have r0 : wr.cell? ⟨mb, mo + j * 2, none⟩ = some (.int .i64 mp) := hrow 0 _ rfl
            have r1 : wr.cell? ⟨mb, mo + j * 2 + 1, none⟩ = some (.string md) := hrow 1 _ rfl
            have hmd : md.size < 9223372036854775808 := hmd
            obtain ⟨w4, e4⟩ : ∃ w4, w4 = wr.alloc (.cells #[.int .i64 mp, .string md] 101) := ⟨_, rfl⟩
            have b4 : Below wr.heap.size wr w4 := by rw [e4]; exact below_alloc _ _
            have x4 : Blk w4 wr.heap.size #[.int .i64 mp, .string md] 101 := by rw [e4]; exact Blk.new _ _ _
            have B4 : Kp (Below w6.heap.size w6 w4) := ⟨bthen HB.out b4⟩
            have X4 := Kp.mk x4
            have E4 := Kp.mk e4
            have HM := Kp.mk hm
            have hzm := zvMsg
            subst hma
            clear hm hrow hmc b4 x4 e4
            by_cases h0 : 0 ≤ mp
            · by_cases h1 : mp < (pn : Int)
              · obtain ⟨q, hq⟩ : ∃ q : Nat, mp = (q : Int) := ⟨mp.toNat, by omega⟩
                subst hq
                have hqi : q < pn := by omega
                have t5 : decide ((q : Int) ≥ 0) = true := decide_eq_true (by omega)
                have t6 : decide ((q : Int) < (pn : Int)) = true := decide_eq_true (by omega)
                have t7 : (0 : Int) ≤ (q : Int) := by omega
                have t8 : (q : Int) < (pn : Int) := by omega
                obtain ⟨b, off, ha, c0, c1, c2, c3⟩ := (M1.out.later B4.out).at q hqi
                obtain ⟨⟨pk, ps, pd, pr⟩, hp⟩ : ∃ x, x = P q := ⟨_, rfl⟩
                rw [← hp] at c0 c1
                have c0 : w4.cell? ⟨b, off + q * 4, none⟩ = some (.int .i64 pk) := c0
                have c1 : w4.cell? ⟨b, off + q * 4 + 1, none⟩ = some (.int .i64 ps) := c1
                have hisq : isS P pn ⟨(q : Int), md⟩ = (decide (pk = 1) && decide ((md.size : Int) ≤ ps)) := by
                  unfold isS
                  rw [decide_eq_true t7, decide_eq_true t8]
                  simp only [Int.toNat_natCast, Bool.true_and, ← hp]
                subst ha
                clear h0 h1 hp
                by_cases hk1 : pk = 1
                · by_cases hsz : (md.size : Int) ≤ ps
                  · have t9 : (pk == 1) = true := by simp [hk1]
                    have t10 : decide ((md.size : Int) ≤ ps) = true := decide_eq_true hsz
                    have HIS : Kp (isS P pn ⟨(q : Int), md⟩ = true) := ⟨by rw [hisq, decide_eq_true hk1, decide_eq_true hsz]; rfl⟩
                    have HNS : Kp (nS P pn C (j + 1) = nS P pn C j + 1) := ⟨by
                      show nS P pn C j + (bif isS P pn (C j) then 1 else 0) = _
                      rw [← HM.out, HIS.out]; rfl⟩
                    clear hk1 hsz hisq hqi
                    go_wp2_with fail
                    rw [← E4.out]
                    clear r0 r1 s7 s8 s9
                    obtain ⟨s7, s8, s9⟩ := KW.out w4 B4.out
                    have m0 := X4.out.cell 0 _ rfl
                    have m1 := X4.out.cell 1 _ rfl
                    go_quiet (fail)
                    have HB2 : Kp (Below w6.heap.size w6 (w4.drewN nq)) := ⟨bthen B4.out (Drew.below ⟨nq, rfl⟩)⟩
                    clear s7 s8 s9 m0 m1
                    try clear c0 c1 c2 c3
                    go_wp2_with fail
                    go_roundw
                    case rel => exact ⟨j + 1, sn + 1, by omega, by go_num, by go_num, ⟨by rw [HNS.out, ← HSN.out]⟩, HB2⟩
                    case measure => simp [intOf]; omega
                  · have t9 : (pk == 1) = true := by simp [hk1]
                    have t10 : decide ((md.size : Int) ≤ ps) = false := decide_eq_false hsz
                    have HIS : Kp (isS P pn ⟨(q : Int), md⟩ = false) := ⟨by rw [hisq, decide_eq_false hsz, Bool.and_false]⟩
                    have HNS : Kp (nS P pn C (j + 1) = nS P pn C j) := ⟨by
                      show nS P pn C j + (bif isS P pn (C j) then 1 else 0) = _
                      rw [← HM.out, HIS.out]; rfl⟩
                    clear hk1 hsz hisq hqi
                    go_wp2_with fail
                    rw [← E4.out]
                    clear r0 r1 s7 s8 s9
                    obtain ⟨s7, s8, s9⟩ := KW.out w4 B4.out
                    have m0 := X4.out.cell 0 _ rfl
                    have m1 := X4.out.cell 1 _ rfl
                    go_quiet (fail)
                    have HB2 : Kp (Below w6.heap.size w6 (w4.drewN nq)) := ⟨bthen B4.out (Drew.below ⟨nq, rfl⟩)⟩
                    clear s7 s8 s9 m0 m1
                    try clear c0 c1 c2 c3
                    go_wp2_with fail
                    go_roundw
                    case rel => exact ⟨j + 1, sn, by omega, by go_num, rfl, ⟨by rw [HNS.out, ← HSN.out]⟩, HB2⟩
                    case measure => simp [intOf]; omega
                · have t9 : (pk == 1) = false := by simp [hk1]
                  have HIS : Kp (isS P pn ⟨(q : Int), md⟩ = false) := ⟨by rw [hisq, decide_eq_false hk1]; rfl⟩
                  have HNS : Kp (nS P pn C (j + 1) = nS P pn C j) := ⟨by
                    show nS P pn C j + (bif isS P pn (C j) then 1 else 0) = _
                    rw [← HM.out, HIS.out]; rfl⟩
                  clear hk1 hisq hqi
                  go_wp2_with fail
                  rw [← E4.out]
                  clear r0 r1 s7 s8 s9
                  obtain ⟨s7, s8, s9⟩ := KW.out w4 B4.out
                  have m0 := X4.out.cell 0 _ rfl
                  have m1 := X4.out.cell 1 _ rfl
                  go_quiet (fail)
                  have HB2 : Kp (Below w6.heap.size w6 (w4.drewN nq)) := ⟨bthen B4.out (Drew.below ⟨nq, rfl⟩)⟩
                  clear s7 s8 s9 m0 m1
                  try clear c0 c1 c2 c3
                  go_wp2_with fail
                  go_roundw
                  case rel => exact ⟨j + 1, sn, by omega, by go_num, rfl, ⟨by rw [HNS.out, ← HSN.out]⟩, HB2⟩
                  case measure => simp [intOf]; omega
              · have t5 : decide (mp ≥ 0) = true := decide_eq_true h0
                have t6 : decide (mp < (pn : Int)) = false := decide_eq_false h1
                have HIS : Kp (isS P pn ⟨mp, md⟩ = false) := ⟨by unfold isS; rw [decide_eq_true h0, decide_eq_false h1]; rfl⟩
                have HNS : Kp (nS P pn C (j + 1) = nS P pn C j) := ⟨by
                  show nS P pn C j + (bif isS P pn (C j) then 1 else 0) = _
                  rw [← HM.out, HIS.out]; rfl⟩
                clear h0 h1
                go_wp2_with fail
                rw [← E4.out]
                clear r0 r1 s7 s8 s9
                obtain ⟨s7, s8, s9⟩ := KW.out w4 B4.out
                have m0 := X4.out.cell 0 _ rfl
                have m1 := X4.out.cell 1 _ rfl
                go_quiet (fail)
                have HB2 : Kp (Below w6.heap.size w6 (w4.drewN nq)) := ⟨bthen B4.out (Drew.below ⟨nq, rfl⟩)⟩
                clear s7 s8 s9 m0 m1
                try clear c0 c1 c2 c3
                go_wp2_with fail
                go_roundw
                case rel => exact ⟨j + 1, sn, by omega, by go_num, rfl, ⟨by rw [HNS.out, ← HSN.out]⟩, HB2⟩
                case measure => simp [intOf]; omega
            · have t5 : decide (mp ≥ 0) = false := decide_eq_false h0
              have HIS : Kp (isS P pn ⟨mp, md⟩ = false) := ⟨by unfold isS; rw [decide_eq_false h0]; rfl⟩
              have HNS : Kp (nS P pn C (j + 1) = nS P pn C j) := ⟨by
                show nS P pn C j + (bif isS P pn (C j) then 1 else 0) = _
                rw [← HM.out, HIS.out]; rfl⟩
              clear h0
              go_wp2_with fail
              rw [← E4.out]
              clear r0 r1 s7 s8 s9
              obtain ⟨s7, s8, s9⟩ := KW.out w4 B4.out
              have m0 := X4.out.cell 0 _ rfl
              have m1 := X4.out.cell 1 _ rfl
              go_quiet (fail)
              have HB2 : Kp (Below w6.heap.size w6 (w4.drewN nq)) := ⟨bthen B4.out (Drew.below ⟨nq, rfl⟩)⟩
              clear s7 s8 s9 m0 m1
              try clear c0 c1 c2 c3
              go_wp2_with fail
              go_roundw
              case rel => exact ⟨j + 1, sn, by omega, by go_num, rfl, ⟨by rw [HNS.out, ← HSN.out]⟩, HB2⟩
              case measure => simp [intOf]; omega
          · have hjm : mn = j := by omega
            subst hjm
            have t1 : decide ((mn : Int) < mn) = false := by simp
            have hsum : ((cm + (sn : Int) + (nl : Int)) != (mn : Int)) = false := by
              have h1 := HCL2.out
              have h2 := HCE.out.1
              have h3 := HSN.out
              simp
              omega
            have C42 : Kp (∀ v, Below w6.heap.size w6 v → Calls Tryd.prog 41 #[.slice va pn ca] v fun e w' => ∃ oa oc U, e = .returned (.slice oa pn oc) ∧ Kp (RdPo w' oa pn oc U ∧ ∀ i, (U i).l = (U1 i).l ∧ (U i).g = (U1 i).g) ∧ Below v.heap.size v w') := ⟨fun v hv => (law_copiedAll2 va pn ca U1 v (QA.out.later hv)).mono fun e w' ⟨oa, oc, U, h1, h2, h3, h4⟩ => ⟨oa, oc, U, h1, ⟨h2, h3⟩, h4⟩⟩
            have HAE : Kp (AllE P U1 pn pn 0 (-1)) := ⟨.good rfl (fun i hi => (portC_zero (UG.out i hi)).1) (fun i hi => (portC_zero (UG.out i hi)).2)⟩
            obtain ⟨ml, hml⟩ : ∃ x, x = (outM P U1 pn).length := ⟨_, rfl⟩
            have HML := Kp.mk hml
            have CE : Kp (∀ v oa oc U, Below w6.heap.size w6 v → RdPo v oa pn oc U → (∀ i, (U i).l = (U1 i).l ∧ (U i).g = (U1 i).g) → Calls Tryd.prog 46 #[.slice pa pn pc, .slice oa pn oc] v fun e w' => ∃ va ca da dc U4, e = .returned (.tuple #[.slice va pn ca, .slice da ml dc, .nilIface]) ∧ Kp (RdPo w' va pn ca U4 ∧ (∀ j, j < pn → (U4 j).l = (outS P U1 j).l ∧ (U4 j).g = (outS P U1 j).g) ∧ RdRows w' 2 da ml dc (fun i => ((outM P U1 pn).getD i zMsg).row)) ∧ Below v.heap.size v w') := ⟨fun v oa oc U hv p2 p3 => (port_emit_two A pa pn pc P oa pn oc U v (M1.out.later hv) p2 0 (-1) (HAE.out.same p3) (by omega) (ME.out.later hv)).mono fun e w' ⟨v1, d1, ev, h1, h2, h3, h4⟩ => by
              rw [outS_same p3, outM_same p3, cutN0, cutN0, ← hml] at h3
              obtain ⟨aa, ac, da, dc, U4, rfl, g2, g3, rfl, g5⟩ := h3
              obtain rfl := errP_nil h2
              exact ⟨aa, ac, da, dc, U4, h1, ⟨g2, g3, g5⟩, h4⟩⟩
            have BW : Kp (∀ v, Below wr.heap.size wr v → Below w6.heap.size w6 v) := ⟨fun v hv => bthen HB.out hv⟩
            clear hml hpn
            go_wp2_with fail
            go_region_held3 (fun v => v.cell? ⟨w.heap.size, 7, none⟩ = some (.slice pa pn pc) ∧ v.cell? ⟨w.heap.size, 8, none⟩ = some (.slice qa pn qc) ∧ v.cell? ⟨w.heap.size, 9, none⟩ = some (.slice ma mn mc)) (first | exact KW.out _ (BW.out _ (Drew.once _).below) | exact KW.out _ HX4.out | exact KW.out _ HX2.out)
              (first
                | (go_at_call 41; (with_reducible refine (C42.out _ (BW.out _ (Drew.once _).below)).mono ?_); rintro e x2 ⟨oa, oc, U, rfl, hu, hb⟩; have HX2 : Kp (Below w6.heap.size w6 x2) := ⟨bthen (BW.out _ (Drew.once _).below) hb⟩; clear hb)
                | (go_at_call 46; (with_reducible refine (CE.out _ oa oc U HX2.out hu.out.1 hu.out.2).mono ?_); rintro e x4 ⟨va2, ca2, da2, dc2, U4, rfl, hq, hb⟩; have HX4 : Kp (Below w6.heap.size w6 x4) := ⟨bthen HX2.out hb⟩; have HQ4 := Kp.mk hq; clear hb))
            all_goals (
              clear s7 s8 s9 HX2 hu hq C42 CE BW HB
              obtain ⟨s7, s8, s9⟩ := KW.out x4 HX4.out
              obtain ⟨LM, hLM⟩ : ∃ F : Nat → Nat, F = fun i => (outM P U1 i).length := ⟨_, rfl⟩
              have HLM : Kp (∀ i, LM i = (outM P U1 i).length) := ⟨fun i => by rw [hLM]⟩
              obtain ⟨FO, hFO⟩ : ∃ F : Nat → Nat, F = fun i => (outS P U1 i).l.length := ⟨_, rfl⟩
              have HFO : Kp (∀ i, FO i = (outS P U1 i).l.length) := ⟨fun i => by rw [hFO]⟩
              have FO8 : Kp (∀ i, i < pn → FO i ≤ 8) := ⟨fun i hi => by
                rw [HFO.out]; unfold outS
                cases inK (P i).kind
                · simp
                · exact (good_sm (UG.out i hi)).1⟩
              have LM8 : Kp (∀ i, i ≤ pn → LM i ≤ 8 * i) := ⟨fun i hi => by rw [HLM.out]; exact outM_len UG.out i hi⟩
              have LMM : Kp (∀ i, i ≤ pn → LM i ≤ ml) := ⟨fun i hi => by rw [HLM.out, HML.out]; exact outM_mono P U1 hi⟩
              have HHL : Kp (sumA FO pn + ml = sumA F1 pn) := ⟨by
                have := held_law P U1 pn
                rw [HML.out, hFO, sumA_congr (F := F1) (F' := fun i => (U1 i).l.length) pn (fun i _ => HF1.out i)]; exact this⟩
              have hml8 : ml ≤ 8388608 := by
                have h1 := HML.out
                have h2 := outM_len UG.out pn (Nat.le_refl _)
                have h3 := HPN.out
                omega
              clear hLM hFO
              go_wp2_with fail
              go_loopw [17, 18, 19] (fun lv av iv wr => ∃ (i sl : Nat), i ≤ pn ∧ iv = .int .i64 (i : Int) ∧ lv = .int .i64 (sl : Int) ∧ av = .int .i64 (LM i : Int) ∧ Kp (sl = sumA FO i) ∧ Kp (Below x4.heap.size x4 wr)) (fun _ _ iv _ => pn - (intOf iv).toNat)
              case atStart => exact ⟨0, 0, by omega, rfl, rfl, by rw [HLM.out]; rfl, ⟨rfl⟩, ⟨Below.refl _ _⟩⟩
              case round =>
                clear s7 s8 s9
                obtain ⟨i, sl, hi, rfl, rfl, rfl, HSL, HB⟩ := hrel
                obtain ⟨s7, s8, s9⟩ := KW.out wr (bthen HX4.out HB.out)
                have hsl : sl ≤ 8 * i := by rw [HSL.out]; exact sumA_le FO8.out i hi
                have hlm := LM8.out i hi
                have hpn := HPN.out
                by_cases hlt : i < pn
                · have t1 : decide ((i : Int) < pn) = true := decide_eq_true (by omega)
                  have t2 : (0 : Int) ≤ (i : Int) := by omega
                  have t3 : (i : Int) < (pn : Int) := by omega
                  obtain ⟨b, off, ha, c0, c1, c2, c3⟩ := (M1.out.later (bthen HX4.out HB.out)).at i hlt
                  obtain ⟨ub, uo, hua, u0, u1⟩ := (QA.out.later (bthen HX4.out HB.out)).at i hlt
                  obtain ⟨eb, eo, hea, v0, v1⟩ := (HQ4.out.out.1.later HB.out).at i hlt
                  have hru := (QA.out.later (bthen HX4.out HB.out)).rd i hlt
                  have hre := (HQ4.out.out.1.later HB.out).rd i hlt
                  obtain ⟨hel, heg⟩ := HQ4.out.out.2.1 i hlt
                  have hfo := HFO.out i
                  have hf8 := FO8.out i hlt
                  have hsa : sumA FO (i + 1) = sumA FO i + FO i := rfl
                  have hlm1 := HLM.out (i + 1)
                  have hgi := UG.out i hlt
                  have hat := fun k => outM_at P U1 pn i k hlt
                  have hou : outS P U1 i = bif inK (P i).kind then ⟨(U1 i).l, (U1 i).g⟩ else ⟨[], 0⟩ := rfl
                  have hl1 := outM_len1 P U1 i
                  have hl0 := outM_len0 P U1 i
                  obtain ⟨⟨pk, ps, pd, pr⟩, hp⟩ : ∃ x, x = P i := ⟨_, rfl⟩
                  obtain ⟨⟨ua, um, uc, ug, ul⟩, hu⟩ : ∃ x, x = U1 i := ⟨_, rfl⟩
                  obtain ⟨⟨ea, em, ec, eg, el⟩, he⟩ : ∃ x, x = U4 i := ⟨_, rfl⟩
                  rw [← hp] at c0 hgi hou hl1 hl0 hat
                  rw [← hu] at u0 u1 hru hgi hou hl1 hat
                  rw [← he] at v0 v1 hre hel heg
                  have c0 : wr.cell? ⟨b, off + i * 4, none⟩ = some (.int .i64 pk) := c0
                  have u0 : wr.cell? ⟨ub, uo + i * 2, none⟩ = some (.slice ua um uc) := u0
                  have u1 : wr.cell? ⟨ub, uo + i * 2 + 1, none⟩ = some (.int .i64 ug) := u1
                  have v0 : wr.cell? ⟨eb, eo + i * 2, none⟩ = some (.slice ea em ec) := v0
                  have v1 : wr.cell? ⟨eb, eo + i * 2 + 1, none⟩ = some (.int .i64 eg) := v1
                  replace hru : RdS wr ua um uc ul := hru
                  replace hre : RdS wr ea em ec el := hre
                  have hulen : ul.length = um := hru.len
                  have helen : el.length = em := hre.len
                  replace hel : el = (outS P U1 i).l := hel
                  replace heg : eg = (outS P U1 i).g := heg
                  have hem : em ≤ 8 := by rw [← helen, hel, ← hfo]; exact hf8
                  have hum : um ≤ 8 := by rw [← hulen]; exact (good_sm hgi).1
                  have HSL2 : Kp (sl + em = sumA FO (i + 1)) := ⟨by rw [hsa, HSL.out, hfo, ← hel, helen]⟩
                  subst ha; subst hua; subst hea
                  clear hfo hsa hp hu he
                  by_cases hkin : inK pk = true
                  · have hko := inK_or hkin
                    have houi : outS P U1 i = ⟨ul, ug⟩ := by rw [hou]; show (bif inK pk then _ else _) = _; rw [hkin]; rfl
                    have hel2 : el = ul := by rw [hel, houi]
                    have heg2 : eg = ug := by rw [heg, houi]
                    have hlmi : LM (i + 1) = LM i := by rw [hlm1, hl0 hkin, ← HLM.out]
                    have HSAME : Kp (∀ v, Below wr.heap.size wr v → Calls Tryd.prog 26 #[.agg (portA ea em ec eg), .agg (portA ua um uc ug)] v fun e w' => e = .returned (.bool true) ∧ Below wr.heap.size wr w') := ⟨fun v hv => by
                      rw [heg2]
                      exact (ref_same ea em ec ua um uc ul ug v (by have := hre.later hv; rw [hel2] at this; exact this) (hru.later hv)).mono fun e w' ⟨h1, h2⟩ => ⟨h1, hv.trans (h2.mono hv.size)⟩⟩
                    have SQ5 : Kp (∀ v, Below wr.heap.size wr v → v.cell? ⟨ub, uo + i * 2, none⟩ = some (.slice ua um uc) ∧ v.cell? ⟨ub, uo + i * 2 + 1, none⟩ = some (.int .i64 ug) ∧ v.cell? ⟨eb, eo + i * 2, none⟩ = some (.slice ea em ec) ∧ v.cell? ⟨eb, eo + i * 2 + 1, none⟩ = some (.int .i64 eg)) := ⟨fun v hv => ⟨scell_later hv u0, scell_later hv u1, scell_later hv v0, scell_later hv v1⟩⟩
                    clear hel heg hel2 heg2 houi hou hl0 hl1 hlm1 hat hru hre hulen helen hgi hkin hf8
                    rcases hko with hk1 | hk3
                    · as_aux_lemma =>
                        have t5 : (pk == 1) = true := by simp [hk1]
                        clear hk1
                        go_wp2_with fail
                        refine wp_region_held_drew (S := fun v => v.cell? ⟨ub, uo + i * 2, none⟩ = some (.slice ua um uc) ∧ v.cell? ⟨ub, uo + i * 2 + 1, none⟩ = some (.int .i64 ug) ∧ v.cell? ⟨eb, eo + i * 2, none⟩ = some (.slice ea em ec) ∧ v.cell? ⟨eb, eo + i * 2 + 1, none⟩ = some (.int .i64 eg)) (by kernel_rfl) (SQ5.out _ (Drew.once _).below) (fun hHeld => ?_)
                        refine wpAnyH_take (i := 0) (v := ?v0a) rfl (by kernel_rfl) (by kernel_rfl) (by kernel_rfl) (fun _ _ _ h => h) (Or.inl ⟨by rfl, ?hy0a⟩) (by assumption) ?rest0a
                        case hy0a => (intro w0 hSw; (try dsimp only at hSw); (try simp only [List.getElem_toArray, List.getElem_cons_zero, List.getElem_cons_succ]); go_simp) <;> (with_reducible rfl)
                        try simp only [Act.put, List.getElem_toArray, List.getElem_cons_zero, List.getElem_cons_succ, List.setIfInBounds_toArray, List.set_cons_zero, List.set_cons_succ]
                        refine wpAnyH_take (i := 1) (v := ?v1a) rfl (by kernel_rfl) (by kernel_rfl) (by kernel_rfl) (fun _ _ _ h => h) (Or.inl ⟨by rfl, ?hy1a⟩) (by assumption) ?rest1a
                        case hy1a => (intro w0 hSw; (try dsimp only at hSw); (try simp only [List.getElem_toArray, List.getElem_cons_zero, List.getElem_cons_succ]); go_simp) <;> (with_reducible rfl)
                        try simp only [Act.put, List.getElem_toArray, List.getElem_cons_zero, List.getElem_cons_succ, List.setIfInBounds_toArray, List.set_cons_zero, List.set_cons_succ]
                        refine wpAnyH_take (i := 2) (v := ?v2a) rfl (by kernel_rfl) (by kernel_rfl) (by kernel_rfl) (fun _ _ _ h => h) (Or.inl ⟨by rfl, ?hy2a⟩) (by assumption) ?rest2a
                        case hy2a => (intro w0 hSw; (try dsimp only at hSw); (try simp only [List.getElem_toArray, List.getElem_cons_zero, List.getElem_cons_succ]); go_simp) <;> (with_reducible rfl)
                        try simp only [Act.put, List.getElem_toArray, List.getElem_cons_zero, List.getElem_cons_succ, List.setIfInBounds_toArray, List.set_cons_zero, List.set_cons_succ]
                        refine wpAnyH_take (i := 3) (v := ?v3a) rfl (by kernel_rfl) (by kernel_rfl) (by kernel_rfl) (fun _ _ _ h => h) (Or.inl ⟨by rfl, ?hy3a⟩) (by assumption) ?rest3a
                        case hy3a => (intro w0 hSw; (try dsimp only at hSw); (try simp only [List.getElem_toArray, List.getElem_cons_zero, List.getElem_cons_succ]); go_simp) <;> (with_reducible rfl)
                        try simp only [Act.put, List.getElem_toArray, List.getElem_cons_zero, List.getElem_cons_succ, List.setIfInBounds_toArray, List.set_cons_zero, List.set_cons_succ]
                        refine wpAnyH_take (i := 4) (v := ?v4a) rfl (by kernel_rfl) (by kernel_rfl) (by kernel_rfl) (fun _ _ _ h => h) (Or.inl ⟨by rfl, ?hy4a⟩) (by assumption) ?rest4a
                        case hy4a => (intro w0 hSw; (try dsimp only at hSw); (try simp only [List.getElem_toArray, List.getElem_cons_zero, List.getElem_cons_succ]); go_simp) <;> (with_reducible rfl)
                        try simp only [Act.put, List.getElem_toArray, List.getElem_cons_zero, List.getElem_cons_succ, List.setIfInBounds_toArray, List.set_cons_zero, List.set_cons_succ]
                        refine wpAnyH_take (i := 5) (v := ?v5a) rfl (by kernel_rfl) (by kernel_rfl) (by kernel_rfl) (fun _ _ _ h => h) (Or.inl ⟨by rfl, ?hy5a⟩) (by assumption) ?rest5a
                        case hy5a => (intro w0 hSw; (try dsimp only at hSw); (try simp only [List.getElem_toArray, List.getElem_cons_zero, List.getElem_cons_succ]); go_simp) <;> (with_reducible rfl)
                        try simp only [Act.put, List.getElem_toArray, List.getElem_cons_zero, List.getElem_cons_succ, List.setIfInBounds_toArray, List.set_cons_zero, List.set_cons_succ]
                        refine wpAnyH_take (i := 6) (v := ?v6a) rfl (by kernel_rfl) (by kernel_rfl) (by kernel_rfl) (fun _ _ _ h => h) (Or.inl ⟨by rfl, ?hy6a⟩) (by assumption) ?rest6a
                        case hy6a => (intro w0 hSw; (try dsimp only at hSw); (try simp only [List.getElem_toArray, List.getElem_cons_zero, List.getElem_cons_succ]); go_simp) <;> (with_reducible rfl)
                        try simp only [Act.put, List.getElem_toArray, List.getElem_cons_zero, List.getElem_cons_succ, List.setIfInBounds_toArray, List.set_cons_zero, List.set_cons_succ]
                        refine wpAnyH_take (i := 7) (v := ?v7a) rfl (by kernel_rfl) (by kernel_rfl) (by kernel_rfl) (fun _ _ _ h => h) (Or.inl ⟨by rfl, ?hy7a⟩) (by assumption) ?rest7a
                        case hy7a => (intro w0 hSw; (try dsimp only at hSw); (try simp only [List.getElem_toArray, List.getElem_cons_zero, List.getElem_cons_succ]); go_simp) <;> (with_reducible rfl)
                        try simp only [Act.put, List.getElem_toArray, List.getElem_cons_zero, List.getElem_cons_succ, List.setIfInBounds_toArray, List.set_cons_zero, List.set_cons_succ]
                        refine wpAnyH_take (i := 8) (v := ?v8a) rfl (by kernel_rfl) (by kernel_rfl) (by kernel_rfl) (fun _ _ _ h => h) (Or.inl ⟨by rfl, ?hy8a⟩) (by assumption) ?rest8a
                        case hy8a => (intro w0 hSw; (try dsimp only at hSw); (try simp only [List.getElem_toArray, List.getElem_cons_zero, List.getElem_cons_succ]); go_simp) <;> (with_reducible rfl)
                        try simp only [Act.put, List.getElem_toArray, List.getElem_cons_zero, List.getElem_cons_succ, List.setIfInBounds_toArray, List.set_cons_zero, List.set_cons_succ]
                        refine wpAnyH_take (i := 9) (v := ?v9a) rfl (by kernel_rfl) (by kernel_rfl) (by kernel_rfl) (fun _ _ _ h => h) (Or.inl ⟨by rfl, ?hy9a⟩) (by assumption) ?rest9a
                        case hy9a => (intro w0 hSw; (try dsimp only at hSw); (try simp only [List.getElem_toArray, List.getElem_cons_zero, List.getElem_cons_succ]); go_simp) <;> (with_reducible rfl)
                        try simp only [Act.put, List.getElem_toArray, List.getElem_cons_zero, List.getElem_cons_succ, List.setIfInBounds_toArray, List.set_cons_zero, List.set_cons_succ]
                        refine wpAnyH_ready (rs := [10]) (by kernel_rfl) (by simp) ?_
                        refine AllReadyH.cons rfl (fun K hK => ?_) AllReadyH.nil
                        go_simp
                        refine (HSAME.out _ (Drew.once _).below).mono ?_
                        rintro e x1 ⟨rfl, hb⟩
                        have HX1 := Kp.mk hb
                        clear hb
                        go_wp2_with fail
                        refine hK.out _ _ (SQ5.out _ HX1.out) (fun hHeld => ?_)
                        clear hK K
                        try simp only [Act.put, List.getElem_toArray, List.getElem_cons_zero, List.getElem_cons_succ, List.setIfInBounds_toArray, List.set_cons_zero, List.set_cons_succ]
                        refine wpAnyH_take (i := 11) (v := ?v11a) rfl (by kernel_rfl) (by kernel_rfl) (by kernel_rfl) (fun _ _ _ h => h) (Or.inl ⟨by rfl, ?hy11a⟩) (by assumption) ?rest11a
                        case hy11a => (intro w0 hSw; (try dsimp only at hSw); (try simp only [List.getElem_toArray, List.getElem_cons_zero, List.getElem_cons_succ]); go_simp) <;> (with_reducible rfl)
                        try simp only [Act.put, List.getElem_toArray, List.getElem_cons_zero, List.getElem_cons_succ, List.setIfInBounds_toArray, List.set_cons_zero, List.set_cons_succ]
                        refine wpAnyH_take (i := 12) (v := ?v12a) rfl (by kernel_rfl) (by kernel_rfl) (by kernel_rfl) (fun _ _ _ h => h) (Or.inl ⟨by rfl, ?hy12a⟩) (by assumption) ?rest12a
                        case hy12a => (intro w0 hSw; (try dsimp only at hSw); (try simp only [List.getElem_toArray, List.getElem_cons_zero, List.getElem_cons_succ]); go_simp) <;> (with_reducible rfl)
                        try simp only [Act.put, List.getElem_toArray, List.getElem_cons_zero, List.getElem_cons_succ, List.setIfInBounds_toArray, List.set_cons_zero, List.set_cons_succ]
                        refine wpAnyH_take (i := 13) (v := ?v13a) rfl (by kernel_rfl) (by kernel_rfl) (by kernel_rfl) (fun _ _ _ h => h) (Or.inl ⟨by rfl, ?hy13a⟩) (by assumption) ?rest13a
                        case hy13a => (intro w0 hSw; (try dsimp only at hSw); (try simp only [List.getElem_toArray, List.getElem_cons_zero, List.getElem_cons_succ]); go_simp) <;> (with_reducible rfl)
                        try simp only [Act.put, List.getElem_toArray, List.getElem_cons_zero, List.getElem_cons_succ, List.setIfInBounds_toArray, List.set_cons_zero, List.set_cons_succ]
                        refine wpAnyH_take (i := 14) (v := ?v14a) rfl (by kernel_rfl) (by kernel_rfl) (by kernel_rfl) (fun _ _ _ h => h) (Or.inl ⟨by rfl, ?hy14a⟩) (by assumption) ?rest14a
                        case hy14a => (intro w0 hSw; (try dsimp only at hSw); (try simp only [List.getElem_toArray, List.getElem_cons_zero, List.getElem_cons_succ]); go_simp) <;> (with_reducible rfl)
                        try simp only [Act.put, List.getElem_toArray, List.getElem_cons_zero, List.getElem_cons_succ, List.setIfInBounds_toArray, List.set_cons_zero, List.set_cons_succ]
                        refine wpAnyH_take (i := 15) (v := ?v15a) rfl (by kernel_rfl) (by kernel_rfl) (by kernel_rfl) (fun _ _ _ h => h) (Or.inl ⟨by rfl, ?hy15a⟩) (by assumption) ?rest15a
                        case hy15a => (intro w0 hSw; (try dsimp only at hSw); (try simp only [List.getElem_toArray, List.getElem_cons_zero, List.getElem_cons_succ]); go_simp) <;> (with_reducible rfl)
                        try simp only [Act.put, List.getElem_toArray, List.getElem_cons_zero, List.getElem_cons_succ, List.setIfInBounds_toArray, List.set_cons_zero, List.set_cons_succ]
                        refine wpAnyH_take (i := 16) (v := ?v16a) rfl (by kernel_rfl) (by kernel_rfl) (by kernel_rfl) (fun _ _ _ h => h) (Or.inl ⟨by rfl, ?hy16a⟩) (by assumption) ?rest16a
                        case hy16a => (intro w0 hSw; (try dsimp only at hSw); (try simp only [List.getElem_toArray, List.getElem_cons_zero, List.getElem_cons_succ]); go_simp) <;> (with_reducible rfl)
                        try simp only [Act.put, List.getElem_toArray, List.getElem_cons_zero, List.getElem_cons_succ, List.setIfInBounds_toArray, List.set_cons_zero, List.set_cons_succ]
                        refine wpAnyH_take (i := 17) (v := undef) rfl (by kernel_rfl) (by kernel_rfl) (by kernel_rfl) (fun _ _ _ h => h) (Or.inr ⟨by rfl, rfl⟩) (by assumption) ?_
                        try simp only [Act.put, List.getElem_toArray, List.getElem_cons_zero, List.getElem_cons_succ, List.setIfInBounds_toArray, List.set_cons_zero, List.set_cons_succ]
                        refine wpAnyH_take (i := 18) (v := undef) rfl (by kernel_rfl) (by kernel_rfl) (by kernel_rfl) (fun _ _ _ h => h) (Or.inr ⟨by rfl, rfl⟩) (by assumption) ?_
                        try simp only [Act.put, List.getElem_toArray, List.getElem_cons_zero, List.getElem_cons_succ, List.setIfInBounds_toArray, List.set_cons_zero, List.set_cons_succ]
                        refine wpAnyH_take (i := 19) (v := undef) rfl (by kernel_rfl) (by kernel_rfl) (by kernel_rfl) (fun _ _ _ h => h) (Or.inr ⟨by rfl, rfl⟩) (by assumption) ?_
                        try simp only [Act.put, List.getElem_toArray, List.getElem_cons_zero, List.getElem_cons_succ, List.setIfInBounds_toArray, List.set_cons_zero, List.set_cons_succ]
                        refine wpAnyH_take (i := 20) (v := undef) rfl (by kernel_rfl) (by kernel_rfl) (by kernel_rfl) (fun _ _ _ h => h) (Or.inr ⟨by rfl, rfl⟩) (by assumption) ?_
                        try simp only [Act.put, List.getElem_toArray, List.getElem_cons_zero, List.getElem_cons_succ, List.setIfInBounds_toArray, List.set_cons_zero, List.set_cons_succ]
                        refine wpAnyH_take (i := 21) (v := undef) rfl (by kernel_rfl) (by kernel_rfl) (by kernel_rfl) (fun _ _ _ h => h) (Or.inr ⟨by rfl, rfl⟩) (by assumption) ?_
                        try simp only [Act.put, List.getElem_toArray, List.getElem_cons_zero, List.getElem_cons_succ, List.setIfInBounds_toArray, List.set_cons_zero, List.set_cons_succ]
                        refine wpAnyH_take (i := 22) (v := undef) rfl (by kernel_rfl) (by kernel_rfl) (by kernel_rfl) (fun _ _ _ h => h) (Or.inr ⟨by rfl, rfl⟩) (by assumption) ?_
                        try simp only [Act.put, List.getElem_toArray, List.getElem_cons_zero, List.getElem_cons_succ, List.setIfInBounds_toArray, List.set_cons_zero, List.set_cons_succ]
                        refine wpAnyH_take (i := 23) (v := undef) rfl (by kernel_rfl) (by kernel_rfl) (by kernel_rfl) (fun _ _ _ h => h) (Or.inr ⟨by rfl, rfl⟩) (by assumption) ?_
                        try simp only [Act.put, List.getElem_toArray, List.getElem_cons_zero, List.getElem_cons_succ, List.setIfInBounds_toArray, List.set_cons_zero, List.set_cons_succ]
                        refine wpAnyH_take (i := 24) (v := undef) rfl (by kernel_rfl) (by kernel_rfl) (by kernel_rfl) (fun _ _ _ h => h) (Or.inr ⟨by rfl, rfl⟩) (by assumption) ?_
                        try simp only [Act.put, List.getElem_toArray, List.getElem_cons_zero, List.getElem_cons_succ, List.setIfInBounds_toArray, List.set_cons_zero, List.set_cons_succ]
                        refine wpAnyH_take (i := 25) (v := undef) rfl (by kernel_rfl) (by kernel_rfl) (by kernel_rfl) (fun _ _ _ h => h) (Or.inr ⟨by rfl, rfl⟩) (by assumption) ?_
                        try simp only [Act.put, List.getElem_toArray, List.getElem_cons_zero, List.getElem_cons_succ, List.setIfInBounds_toArray, List.set_cons_zero, List.set_cons_succ]
                        refine wpAnyH_take (i := 26) (v := undef) rfl (by kernel_rfl) (by kernel_rfl) (by kernel_rfl) (fun _ _ _ h => h) (Or.inr ⟨by rfl, rfl⟩) (by assumption) ?_
                        try simp only [Act.put, List.getElem_toArray, List.getElem_cons_zero, List.getElem_cons_succ, List.setIfInBounds_toArray, List.set_cons_zero, List.set_cons_succ]
                        refine wpAnyH_take (i := 27) (v := undef) rfl (by kernel_rfl) (by kernel_rfl) (by kernel_rfl) (fun _ _ _ h => h) (Or.inr ⟨by rfl, rfl⟩) (by assumption) ?_
                        try simp only [Act.put, List.getElem_toArray, List.getElem_cons_zero, List.getElem_cons_succ, List.setIfInBounds_toArray, List.set_cons_zero, List.set_cons_succ]
                        refine wpAnyH_take (i := 28) (v := undef) rfl (by kernel_rfl) (by kernel_rfl) (by kernel_rfl) (fun _ _ _ h => h) (Or.inr ⟨by rfl, rfl⟩) (by assumption) ?_
                        try simp only [Act.put, List.getElem_toArray, List.getElem_cons_zero, List.getElem_cons_succ, List.setIfInBounds_toArray, List.set_cons_zero, List.set_cons_succ]
                        refine wpAnyH_take (i := 29) (v := undef) rfl (by kernel_rfl) (by kernel_rfl) (by kernel_rfl) (fun _ _ _ h => h) (Or.inr ⟨by rfl, rfl⟩) (by assumption) ?_
                        try simp only [Act.put, List.getElem_toArray, List.getElem_cons_zero, List.getElem_cons_succ, List.setIfInBounds_toArray, List.set_cons_zero, List.set_cons_succ]
                        refine wpAnyH_take (i := 30) (v := undef) rfl (by kernel_rfl) (by kernel_rfl) (by kernel_rfl) (fun _ _ _ h => h) (Or.inr ⟨by rfl, rfl⟩) (by assumption) ?_
                        try simp only [Act.put, List.getElem_toArray, List.getElem_cons_zero, List.getElem_cons_succ, List.setIfInBounds_toArray, List.set_cons_zero, List.set_cons_succ]
                        refine wpAnyH_take (i := 31) (v := undef) rfl (by kernel_rfl) (by kernel_rfl) (by kernel_rfl) (fun _ _ _ h => h) (Or.inr ⟨by rfl, rfl⟩) (by assumption) ?_
                        try simp only [Act.put, List.getElem_toArray, List.getElem_cons_zero, List.getElem_cons_succ, List.setIfInBounds_toArray, List.set_cons_zero, List.set_cons_succ]
                        refine wpAnyH_take (i := 32) (v := ?v32a) rfl (by kernel_rfl) (by kernel_rfl) (by kernel_rfl) (fun _ _ _ h => h) (Or.inl ⟨by rfl, ?hy32a⟩) (by assumption) ?rest32a
                        case hy32a => (intro w0 hSw; (try dsimp only at hSw); (try simp only [List.getElem_toArray, List.getElem_cons_zero, List.getElem_cons_succ]); go_simp) <;> (with_reducible rfl)
                        try simp only [Act.put, List.getElem_toArray, List.getElem_cons_zero, List.getElem_cons_succ, List.setIfInBounds_toArray, List.set_cons_zero, List.set_cons_succ]
                        refine wpAnyH_take (i := 33) (v := ?v33a) rfl (by kernel_rfl) (by kernel_rfl) (by kernel_rfl) (fun _ _ _ h => h) (Or.inl ⟨by rfl, ?hy33a⟩) (by assumption) ?rest33a
                        case hy33a => (intro w0 hSw; (try dsimp only at hSw); (try simp only [List.getElem_toArray, List.getElem_cons_zero, List.getElem_cons_succ]); go_simp) <;> (with_reducible rfl)
                        try simp only [Act.put, List.getElem_toArray, List.getElem_cons_zero, List.getElem_cons_succ, List.setIfInBounds_toArray, List.set_cons_zero, List.set_cons_succ]
                        refine wpAnyH_done (by kernel_rfl) ?_ _
                        clear hHeld
                        have HX1b := HX1
                        clear u0 u1 v0 v1 s7 s8 s9
                        go_wp2_with fail
                        go_loopw [18, 21] (fun av kv wr => av = .int .i64 (LM i : Int) ∧ kv = .int .i64 0 ∧ Kp (Below x1.heap.size x1 wr)) (fun _ _ _ => 0)
                        case atStart => exact ⟨rfl, rfl, ⟨Below.refl _ _⟩⟩
                        case round =>
                          obtain ⟨rfl, rfl, HBY⟩ := hrel
                          obtain ⟨u0, u1, v0, v1⟩ := SQ5.out wr (bthen HX1.out HBY.out)
                          by_cases hu0 : 0 < um
                          · have t9 : decide ((0 : Int) < (um : Int)) = true := decide_eq_true (by omega)
                            clear hu0
                            have HB9 : Kp (Below x4.heap.size x4 wr) := ⟨bthen HB.out (bthen HX1.out HBY.out)⟩
                            clear HBY
                            go_wp2_with fail
                            all_goals (
                              go_roundw
                              case rel => exact ⟨i + 1, sl + em, by omega, by go_num, by go_num, by rw [hlmi], HSL2, HB9⟩
                              case measure => simp [intOf]; omega)
                          · have t9 : decide ((0 : Int) < (um : Int)) = false := decide_eq_false (by omega)
                            clear hu0
                            have HB9 : Kp (Below x4.heap.size x4 wr) := ⟨bthen HB.out (bthen HX1.out HBY.out)⟩
                            clear HBY
                            go_wp2_with fail
                            all_goals (
                              go_roundw
                              case rel => exact ⟨i + 1, sl + em, by omega, by go_num, by go_num, by rw [hlmi], HSL2, HB9⟩
                              case measure => simp [intOf]; omega)
                    · as_aux_lemma =>
                        have t5 : (pk == 1) = false := by simp [hk3]
                        have t6 : (pk == 3) = true := by simp [hk3]
                        clear hk3
                        go_wp2_with fail
                        refine wp_region_held_drew (S := fun v => v.cell? ⟨ub, uo + i * 2, none⟩ = some (.slice ua um uc) ∧ v.cell? ⟨ub, uo + i * 2 + 1, none⟩ = some (.int .i64 ug) ∧ v.cell? ⟨eb, eo + i * 2, none⟩ = some (.slice ea em ec) ∧ v.cell? ⟨eb, eo + i * 2 + 1, none⟩ = some (.int .i64 eg)) (by kernel_rfl) (SQ5.out _ (Drew.once _).below) (fun hHeld => ?_)
                        refine wpAnyH_take (i := 0) (v := ?v0b) rfl (by kernel_rfl) (by kernel_rfl) (by kernel_rfl) (fun _ _ _ h => h) (Or.inl ⟨by rfl, ?hy0b⟩) (by assumption) ?rest0b
                        case hy0b => (intro w0 hSw; (try dsimp only at hSw); (try simp only [List.getElem_toArray, List.getElem_cons_zero, List.getElem_cons_succ]); go_simp) <;> (with_reducible rfl)
                        try simp only [Act.put, List.getElem_toArray, List.getElem_cons_zero, List.getElem_cons_succ, List.setIfInBounds_toArray, List.set_cons_zero, List.set_cons_succ]
                        refine wpAnyH_take (i := 1) (v := ?v1b) rfl (by kernel_rfl) (by kernel_rfl) (by kernel_rfl) (fun _ _ _ h => h) (Or.inl ⟨by rfl, ?hy1b⟩) (by assumption) ?rest1b
                        case hy1b => (intro w0 hSw; (try dsimp only at hSw); (try simp only [List.getElem_toArray, List.getElem_cons_zero, List.getElem_cons_succ]); go_simp) <;> (with_reducible rfl)
                        try simp only [Act.put, List.getElem_toArray, List.getElem_cons_zero, List.getElem_cons_succ, List.setIfInBounds_toArray, List.set_cons_zero, List.set_cons_succ]
                        refine wpAnyH_take (i := 2) (v := ?v2b) rfl (by kernel_rfl) (by kernel_rfl) (by kernel_rfl) (fun _ _ _ h => h) (Or.inl ⟨by rfl, ?hy2b⟩) (by assumption) ?rest2b
                        case hy2b => (intro w0 hSw; (try dsimp only at hSw); (try simp only [List.getElem_toArray, List.getElem_cons_zero, List.getElem_cons_succ]); go_simp) <;> (with_reducible rfl)
                        try simp only [Act.put, List.getElem_toArray, List.getElem_cons_zero, List.getElem_cons_succ, List.setIfInBounds_toArray, List.set_cons_zero, List.set_cons_succ]
                        refine wpAnyH_take (i := 3) (v := ?v3b) rfl (by kernel_rfl) (by kernel_rfl) (by kernel_rfl) (fun _ _ _ h => h) (Or.inl ⟨by rfl, ?hy3b⟩) (by assumption) ?rest3b
                        case hy3b => (intro w0 hSw; (try dsimp only at hSw); (try simp only [List.getElem_toArray, List.getElem_cons_zero, List.getElem_cons_succ]); go_simp) <;> (with_reducible rfl)
                        try simp only [Act.put, List.getElem_toArray, List.getElem_cons_zero, List.getElem_cons_succ, List.setIfInBounds_toArray, List.set_cons_zero, List.set_cons_succ]
                        refine wpAnyH_take (i := 4) (v := ?v4b) rfl (by kernel_rfl) (by kernel_rfl) (by kernel_rfl) (fun _ _ _ h => h) (Or.inl ⟨by rfl, ?hy4b⟩) (by assumption) ?rest4b
                        case hy4b => (intro w0 hSw; (try dsimp only at hSw); (try simp only [List.getElem_toArray, List.getElem_cons_zero, List.getElem_cons_succ]); go_simp) <;> (with_reducible rfl)
                        try simp only [Act.put, List.getElem_toArray, List.getElem_cons_zero, List.getElem_cons_succ, List.setIfInBounds_toArray, List.set_cons_zero, List.set_cons_succ]
                        refine wpAnyH_take (i := 5) (v := ?v5b) rfl (by kernel_rfl) (by kernel_rfl) (by kernel_rfl) (fun _ _ _ h => h) (Or.inl ⟨by rfl, ?hy5b⟩) (by assumption) ?rest5b
                        case hy5b => (intro w0 hSw; (try dsimp only at hSw); (try simp only [List.getElem_toArray, List.getElem_cons_zero, List.getElem_cons_succ]); go_simp) <;> (with_reducible rfl)
                        try simp only [Act.put, List.getElem_toArray, List.getElem_cons_zero, List.getElem_cons_succ, List.setIfInBounds_toArray, List.set_cons_zero, List.set_cons_succ]
                        refine wpAnyH_take (i := 6) (v := ?v6b) rfl (by kernel_rfl) (by kernel_rfl) (by kernel_rfl) (fun _ _ _ h => h) (Or.inl ⟨by rfl, ?hy6b⟩) (by assumption) ?rest6b
                        case hy6b => (intro w0 hSw; (try dsimp only at hSw); (try simp only [List.getElem_toArray, List.getElem_cons_zero, List.getElem_cons_succ]); go_simp) <;> (with_reducible rfl)
                        try simp only [Act.put, List.getElem_toArray, List.getElem_cons_zero, List.getElem_cons_succ, List.setIfInBounds_toArray, List.set_cons_zero, List.set_cons_succ]
                        refine wpAnyH_take (i := 7) (v := ?v7b) rfl (by kernel_rfl) (by kernel_rfl) (by kernel_rfl) (fun _ _ _ h => h) (Or.inl ⟨by rfl, ?hy7b⟩) (by assumption) ?rest7b
                        case hy7b => (intro w0 hSw; (try dsimp only at hSw); (try simp only [List.getElem_toArray, List.getElem_cons_zero, List.getElem_cons_succ]); go_simp) <;> (with_reducible rfl)
                        try simp only [Act.put, List.getElem_toArray, List.getElem_cons_zero, List.getElem_cons_succ, List.setIfInBounds_toArray, List.set_cons_zero, List.set_cons_succ]
                        refine wpAnyH_take (i := 8) (v := ?v8b) rfl (by kernel_rfl) (by kernel_rfl) (by kernel_rfl) (fun _ _ _ h => h) (Or.inl ⟨by rfl, ?hy8b⟩) (by assumption) ?rest8b
                        case hy8b => (intro w0 hSw; (try dsimp only at hSw); (try simp only [List.getElem_toArray, List.getElem_cons_zero, List.getElem_cons_succ]); go_simp) <;> (with_reducible rfl)
                        try simp only [Act.put, List.getElem_toArray, List.getElem_cons_zero, List.getElem_cons_succ, List.setIfInBounds_toArray, List.set_cons_zero, List.set_cons_succ]
                        refine wpAnyH_take (i := 9) (v := ?v9b) rfl (by kernel_rfl) (by kernel_rfl) (by kernel_rfl) (fun _ _ _ h => h) (Or.inl ⟨by rfl, ?hy9b⟩) (by assumption) ?rest9b
                        case hy9b => (intro w0 hSw; (try dsimp only at hSw); (try simp only [List.getElem_toArray, List.getElem_cons_zero, List.getElem_cons_succ]); go_simp) <;> (with_reducible rfl)
                        try simp only [Act.put, List.getElem_toArray, List.getElem_cons_zero, List.getElem_cons_succ, List.setIfInBounds_toArray, List.set_cons_zero, List.set_cons_succ]
                        refine wpAnyH_ready (rs := [10]) (by kernel_rfl) (by simp) ?_
                        refine AllReadyH.cons rfl (fun K hK => ?_) AllReadyH.nil
                        go_simp
                        refine (HSAME.out _ (Drew.once _).below).mono ?_
                        rintro e x1 ⟨rfl, hb⟩
                        have HX1 := Kp.mk hb
                        clear hb
                        go_wp2_with fail
                        refine hK.out _ _ (SQ5.out _ HX1.out) (fun hHeld => ?_)
                        clear hK K
                        try simp only [Act.put, List.getElem_toArray, List.getElem_cons_zero, List.getElem_cons_succ, List.setIfInBounds_toArray, List.set_cons_zero, List.set_cons_succ]
                        refine wpAnyH_take (i := 11) (v := ?v11b) rfl (by kernel_rfl) (by kernel_rfl) (by kernel_rfl) (fun _ _ _ h => h) (Or.inl ⟨by rfl, ?hy11b⟩) (by assumption) ?rest11b
                        case hy11b => (intro w0 hSw; (try dsimp only at hSw); (try simp only [List.getElem_toArray, List.getElem_cons_zero, List.getElem_cons_succ]); go_simp) <;> (with_reducible rfl)
                        try simp only [Act.put, List.getElem_toArray, List.getElem_cons_zero, List.getElem_cons_succ, List.setIfInBounds_toArray, List.set_cons_zero, List.set_cons_succ]
                        refine wpAnyH_take (i := 12) (v := ?v12b) rfl (by kernel_rfl) (by kernel_rfl) (by kernel_rfl) (fun _ _ _ h => h) (Or.inl ⟨by rfl, ?hy12b⟩) (by assumption) ?rest12b
                        case hy12b => (intro w0 hSw; (try dsimp only at hSw); (try simp only [List.getElem_toArray, List.getElem_cons_zero, List.getElem_cons_succ]); go_simp) <;> (with_reducible rfl)
                        try simp only [Act.put, List.getElem_toArray, List.getElem_cons_zero, List.getElem_cons_succ, List.setIfInBounds_toArray, List.set_cons_zero, List.set_cons_succ]
                        refine wpAnyH_take (i := 13) (v := ?v13b) rfl (by kernel_rfl) (by kernel_rfl) (by kernel_rfl) (fun _ _ _ h => h) (Or.inl ⟨by rfl, ?hy13b⟩) (by assumption) ?rest13b
                        case hy13b => (intro w0 hSw; (try dsimp only at hSw); (try simp only [List.getElem_toArray, List.getElem_cons_zero, List.getElem_cons_succ]); go_simp) <;> (with_reducible rfl)
                        try simp only [Act.put, List.getElem_toArray, List.getElem_cons_zero, List.getElem_cons_succ, List.setIfInBounds_toArray, List.set_cons_zero, List.set_cons_succ]
                        refine wpAnyH_take (i := 14) (v := ?v14b) rfl (by kernel_rfl) (by kernel_rfl) (by kernel_rfl) (fun _ _ _ h => h) (Or.inl ⟨by rfl, ?hy14b⟩) (by assumption) ?rest14b
                        case hy14b => (intro w0 hSw; (try dsimp only at hSw); (try simp only [List.getElem_toArray, List.getElem_cons_zero, List.getElem_cons_succ]); go_simp) <;> (with_reducible rfl)
                        try simp only [Act.put, List.getElem_toArray, List.getElem_cons_zero, List.getElem_cons_succ, List.setIfInBounds_toArray, List.set_cons_zero, List.set_cons_succ]
                        refine wpAnyH_take (i := 15) (v := ?v15b) rfl (by kernel_rfl) (by kernel_rfl) (by kernel_rfl) (fun _ _ _ h => h) (Or.inl ⟨by rfl, ?hy15b⟩) (by assumption) ?rest15b
                        case hy15b => (intro w0 hSw; (try dsimp only at hSw); (try simp only [List.getElem_toArray, List.getElem_cons_zero, List.getElem_cons_succ]); go_simp) <;> (with_reducible rfl)
                        try simp only [Act.put, List.getElem_toArray, List.getElem_cons_zero, List.getElem_cons_succ, List.setIfInBounds_toArray, List.set_cons_zero, List.set_cons_succ]
                        refine wpAnyH_take (i := 16) (v := ?v16b) rfl (by kernel_rfl) (by kernel_rfl) (by kernel_rfl) (fun _ _ _ h => h) (Or.inl ⟨by rfl, ?hy16b⟩) (by assumption) ?rest16b
                        case hy16b => (intro w0 hSw; (try dsimp only at hSw); (try simp only [List.getElem_toArray, List.getElem_cons_zero, List.getElem_cons_succ]); go_simp) <;> (with_reducible rfl)
                        try simp only [Act.put, List.getElem_toArray, List.getElem_cons_zero, List.getElem_cons_succ, List.setIfInBounds_toArray, List.set_cons_zero, List.set_cons_succ]
                        refine wpAnyH_take (i := 17) (v := undef) rfl (by kernel_rfl) (by kernel_rfl) (by kernel_rfl) (fun _ _ _ h => h) (Or.inr ⟨by rfl, rfl⟩) (by assumption) ?_
                        try simp only [Act.put, List.getElem_toArray, List.getElem_cons_zero, List.getElem_cons_succ, List.setIfInBounds_toArray, List.set_cons_zero, List.set_cons_succ]
                        refine wpAnyH_take (i := 18) (v := undef) rfl (by kernel_rfl) (by kernel_rfl) (by kernel_rfl) (fun _ _ _ h => h) (Or.inr ⟨by rfl, rfl⟩) (by assumption) ?_
                        try simp only [Act.put, List.getElem_toArray, List.getElem_cons_zero, List.getElem_cons_succ, List.setIfInBounds_toArray, List.set_cons_zero, List.set_cons_succ]
                        refine wpAnyH_take (i := 19) (v := undef) rfl (by kernel_rfl) (by kernel_rfl) (by kernel_rfl) (fun _ _ _ h => h) (Or.inr ⟨by rfl, rfl⟩) (by assumption) ?_
                        try simp only [Act.put, List.getElem_toArray, List.getElem_cons_zero, List.getElem_cons_succ, List.setIfInBounds_toArray, List.set_cons_zero, List.set_cons_succ]
                        refine wpAnyH_take (i := 20) (v := undef) rfl (by kernel_rfl) (by kernel_rfl) (by kernel_rfl) (fun _ _ _ h => h) (Or.inr ⟨by rfl, rfl⟩) (by assumption) ?_
                        try simp only [Act.put, List.getElem_toArray, List.getElem_cons_zero, List.getElem_cons_succ, List.setIfInBounds_toArray, List.set_cons_zero, List.set_cons_succ]
                        refine wpAnyH_take (i := 21) (v := undef) rfl (by kernel_rfl) (by kernel_rfl) (by kernel_rfl) (fun _ _ _ h => h) (Or.inr ⟨by rfl, rfl⟩) (by assumption) ?_
                        try simp only [Act.put, List.getElem_toArray, List.getElem_cons_zero, List.getElem_cons_succ, List.setIfInBounds_toArray, List.set_cons_zero, List.set_cons_succ]
                        refine wpAnyH_take (i := 22) (v := undef) rfl (by kernel_rfl) (by kernel_rfl) (by kernel_rfl) (fun _ _ _ h => h) (Or.inr ⟨by rfl, rfl⟩) (by assumption) ?_
                        try simp only [Act.put, List.getElem_toArray, List.getElem_cons_zero, List.getElem_cons_succ, List.setIfInBounds_toArray, List.set_cons_zero, List.set_cons_succ]
                        refine wpAnyH_take (i := 23) (v := undef) rfl (by kernel_rfl) (by kernel_rfl) (by kernel_rfl) (fun _ _ _ h => h) (Or.inr ⟨by rfl, rfl⟩) (by assumption) ?_
                        try simp only [Act.put, List.getElem_toArray, List.getElem_cons_zero, List.getElem_cons_succ, List.setIfInBounds_toArray, List.set_cons_zero, List.set_cons_succ]
                        refine wpAnyH_take (i := 24) (v := undef) rfl (by kernel_rfl) (by kernel_rfl) (by kernel_rfl) (fun _ _ _ h => h) (Or.inr ⟨by rfl, rfl⟩) (by assumption) ?_
                        try simp only [Act.put, List.getElem_toArray, List.getElem_cons_zero, List.getElem_cons_succ, List.setIfInBounds_toArray, List.set_cons_zero, List.set_cons_succ]
                        refine wpAnyH_take (i := 25) (v := undef) rfl (by kernel_rfl) (by kernel_rfl) (by kernel_rfl) (fun _ _ _ h => h) (Or.inr ⟨by rfl, rfl⟩) (by assumption) ?_
                        try simp only [Act.put, List.getElem_toArray, List.getElem_cons_zero, List.getElem_cons_succ, List.setIfInBounds_toArray, List.set_cons_zero, List.set_cons_succ]
                        refine wpAnyH_take (i := 26) (v := undef) rfl (by kernel_rfl) (by kernel_rfl) (by kernel_rfl) (fun _ _ _ h => h) (Or.inr ⟨by rfl, rfl⟩) (by assumption) ?_
                        try simp only [Act.put, List.getElem_toArray, List.getElem_cons_zero, List.getElem_cons_succ, List.setIfInBounds_toArray, List.set_cons_zero, List.set_cons_succ]
                        refine wpAnyH_take (i := 27) (v := undef) rfl (by kernel_rfl) (by kernel_rfl) (by kernel_rfl) (fun _ _ _ h => h) (Or.inr ⟨by rfl, rfl⟩) (by assumption) ?_
                        try simp only [Act.put, List.getElem_toArray, List.getElem_cons_zero, List.getElem_cons_succ, List.setIfInBounds_toArray, List.set_cons_zero, List.set_cons_succ]
                        refine wpAnyH_take (i := 28) (v := undef) rfl (by kernel_rfl) (by kernel_rfl) (by kernel_rfl) (fun _ _ _ h => h) (Or.inr ⟨by rfl, rfl⟩) (by assumption) ?_
                        try simp only [Act.put, List.getElem_toArray, List.getElem_cons_zero, List.getElem_cons_succ, List.setIfInBounds_toArray, List.set_cons_zero, List.set_cons_succ]
                        refine wpAnyH_take (i := 29) (v := undef) rfl (by kernel_rfl) (by kernel_rfl) (by kernel_rfl) (fun _ _ _ h => h) (Or.inr ⟨by rfl, rfl⟩) (by assumption) ?_
                        try simp only [Act.put, List.getElem_toArray, List.getElem_cons_zero, List.getElem_cons_succ, List.setIfInBounds_toArray, List.set_cons_zero, List.set_cons_succ]
                        refine wpAnyH_take (i := 30) (v := undef) rfl (by kernel_rfl) (by kernel_rfl) (by kernel_rfl) (fun _ _ _ h => h) (Or.inr ⟨by rfl, rfl⟩) (by assumption) ?_
                        try simp only [Act.put, List.getElem_toArray, List.getElem_cons_zero, List.getElem_cons_succ, List.setIfInBounds_toArray, List.set_cons_zero, List.set_cons_succ]
                        refine wpAnyH_take (i := 31) (v := undef) rfl (by kernel_rfl) (by kernel_rfl) (by kernel_rfl) (fun _ _ _ h => h) (Or.inr ⟨by rfl, rfl⟩) (by assumption) ?_
                        try simp only [Act.put, List.getElem_toArray, List.getElem_cons_zero, List.getElem_cons_succ, List.setIfInBounds_toArray, List.set_cons_zero, List.set_cons_succ]
                        refine wpAnyH_take (i := 32) (v := ?v32b) rfl (by kernel_rfl) (by kernel_rfl) (by kernel_rfl) (fun _ _ _ h => h) (Or.inl ⟨by rfl, ?hy32b⟩) (by assumption) ?rest32b
                        case hy32b => (intro w0 hSw; (try dsimp only at hSw); (try simp only [List.getElem_toArray, List.getElem_cons_zero, List.getElem_cons_succ]); go_simp) <;> (with_reducible rfl)
                        try simp only [Act.put, List.getElem_toArray, List.getElem_cons_zero, List.getElem_cons_succ, List.setIfInBounds_toArray, List.set_cons_zero, List.set_cons_succ]
                        refine wpAnyH_take (i := 33) (v := ?v33b) rfl (by kernel_rfl) (by kernel_rfl) (by kernel_rfl) (fun _ _ _ h => h) (Or.inl ⟨by rfl, ?hy33b⟩) (by assumption) ?rest33b
                        case hy33b => (intro w0 hSw; (try dsimp only at hSw); (try simp only [List.getElem_toArray, List.getElem_cons_zero, List.getElem_cons_succ]); go_simp) <;> (with_reducible rfl)
                        try simp only [Act.put, List.getElem_toArray, List.getElem_cons_zero, List.getElem_cons_succ, List.setIfInBounds_toArray, List.set_cons_zero, List.set_cons_succ]
                        refine wpAnyH_done (by kernel_rfl) ?_ _
                        clear hHeld
                        have HX1b := HX1
                        clear u0 u1 v0 v1 s7 s8 s9
                        go_wp2_with fail
                        go_loopw [18, 21] (fun av kv wr => av = .int .i64 (LM i : Int) ∧ kv = .int .i64 0 ∧ Kp (Below x1.heap.size x1 wr)) (fun _ _ _ => 0)
                        case atStart => exact ⟨rfl, rfl, ⟨Below.refl _ _⟩⟩
                        case round =>
                          obtain ⟨rfl, rfl, HBY⟩ := hrel
                          obtain ⟨u0, u1, v0, v1⟩ := SQ5.out wr (bthen HX1.out HBY.out)
                          by_cases hu0 : 0 < um
                          · have t9 : decide ((0 : Int) < (um : Int)) = true := decide_eq_true (by omega)
                            clear hu0
                            have HB9 : Kp (Below x4.heap.size x4 wr) := ⟨bthen HB.out (bthen HX1.out HBY.out)⟩
                            clear HBY
                            go_wp2_with fail
                            all_goals (
                              go_roundw
                              case rel => exact ⟨i + 1, sl + em, by omega, by go_num, by go_num, by rw [hlmi], HSL2, HB9⟩
                              case measure => simp [intOf]; omega)
                          · have t9 : decide ((0 : Int) < (um : Int)) = false := decide_eq_false (by omega)
                            clear hu0
                            have HB9 : Kp (Below x4.heap.size x4 wr) := ⟨bthen HB.out (bthen HX1.out HBY.out)⟩
                            clear HBY
                            go_wp2_with fail
                            all_goals (
                              go_roundw
                              case rel => exact ⟨i + 1, sl + em, by omega, by go_num, by go_num, by rw [hlmi], HSL2, HB9⟩
                              case measure => simp [intOf]; omega)
                  · as_aux_lemma =>
                      have hkf : inK pk = false := by simpa using hkin
                      have hk1 : ¬ pk = 1 := fun h => hkin (by unfold inK; exact decide_eq_true (.inl h))
                      have hk3 : ¬ pk = 3 := fun h => hkin (by unfold inK; exact decide_eq_true (.inr h))
                      have t5 : (pk == 1) = false := by simp [hk1]
                      have t6 : (pk == 3) = false := by simp [hk3]
                      have houi : outS P U1 i = ⟨[], 0⟩ := by rw [hou]; show (bif inK pk then _ else _) = _; rw [hkf]; rfl
                      have hem0 : em = 0 := by rw [← helen, hel, houi]; rfl
                      have heg0 : eg = 0 := by rw [heg, houi]
                      have hlmi : LM (i + 1) = LM i + um := by rw [hlm1, hl1 hkf, HLM.out, ← hulen]
                      have HAT := Kp.mk fun k => hat k hkf
                      have HLMI := Kp.mk hlmi
                      have HRU := Kp.mk hru
                      have HUL := Kp.mk hulen
                      have hmm := LMM.out (i + 1) (by omega)
                      subst hem0
                      subst heg0
                      clear hel heg houi hou hl0 hl1 hlm1 hat hru hre hulen helen hgi hkin hf8 hkf hk1 hk3 hem
                      have SQ5 : Kp (∀ v, Below wr.heap.size wr v → v.cell? ⟨ub, uo + i * 2, none⟩ = some (.slice ua um uc)) := ⟨fun v hv => scell_later hv u0⟩
                      go_wp2_with fail
                      go_quiet (fail)
                      obtain ⟨x1, e1⟩ : ∃ x1, x1 = wr.drewN nq := ⟨_, rfl⟩
                      have HX1 : Kp (Below wr.heap.size wr x1) := ⟨by rw [e1]; exact Drew.below ⟨nq, rfl⟩⟩
                      rw [← e1]
                      clear e1 u0 u1 v0 v1 s7 s8 s9 c0
                      go_wp2_with fail
                      go_loopw [18, 21] (fun av kv wr => ∃ (k at1 : Nat), k ≤ um ∧ kv = .int .i64 (k : Int) ∧ av = .int .i64 (at1 : Int) ∧ Kp (at1 = LM i + k) ∧ Kp (Below x1.heap.size x1 wr)) (fun _ kv _ => um - (intOf kv).toNat)
                      case atStart => exact ⟨0, LM i, by omega, rfl, rfl, ⟨rfl⟩, ⟨Below.refl _ _⟩⟩
                      case round =>
                        obtain ⟨k, at1, hku, rfl, rfl, HAT1, HBY⟩ := hrel
                        have u0 := SQ5.out wr (bthen HX1.out HBY.out)
                        by_cases hlk : k < um
                        · have t7 : decide ((k : Int) < (um : Int)) = true := decide_eq_true (by omega)
                          have t8 : decide ((at1 : Int) ≥ (ml : Int)) = false := decide_eq_false (by have := HAT1.out; have := HLMI.out; omega)
                          have t8n : at1 < ml := by have := HAT1.out; have := HLMI.out; omega
                          have t8m : decide (ml ≤ at1) = false := decide_eq_false (by omega)
                          have t8i : decide ((ml : Int) ≤ (at1 : Int)) = false := decide_eq_false (by omega)
                          have t9 : (0 : Int) ≤ (k : Int) := by omega
                          have t10 : (k : Int) < (um : Int) := by omega
                          have t11 : (0 : Int) ≤ (at1 : Int) := by omega
                          have t12 : (at1 : Int) < (ml : Int) := by have := HAT1.out; have := HLMI.out; omega
                          obtain ⟨yb, yo, hya, hyc⟩ := (HRU.out.later (bthen HX1.out HBY.out)).cells (by omega)
                          have y0 := hyc k hlk
                          obtain ⟨db, do_, hda, hdc⟩ := HQ4.out.out.2.2.cells (by have := HAT1.out; have := HLMI.out; omega)
                          have hrow := srange_later (hdc at1 (by have := HAT1.out; have := HLMI.out; omega)) (bthen HB.out (bthen HX1.out HBY.out))
                          have hrow : wr.rangeAt db (do_ + at1 * 2) ((outM P U1 pn).getD at1 zMsg).row := hrow
                          have hgd := HAT.out k (by rw [HUL.out]; exact hlk)
                          rw [← HLM.out, ← HAT1.out] at hgd
                          rw [hgd] at hrow
                          obtain ⟨sj, hsj⟩ : ∃ s, s = ul.getD k noS := ⟨_, rfl⟩
                          have hrow : wr.rangeAt db (do_ + at1 * 2) (MsgV.row ⟨(i : Int), ul.getD k noS⟩) := hrow
                          rw [← hsj] at y0 hrow
                          have m0 : wr.cell? ⟨db, do_ + at1 * 2, none⟩ = some (.int .i64 (i : Int)) := hrow 0 _ rfl
                          have m1 : wr.cell? ⟨db, do_ + at1 * 2 + 1, none⟩ = some (.string sj) := hrow 1 _ rfl
                          have heq : ∀ w, (Op.equalIn 10000 101 (.agg #[.int .i64 (i : Int), .string sj]) (.agg #[.int .i64 (i : Int), .string sj])).run Tryd.prog w = .ok true w := fun w => msg_eq 9997 ⟨(i : Int), sj⟩ w
                          have hgp := guardMsg
                          subst hya
                          subst hda
                          clear hyc hdc hrow hgd hsj
                          go_wp2_with fail
                          go_quiet (fail)
                          have HB9 : Kp (Below x1.heap.size x1 (wr.drewN nq)) := ⟨bthen HBY.out (Drew.below ⟨nq, rfl⟩)⟩
                          clear u0 y0 m0 m1 heq
                          go_wp2_with fail
                          go_roundw
                          case rel => exact ⟨k + 1, at1 + 1, by omega, by go_num, by go_num, ⟨by rw [HAT1.out]; rfl⟩, HB9⟩
                          case measure => simp [intOf]; omega
                        · have hke : um = k := by omega
                          subst hke
                          have t7 : decide ((um : Int) < (um : Int)) = false := by simp
                          have HB9 : Kp (Below x4.heap.size x4 wr) := ⟨bthen HB.out (bthen HX1.out HBY.out)⟩
                          have hate : at1 = LM (i + 1) := by rw [HLMI.out]; exact HAT1.out
                          subst hate
                          clear HBY
                          go_wp2_with fail
                          go_roundw
                          case rel => exact ⟨i + 1, sl + 0, by omega, by go_num, by go_num, rfl, HSL2, HB9⟩
                          case measure => simp [intOf]; omega
                · have hip : pn = i := by omega
                  subst hip
                  have t1 : decide ((pn : Int) < pn) = false := by simp
                  have hlme : LM pn = ml := by rw [HLM.out, HML.out]
                  have t5 : ((LM pn : Int) == (ml : Int)) = true := by simp [hlme]
                  have t6 : ((sl : Int) + (ml : Int) == hd) = true := by
                    have h1 := HHL.out
                    have h2 := HSL.out
                    have h3 := HCE.out.2
                    simp
                    omega
                  have BF : Kp (Below w.heap.size w wr) := ⟨bthen (bthen (bthen B2.out B6.out) HX4.out) HB.out⟩
                  clear hlme
                  go_wp2_with fail
                  go_ret
                  exact ⟨rfl, BF.out⟩))
end Go.Proofs.YtjlgnbjfgeppcaaDoor
