/- PortChecks, walked. -/
import Derived.Test.YtjlgnbjfgeppcaaDoorCaseBase
namespace Go.Proofs.YtjlgnbjfgeppcaaDoor
open Go Go.RowKit
set_option linter.unusedVariables false
attribute [local go_sem ↓] Go.wp_at_zero Go.wp_at_succ

set_option maxRecDepth 100000 in
set_option maxHeartbeats 16000000 in
theorem law_PortChecks (A : Nat → Addr) (k s d r : Int) (a : Option Addr) (n cap : Nat) (l : List ByteArray) (g : Int) (D : ByteArray) (pa : Option Addr) (pn pc : Nat) (qa : Option Addr) (qn qc : Nat) (ma : Option Addr) (mn mc : Nat) (w : World) (h : RdS w a n cap l) (hD : D.size < 9223372036854775808) (hE : Errs w allCodes A) (hT : TypeVar w) :
    Calls Tryd.prog 6 #[.agg (caseA k s d r a n cap g D pa pn pc qa qn qc ma mn mc)] w fun e w' => e = .returned (.bool true) ∧ Below w.heap.size w w' := by
  have hs := h.size
  have hln := h.len
  have hnb := h.bound
  obtain ⟨w1, e1⟩ : ∃ w1, w1 = w.alloc (.cells (caseA k s d r a n cap g D pa pn pc qa qn qc ma mn mc) 45) := ⟨_, rfl⟩
  have b1 : Below w.heap.size w w1 := by rw [e1]; exact below_alloc _ _
  have k1 : Blk w1 w.heap.size (caseA k s d r a n cap g D pa pn pc qa qn qc ma mn mc) 45 := by rw [e1]; exact Blk.new _ _ _
  have E1 := Kp.mk e1
  have B1 := Kp.mk b1
  have K1 := Kp.mk k1
  have H0 := Kp.mk h
  have HE := Kp.mk hE
  have HT := Kp.mk hT
  have HS := Kp.mk hs
  have HLN : Kp (l.length ≤ 8796093022208) := ⟨by rw [hln]; exact hnb⟩
  have HF := Kp.mk (law_fixed A w1 (hE.later b1))
  have HDB := Kp.mk hD
  clear h hE hT hs hln hnb e1 b1 k1 hD
  go_enter Tryd.func6, Tryd.ntmps6
  go_wp2_with fail
  rw [← E1.out]
  refine HF.out.mono ?_
  rintro e w2 ⟨rfl, hb⟩
  have B2 := Kp.mk (B1.out.trans (hb.mono B1.out.size))
  have K2 := Kp.mk (K1.out.later hb)
  clear hb HF
  obtain ⟨c0, c1, c2, c3, q0, q1, d0⟩ := cs_of K2.out
  have SQ : Kp (∀ v, Below w2.heap.size w2 v → CS v w.heap.size k s d r a n cap g D) := ⟨fun v hv => cs_of (K2.out.later hv)⟩
  obtain ⟨pc1, hpc1⟩ : ∃ c, c = planC ⟨k, s, d, r⟩ := ⟨_, rfl⟩
  obtain ⟨cc, hcc⟩ : ∃ c, c = portC ⟨k, s, d, r⟩ l g := ⟨_, rfl⟩
  have lc1 : pc1 ≤ 20 := by rw [hpc1]; rcases planC_or ⟨k, s, d, r⟩ with h | h | h | h <;> omega
  have lc2 : cc ≤ 20 := by rw [hcc]; rcases portC_or ⟨k, s, d, r⟩ l g with h | h | h <;> omega
  have C33 : Kp (∀ v, Below w2.heap.size w2 v → Calls Tryd.prog 33 #[.agg (rowK k s d r)] v fun e w' => e = .returned (errOf A pc1) ∧ Below w2.heap.size w2 w') := ⟨fun v hv => (port_checkPlan A ⟨k, s, d, r⟩ v ((HE.out.later (B2.out.trans (hv.mono B2.out.size))).sub (by decide))).mono fun e w' ⟨h1, h2⟩ => ⟨by rw [hpc1]; exact h1, hv.trans (h2.mono hv.size)⟩⟩
  have C10 : Kp (∀ v, Below w2.heap.size w2 v → Calls Tryd.prog 10 #[.agg (rowK k s d r)] v fun e w' => e = .returned (.int .i64 (pc1 : Nat)) ∧ Below w2.heap.size w2 w') := ⟨fun v hv => (ref_checkPlan ⟨k, s, d, r⟩ v).mono fun e w' ⟨h1, h2⟩ => ⟨by rw [hpc1]; exact h1, hv.trans (h2.mono hv.size)⟩⟩
  have C25 : Kp (∀ c v, c ≤ 20 → Below w2.heap.size w2 v → Calls Tryd.prog 25 #[errOf A c, .int .i64 (c : Int)] v fun e w' => e = .returned (.bool true) ∧ Below w2.heap.size w2 w') := ⟨fun c v hc hv => (law_same v (HE.out.later (B2.out.trans (hv.mono B2.out.size))) (HT.out.later (B2.out.trans (hv.mono B2.out.size))) c hc).mono fun e w' ⟨h1, h2⟩ => ⟨h1, hv.trans (h2.mono hv.size)⟩⟩
  have C20 : Kp (∀ v, Below w2.heap.size w2 v → Calls Tryd.prog 20 #[.agg (portA a n cap g)] v fun e w' => ∃ a' m' c', e = .returned (.agg (portA a' m' c' g)) ∧ RdS w' a' m' c' l ∧ Below w2.heap.size w2 w') := ⟨fun v hv => (law_copied a n cap l g v (H0.out.later (B2.out.trans (hv.mono B2.out.size)))).mono fun e w' ⟨u, h1, h2, h3⟩ => by
    obtain ⟨a', c', m', hm, rfl⟩ := h2.shapeN
    exact ⟨a', m', c', h1, h2.rdn HLN.out HS.out, hv.trans (h3.mono hv.size)⟩⟩
  have C14 : Kp (∀ v a' m' c', Below w2.heap.size w2 v → RdS v a' m' c' l → Calls Tryd.prog 14 #[.agg (rowK k s d r), .agg (portA a' m' c' g)] v fun e w' => e = .returned (errOf A cc) ∧ Below w2.heap.size w2 w') := ⟨fun v a' m' c' hv hr => (port_check A ⟨k, s, d, r⟩ a' m' c' l g v hr ((HE.out.later (B2.out.trans (hv.mono B2.out.size))).sub (by decide))).mono fun e w' ⟨h1, h2⟩ => ⟨by rw [hcc]; exact h1, hv.trans (h2.mono hv.size)⟩⟩
  have C34 : Kp (∀ v, Below w2.heap.size w2 v → Calls Tryd.prog 34 #[.agg (rowK k s d r), .agg (portA a n cap g)] v fun e w' => e = .returned (.int .i64 (cc : Nat)) ∧ Below w2.heap.size w2 w') := ⟨fun v hv => (ref_check ⟨k, s, d, r⟩ a n cap l g v (H0.out.later (B2.out.trans (hv.mono B2.out.size)))).mono fun e w' ⟨h1, h2⟩ => ⟨by rw [hcc]; exact h1, hv.trans (h2.mono hv.size)⟩⟩
  have HPC := Kp.mk hpc1
  have HCC := Kp.mk hcc
  obtain ⟨ve1, hve1⟩ : ∃ v, v = errOf A pc1 := ⟨_, rfl⟩
  obtain ⟨ve2, hve2⟩ : ∃ v, v = errOf A cc := ⟨_, rfl⟩
  have C25a : Kp (∀ v, Below w2.heap.size w2 v → Calls Tryd.prog 25 #[ve1, .int .i64 (pc1 : Int)] v fun e w' => e = .returned (.bool true) ∧ Below w2.heap.size w2 w') := ⟨fun v hv => by rw [hve1]; exact C25.out pc1 v lc1 hv⟩
  have C25b : Kp (∀ v, Below w2.heap.size w2 v → Calls Tryd.prog 25 #[ve2, .int .i64 (cc : Int)] v fun e w' => e = .returned (.bool true) ∧ Below w2.heap.size w2 w') := ⟨fun v hv => by rw [hve2]; exact C25.out cc v lc2 hv⟩
  rw [← hve1] at C33
  rw [← hve2] at C14
  clear hpc1 hcc hve1 hve2 lc1 lc2
  go_wp2_with fail
  go_region_held3 (fun v => v.cell? ⟨w.heap.size, 0, none⟩ = some (.int .i64 k) ∧ v.cell? ⟨w.heap.size, 1, none⟩ = some (.int .i64 s) ∧ v.cell? ⟨w.heap.size, 2, none⟩ = some (.int .i64 d) ∧ v.cell? ⟨w.heap.size, 3, none⟩ = some (.int .i64 r) ∧ v.cell? ⟨w.heap.size, 4, none⟩ = some (.slice a n cap) ∧ v.cell? ⟨w.heap.size, 5, none⟩ = some (.int .i64 g) ∧ v.cell? ⟨w.heap.size, 6, none⟩ = some (.string D)) (first | exact SQ.out _ HX7.out | exact SQ.out _ HX6.out | exact SQ.out _ HX5.out | exact SQ.out _ HX4.out | exact SQ.out _ HX3.out | exact SQ.out _ HX2.out | exact SQ.out _ HX1.out | exact SQ.out _ (Drew.once _).below)
    (first
      | (go_at_call 33; (with_reducible refine (C33.out _ (Drew.once _).below).mono ?_); rintro e x1 ⟨rfl, hb⟩; have HX1 := Kp.mk hb; clear hb)
      | (go_at_call 10; (with_reducible refine (C10.out _ HX1.out).mono ?_); rintro e x2 ⟨rfl, hb⟩; have HX2 := Kp.mk hb; clear hb)
      | (go_at_call 25; (with_reducible refine (C25a.out _ HX2.out).mono ?_); rintro e x3 ⟨rfl, hb⟩; have HX3 := Kp.mk hb; clear hb)
      | (go_at_call 20; (with_reducible refine (C20.out _ HX3.out).mono ?_); rintro e x4 ⟨a4, m4, c4, rfl, hr, hb⟩; have HX4 := Kp.mk hb; have R4 := Kp.mk hr; clear hb hr)
      | (go_at_call 14; (with_reducible refine (C14.out _ a4 m4 c4 HX4.out R4.out).mono ?_); rintro e x5 ⟨rfl, hb⟩; have HX5 := Kp.mk hb; clear hb)
      | (go_at_call 34; (with_reducible refine (C34.out _ HX5.out).mono ?_); rintro e x6 ⟨rfl, hb⟩; have HX6 := Kp.mk hb; clear hb)
      | (go_at_call 25; (with_reducible refine (C25b.out _ HX6.out).mono ?_); rintro e x7 ⟨rfl, hb⟩; have HX7 := Kp.mk hb; clear hb))
  have hb := HX7.out
  obtain ⟨w3, rfl⟩ : ∃ w3, w3 = x7 := ⟨_, rfl⟩
  have B3 := Kp.mk (B2.out.trans (hb.mono B2.out.size))
  have K3 := Kp.mk (K2.out.later hb)
  clear hb HX1 HX2 HX3 HX4 HX5 HX6 HX7 R4 C33 C10 C20 C14 C34 C25 C25a C25b SQ HCC
  clear c0 c1 c2 c3 q0 q1 d0
  obtain ⟨c0, c1, c2, c3, q0, q1, d0⟩ := cs_of K3.out
  go_wp2_with fail
  have SQ : Kp (∀ v, Below w3.heap.size w3 v → CS v w.heap.size k s d r a n cap g D) := ⟨fun v hv => cs_of (K3.out.later hv)⟩
  have SR : Kp (∀ v b x y, Below w3.heap.size w3 v → w3.heap.size ≤ b → CS ((v.setCell ⟨b, 0, none⟩ x).setCell ⟨b, 1, none⟩ y) w.heap.size k s d r a n cap g D) := ⟨fun v b x y hv hb => cs_of ((K3.out.later hv).other2 b x y (by have := K3.out.lt; omega))⟩
  obtain ⟨cc, hcc⟩ : ∃ c, c = portC ⟨k, s, d, r⟩ l g := ⟨_, rfl⟩
  obtain ⟨ag, hag⟩ : ∃ c, c = ageG ⟨k, s, d, r⟩ l g := ⟨_, rfl⟩
  obtain ⟨al, hal⟩ : ∃ c, c = ageL ⟨k, s, d, r⟩ l g := ⟨_, rfl⟩
  have hal' : al = l ∨ al = [] := by rw [hal]; unfold ageL; cases decide (portC ⟨k, s, d, r⟩ l g = 0) <;> simp
  have HAL : Kp (al.length ≤ 8796093022208) := ⟨by rcases hal' with h | h <;> rw [h]; exact HLN.out; simp⟩
  have HAS : Kp (∀ s ∈ al, s.size < 9223372036854775808) := ⟨by rcases hal' with h | h <;> rw [h]; exact HS.out; simp⟩
  have lc2 : cc ≤ 20 := by rw [hcc]; rcases portC_or ⟨k, s, d, r⟩ l g with h | h | h <;> omega
  obtain ⟨ev, hev⟩ : ∃ v, v = errOf A cc := ⟨_, rfl⟩
  have C20 : Kp (∀ v, Below w3.heap.size w3 v → Calls Tryd.prog 20 #[.agg (portA a n cap g)] v fun e w' => ∃ a' m' c', e = .returned (.agg (portA a' m' c' g)) ∧ RdS w' a' m' c' l ∧ Below v.heap.size v w') := ⟨fun v hv => (law_copied a n cap l g v (H0.out.later (B3.out.trans (hv.mono B3.out.size)))).mono fun e w' ⟨u, h1, h2, h3⟩ => by
    obtain ⟨a', c', m', hm, rfl⟩ := h2.shapeN
    exact ⟨a', m', c', h1, h2.rdn HLN.out HS.out, h3⟩⟩
  have C13 : Kp (∀ v a' m' c', Below w3.heap.size w3 v → RdS v a' m' c' l → Calls Tryd.prog 13 #[.agg (rowK k s d r), .agg (portA a' m' c' g)] v fun e w' => ∃ a2 m2 c2, e = .returned (.tuple #[.agg (portA a2 m2 c2 ag), ev]) ∧ OwnS w' v.heap.size (.slice a2 m2 c2) al ∧ Below v.heap.size v w') := ⟨fun v a' m' c' hv hr => (port_age A ⟨k, s, d, r⟩ a' m' c' l g v hr ((HE.out.later (B3.out.trans (hv.mono B3.out.size))).sub (by decide))).mono fun e w' ⟨u, h1, h2, h3⟩ => by
    obtain ⟨a2, c2, m2, hm, rfl⟩ := h2.shapeN
    exact ⟨a2, m2, c2, by rw [hev, hcc, hag]; exact h1, by rw [hal]; exact h2, h3⟩⟩
  have HCC := Kp.mk (And.intro hcc (And.intro hag (And.intro hal (And.intro hev lc2))))
  clear hcc hag hal hal' lc2 hev
  have hzp := zvPort
  go_region_held3 (fun v => v.cell? ⟨w.heap.size, 0, none⟩ = some (.int .i64 k) ∧ v.cell? ⟨w.heap.size, 1, none⟩ = some (.int .i64 s) ∧ v.cell? ⟨w.heap.size, 2, none⟩ = some (.int .i64 d) ∧ v.cell? ⟨w.heap.size, 3, none⟩ = some (.int .i64 r) ∧ v.cell? ⟨w.heap.size, 4, none⟩ = some (.slice a n cap) ∧ v.cell? ⟨w.heap.size, 5, none⟩ = some (.int .i64 g) ∧ v.cell? ⟨w.heap.size, 6, none⟩ = some (.string D)) (first | exact SQ.out _ (Drew.once _).below | exact SQ.out _ (bl1 _ _ _) | exact SQ.out _ (bl3 _ _ _) | exact SQ.out _ HX1.out | exact SQ.out _ (HX1.out.alloc HX1.out.size _) | exact SQ.out _ HX2.out | exact SQ.out _ (HX2.out.alloc HX2.out.size _) | exact SR.out _ _ _ _ HX2.out (by first | exact Nat.le_refl _ | exact HX1.out.size))
    (first
      | (go_at_call 20; first
          | ((with_reducible refine (C20.out _ (Drew.once _).below).mono ?_); rintro e x1 ⟨a4, m4, c4, rfl, hr, hb⟩; have HX1 := Kp.mk ((Drew.once w3).below.trans (hb.mono (Drew.once w3).below.size)); have R4 := Kp.mk hr; clear hb hr)
          | ((with_reducible refine (C20.out _ (bl1 _ _ _)).mono ?_); rintro e x1 ⟨a4, m4, c4, rfl, hr, hb⟩; have HX1 := Kp.mk ((bl1 w3 _ _).trans (hb.mono (bl1 w3 _ _).size)); have R4 := Kp.mk hr; have HV := Kp.mk ((new1 w3 (portA none 0 0 0) 29).later hb); clear hb hr)
          | ((with_reducible refine (C20.out _ (bl3 _ _ _)).mono ?_); rintro e x1 ⟨a4, m4, c4, rfl, hr, hb⟩; have HX1 := Kp.mk ((bl3 w3 _ _).trans (hb.mono (bl3 w3 _ _).size)); have R4 := Kp.mk hr; have HV := Kp.mk ((new3 w3 (portA none 0 0 0) 29).later hb); clear hb hr))
      | (go_at_call 13; first
          | ((with_reducible refine (C13.out _ a4 m4 c4 HX1.out R4.out).mono ?_); rintro e x2 ⟨a5, m5, c5, rfl, ho, hb⟩; have HX2 := Kp.mk (HX1.out.trans (hb.mono HX1.out.size)); have HO := Kp.mk ho; (try (have LV := Kp.mk HV.out.lt; have HV := Kp.mk (HV.out.later hb); have z0 := HV.out.cell 0 _ rfl; have z1 := HV.out.cell 1 _ rfl; have f0 := HV.out.free 0; have f1 := HV.out.free 1)); clear hb ho)
          | ((with_reducible refine (C13.out _ a4 m4 c4 (HX1.out.alloc HX1.out.size _) (R4.out.later (below_alloc _ _))).mono ?_); rintro e x2 ⟨a5, m5, c5, rfl, ho, hb⟩; have HX2 := Kp.mk ((HX1.out.alloc HX1.out.size _).trans (hb.mono (HX1.out.alloc HX1.out.size _).size)); have HO := Kp.mk ho; have LV := Kp.mk (Blk.new x1 (portA none 0 0 0) 29).lt; have HV := Kp.mk ((Blk.new x1 (portA none 0 0 0) 29).later hb); have z0 := HV.out.cell 0 _ rfl; have z1 := HV.out.cell 1 _ rfl; have f0 := HV.out.free 0; have f1 := HV.out.free 1; clear hb ho)))
  all_goals first
    | (refine then_gen (F := fun W => Kp (Below w3.heap.size w3 W ∧ PV W x2.heap.size a5 m5 c5 ag al)) ⟨HX2.out.alloc HX2.out.size _, ⟨Blk.new _ _ _, (HO.out.rdn HAL.out HAS.out).later (below_alloc _ _)⟩⟩ ?_)
    | (refine then_gen (F := fun W => Kp (Below w3.heap.size w3 W ∧ PV W w3.heap.size a5 m5 c5 ag al)) ⟨below_set2 HX2.out _ _ _ (Nat.le_refl _), ⟨HV.out.set2 _ _, RdS.far2 HO.out _ _ _ LV.out HAL.out HAS.out⟩⟩ ?_)
    | (refine then_gen (F := fun W => Kp (Below w3.heap.size w3 W ∧ PV W x1.heap.size a5 m5 c5 ag al)) ⟨below_set2 HX2.out _ _ _ HX1.out.size, ⟨HV.out.set2 _ _, RdS.far2 HO.out _ _ _ LV.out HAL.out HAS.out⟩⟩ ?_)
  all_goals (
    intro w4 HW
    have hb := HW.out.1
    have V4 := Kp.mk HW.out.2
    have B4 := Kp.mk (B3.out.trans (hb.mono B3.out.size))
    have K4 := Kp.mk (K3.out.later hb)
    clear hb HW HO HX1 HX2 R4 SQ SR C20 C13 hzp
    try clear HV LV z0 z1 f0 f1
    clear c0 c1 c2 c3 q0 q1 d0
    obtain ⟨c0, c1, c2, c3, q0, q1, d0⟩ := cs_of K4.out
    have C35 : Kp (Calls Tryd.prog 35 #[.agg (rowK k s d r), .agg (portA a n cap g)] w4 fun e w' => ∃ a2 m2 c2, e = .returned (.tuple #[.agg (portA a2 m2 c2 ag), .int .i64 (cc : Nat)]) ∧ OwnS w' w4.heap.size (.slice a2 m2 c2) al ∧ Below w4.heap.size w4 w') := ⟨(ref_age ⟨k, s, d, r⟩ a n cap l g w4 (H0.out.later B4.out)).mono fun e w' ⟨u, h1, h2, h3⟩ => by
      obtain ⟨a2, c2, m2, hm, rfl⟩ := h2.shapeN
      exact ⟨a2, m2, c2, by rw [HCC.out.1, HCC.out.2.1]; exact h1, by rw [HCC.out.2.2.1]; exact h2, h3⟩⟩
    go_wp2_with fail
    refine C35.out.mono ?_
    rintro e w5 ⟨a6, m6, c6, rfl, ho, hb⟩
    obtain ⟨w6, e6⟩ : ∃ w6, w6 = w5.alloc (.cells #[.slice a6 m6 c6, .int .i64 ag] 29) := ⟨_, rfl⟩
    have b6 : Below w5.heap.size w5 w6 := by rw [e6]; exact below_alloc _ _
    have hb6 := hb.trans (b6.mono hb.size)
    have B6 := Kp.mk (B4.out.trans (hb6.mono B4.out.size))
    have K6 := Kp.mk (K4.out.later hb6)
    have V6 := Kp.mk (V4.out.later hb6)
    have U6 : Kp (PV w6 w5.heap.size a6 m6 c6 ag al) := ⟨⟨by rw [e6]; exact Blk.new _ _ _, (ho.rdn HAL.out HAS.out).later b6⟩⟩
    have E6 := Kp.mk e6
    have HSM := Kp.mk (law_same w6 (HE.out.later B6.out) (HT.out.later B6.out) cc HCC.out.2.2.2.2)
    rw [← HCC.out.2.2.2.1] at HSM
    clear c0 c1 c2 c3 q0 q1 d0 ho hb hb6 b6 e6
    go_wp2_with fail
    rw [← E6.out]
    refine HSM.out.mono ?_
    rintro e w7 ⟨rfl, hb⟩
    have B7 := Kp.mk (B6.out.trans (hb.mono B6.out.size))
    have K7 := Kp.mk (K6.out.later hb)
    have V7 := Kp.mk (V6.out.later hb)
    have U7 := Kp.mk (U6.out.later hb)
    have HSS := Kp.mk (ref_same a5 m5 c5 a6 m6 c6 al ag w7 V7.out.rd U7.out.rd)
    clear hb
    have v0 := V7.out.blk.cell 0 _ rfl
    have v1 := V7.out.blk.cell 1 _ rfl
    have u0 := U7.out.blk.cell 0 _ rfl
    have u1 := U7.out.blk.cell 1 _ rfl
    go_wp2_with fail
    refine HSS.out.mono ?_
    rintro e w8 ⟨rfl, hb⟩
    have B8 := Kp.mk (B7.out.trans (hb.mono B7.out.size))
    have K8 := Kp.mk (K7.out.later hb)
    clear hb v0 v1 u0 u1 V4 V6 V7 U6 U7 B4 K4 B6 K6 K7 E6 HSM HSS C35
    obtain ⟨c0, c1, c2, c3, q0, q1, d0⟩ := cs_of K8.out
    have SQ : Kp (∀ v, Below w8.heap.size w8 v → CS v w.heap.size k s d r a n cap g D) := ⟨fun v hv => cs_of (K8.out.later hv)⟩
    obtain ⟨fc, hfc⟩ : ∃ c, c = freeC ⟨k, s, d, r⟩ l g := ⟨_, rfl⟩
    obtain ⟨fb, hfb⟩ : ∃ c, c = freeB ⟨k, s, d, r⟩ l g := ⟨_, rfl⟩
    have lfc : fc ≤ 20 := by rw [hfc]; exact freeC_le _ _ _
    obtain ⟨fv, hfv⟩ : ∃ v, v = errOf A fc := ⟨_, rfl⟩
    have C20 : Kp (∀ v, Below w8.heap.size w8 v → Calls Tryd.prog 20 #[.agg (portA a n cap g)] v fun e w' => ∃ a' m' c', e = .returned (.agg (portA a' m' c' g)) ∧ RdS w' a' m' c' l ∧ Below w8.heap.size w8 w') := ⟨fun v hv => (law_copied a n cap l g v (H0.out.later (B8.out.trans (hv.mono B8.out.size)))).mono fun e w' ⟨u, h1, h2, h3⟩ => by
      obtain ⟨a', c', m', hm, rfl⟩ := h2.shapeN
      exact ⟨a', m', c', h1, h2.rdn HLN.out HS.out, hv.trans (h3.mono hv.size)⟩⟩
    have C36 : Kp (∀ v a' m' c', Below w8.heap.size w8 v → RdS v a' m' c' l → Calls Tryd.prog 36 #[.agg (rowK k s d r), .agg (portA a' m' c' g)] v fun e w' => e = .returned (.tuple #[.bool fb, fv]) ∧ Below w8.heap.size w8 w') := ⟨fun v a' m' c' hv hr => (port_free A ⟨k, s, d, r⟩ a' m' c' l g v hr ((HE.out.later (B8.out.trans (hv.mono B8.out.size))).sub (by decide))).mono fun e w' ⟨h1, h2⟩ => ⟨by rw [hfv, hfb, hfc]; exact h1, hv.trans (h2.mono hv.size)⟩⟩
    have HFC := Kp.mk (And.intro hfc (And.intro hfb (And.intro hfv lfc)))
    clear hfc hfb hfv lfc
    go_wp2_with fail
    go_region_held3 (fun v => v.cell? ⟨w.heap.size, 0, none⟩ = some (.int .i64 k) ∧ v.cell? ⟨w.heap.size, 1, none⟩ = some (.int .i64 s) ∧ v.cell? ⟨w.heap.size, 2, none⟩ = some (.int .i64 d) ∧ v.cell? ⟨w.heap.size, 3, none⟩ = some (.int .i64 r) ∧ v.cell? ⟨w.heap.size, 4, none⟩ = some (.slice a n cap) ∧ v.cell? ⟨w.heap.size, 5, none⟩ = some (.int .i64 g) ∧ v.cell? ⟨w.heap.size, 6, none⟩ = some (.string D)) (first | exact SQ.out _ (Drew.once _).below | exact SQ.out _ HX1.out | exact SQ.out _ HX2.out)
      (first
        | (go_at_call 20; (with_reducible refine (C20.out _ (Drew.once _).below).mono ?_); rintro e x1 ⟨a4, m4, c4, rfl, hr, hb⟩; have HX1 := Kp.mk hb; have R4 := Kp.mk hr; clear hb hr)
        | (go_at_call 36; (with_reducible refine (C36.out _ a4 m4 c4 HX1.out R4.out).mono ?_); rintro e x2 ⟨rfl, hb⟩; have HX2 := Kp.mk hb; clear hb))
    have B9 := Kp.mk (B8.out.trans (HX2.out.mono B8.out.size))
    have K9 := Kp.mk (K8.out.later HX2.out)
    clear c0 c1 c2 c3 q0 q1 d0 SQ C20 C36 HX1 R4
    obtain ⟨c0, c1, c2, c3, q0, q1, d0⟩ := cs_of K9.out
    have C37 : Kp (Calls Tryd.prog 37 #[.agg (rowK k s d r), .agg (portA a n cap g)] x2 fun e w' => e = .returned (.tuple #[.bool fb, .int .i64 (fc : Nat)]) ∧ Below x2.heap.size x2 w') := ⟨(ref_free ⟨k, s, d, r⟩ a n cap l g x2 (H0.out.later B9.out)).mono fun e w' ⟨h1, h2⟩ => ⟨by rw [HFC.out.2.1, HFC.out.1]; exact h1, h2⟩⟩
    go_wp2_with fail
    refine C37.out.mono ?_
    rintro e w10 ⟨rfl, hb⟩
    have B10 := Kp.mk (B9.out.trans (hb.mono B9.out.size))
    have K10 := Kp.mk (K9.out.later hb)
    have HSM := Kp.mk (law_same w10 (HE.out.later B10.out) (HT.out.later B10.out) fc HFC.out.2.2.2)
    rw [← HFC.out.2.2.1] at HSM
    have hbne : (fb != fb) = false := by simp
    clear c0 c1 c2 c3 q0 q1 d0 hb C37 HX2 B9 K9 HFC
    go_wp2_with fail
    refine HSM.out.mono ?_
    rintro e w11 ⟨rfl, hb⟩
    have B11 := Kp.mk (B10.out.trans (hb.mono B10.out.size))
    have K11 := Kp.mk (K10.out.later hb)
    clear hb HSM hbne
    obtain ⟨c0, c1, c2, c3, q0, q1, d0⟩ := cs_of K11.out
    obtain ⟨mc', hmc⟩ : ∃ c, c = mostC ⟨k, s, d, r⟩ := ⟨_, rfl⟩
    obtain ⟨mn', hmn⟩ : ∃ c, c = mostN ⟨k, s, d, r⟩ := ⟨_, rfl⟩
    have lmc : mc' ≤ 20 := by rw [hmc]; exact mostC_le _
    obtain ⟨mv, hmv⟩ : ∃ v, v = errOf A mc' := ⟨_, rfl⟩
    have C38 : Kp (Calls Tryd.prog 38 #[.agg (rowK k s d r)] w11 fun e w' => e = .returned (.tuple #[.int .i64 mn', mv]) ∧ Below w11.heap.size w11 w') := ⟨(port_most A ⟨k, s, d, r⟩ w11 ((HE.out.later B11.out).sub (by decide))).mono fun e w' ⟨h1, h2⟩ => ⟨by rw [hmv, hmn, hmc]; exact h1, h2⟩⟩
    have C39 : Kp (∀ v, Calls Tryd.prog 39 #[.agg (rowK k s d r)] v fun e w' => e = .returned (.tuple #[.int .i64 mn', .int .i64 (mc' : Nat)]) ∧ Below v.heap.size v w') := ⟨fun v => (ref_most ⟨k, s, d, r⟩ v).mono fun e w' ⟨h1, h2⟩ => ⟨by rw [hmn, hmc]; exact h1, h2⟩⟩
    have HMC := Kp.mk (And.intro hmv lmc)
    clear hmc hmn lmc hmv
    go_wp2_with fail
    refine C38.out.mono ?_
    rintro e w12 ⟨rfl, hb⟩
    have B12 := Kp.mk (B11.out.trans (hb.mono B11.out.size))
    have K12 := Kp.mk (K11.out.later hb)
    clear hb c0 c1 c2 c3 q0 q1 d0 C38
    obtain ⟨c0, c1, c2, c3, q0, q1, d0⟩ := cs_of K12.out
    go_wp2_with fail
    refine (C39.out w12).mono ?_
    rintro e w13 ⟨rfl, hb⟩
    have B13 := Kp.mk (B12.out.trans (hb.mono B12.out.size))
    have HSM := Kp.mk (law_same w13 (HE.out.later B13.out) (HT.out.later B13.out) mc' HMC.out.2)
    rw [← HMC.out.1] at HSM
    have hmeq : (mn' == mn') = true := by simp
    clear hb c0 c1 c2 c3 q0 q1 d0 C39 HMC
    go_wp2_with fail
    refine HSM.out.mono ?_
    rintro e w14 ⟨rfl, hb⟩
    have B14 := Kp.mk (B13.out.trans (hb.mono B13.out.size))
    clear hb
    go_wp2_with fail
    go_ret
    exact ⟨rfl, B14.out⟩)

end Go.Proofs.YtjlgnbjfgeppcaaDoor
