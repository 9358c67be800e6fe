/- PortMoves, walked. -/
import Derived.Test.YtjlgnbjfgeppcaaDoorCaseBase
namespace Go.Proofs.YtjlgnbjfgeppcaaDoor
open Go Go.RowKit
set_option linter.unusedVariables false
attribute [local go_sem ↓] Go.wp_at_zero Go.wp_at_succ

theorem addC_zero {p : PortP} {l : List ByteArray} {g : Int} {D : ByteArray} {b : Bool} (h : addC p l g D b = 0) : portC p l g = 0 := by
  by_cases hc : portC p l g = 0
  · exact hc
  · rw [addC_bad hc] at h; exact absurd h hc
theorem addL_small (p : PortP) (l : List ByteArray) (g : Int) (D : ByteArray) (b : Bool) (hl : ∀ s ∈ l, s.size < 9223372036854775808) (hD : D.size < 9223372036854775808) :
    (addL p l g D b).length ≤ 8796093022208 ∧ ∀ s ∈ addL p l g D b, s.size < 9223372036854775808 := by
  by_cases h : addC p l g D b = 0
  · have hc := addC_zero h
    have h1 := (fitsP_parts (portC_zero hc).2).1
    have h2 := (planC_zero (portC_plan0 hc)).2.2.2.2.2.1
    have h3 := depthM_le p.kind
    by_cases hk : p.kind ≤ 2
    · rw [addL_one h hk]; simpa using hD
    · rw [addL_more h hk]
      refine ⟨by simp; omega, fun s hs => ?_⟩
      rcases List.mem_append.1 hs with hs | hs
      · exact hl s hs
      · simp only [List.mem_singleton] at hs; rw [hs]; exact hD
  · rw [addL_not h]; simp
theorem addC_le (p : PortP) (l : List ByteArray) (g : Int) (D : ByteArray) (b : Bool) : addC p l g D b ≤ 20 := by
  have h := portC_or p l g
  unfold addC
  cases decide (portC p l g = 0) <;> cases b <;> cases decide (p.size < (D.size : Int)) <;> cases decide (p.kind ≤ 2) <;> cases decide ((l.length : Int) = p.depth) <;> simp <;> omega
theorem getC_le (p : PortP) (l : List ByteArray) (g : Int) : getC p l g ≤ 20 := by
  have h := portC_or p l g
  unfold getC
  cases decide (portC p l g = 0) <;> cases inK p.kind <;> cases decide (l.length = 0) <;> simp <;> omega
theorem drC_le (p : PortP) (l : List ByteArray) (g : Int) : drC p l g ≤ 20 := by
  have h := portC_or p l g
  unfold drC
  cases decide (portC p l g = 0) <;> cases inK p.kind <;> simp <;> omega
theorem getL_small (p : PortP) (l : List ByteArray) (g : Int) (hn : l.length ≤ 8796093022208) (hl : ∀ s ∈ l, s.size < 9223372036854775808) :
    (getL p l g).length ≤ 8796093022208 ∧ ∀ s ∈ getL p l g, s.size < 9223372036854775808 := by
  unfold getL
  cases decide (getC p l g = 0)
  · simp
  · cases decide (p.kind = 1)
    · exact ⟨by simp; omega, fun s hs => hl s (List.mem_of_mem_drop hs)⟩
    · exact ⟨hn, hl⟩
theorem drL_small (p : PortP) (l : List ByteArray) (g : Int) (hn : l.length ≤ 8796093022208) (hl : ∀ s ∈ l, s.size < 9223372036854775808) :
    (drL p l g).length ≤ 8796093022208 ∧ ∀ s ∈ drL p l g, s.size < 9223372036854775808 := by
  unfold drL
  cases decide (drC p l g = 0)
  · simp
  · exact ⟨hn, hl⟩
/-- What stands between two of the law's calls. -/
structure MS (w W : World) (cs : Array Value) (T : TypeId) (vb : Nat) (va : Option Addr) (vm vc : Nat) (vg : Int) (vl : List ByteArray) (ub : Nat) (us : Array Value) : Prop where
  below : Below w.heap.size w W
  case : Blk W w.heap.size cs T
  v : Blk W vb #[.slice va vm vc, .int .i64 vg] 29
  own : OwnS W 0 (.slice va vm vc) vl
  far : (Value.slice va vm vc).ownBlock ≠ some ub
  u : Blk W ub us 29
  lt : w.heap.size < vb
  ne : vb ≠ ub
  lu : w.heap.size < ub
structure MS0 (w W : World) (cs : Array Value) (T : TypeId) (vb : Nat) (va : Option Addr) (vm vc : Nat) (vg : Int) (vl : List ByteArray) : Prop where
  below : Below w.heap.size w W
  case : Blk W w.heap.size cs T
  v : Blk W vb #[.slice va vm vc, .int .i64 vg] 29
  own : OwnS W 0 (.slice va vm vc) vl
  lt : w.heap.size < vb
theorem MS.later {w W W' : World} {cs : Array Value} {T : TypeId} {vb : Nat} {va : Option Addr} {vm vc : Nat} {vg : Int} {vl : List ByteArray} {ub : Nat} {us : Array Value} (h : MS w W cs T vb va vm vc vg vl ub us) (hb : Below W.heap.size W W') : MS w W' cs T vb va vm vc vg vl ub us :=
  ⟨h.below.trans (hb.mono h.below.size), h.case.later hb, h.v.later hb, h.own.later hb, h.far, h.u.later hb, h.lt, h.ne, h.lu⟩
theorem ownS_far {w : World} {B : Nat} {v : Value} {l : List ByteArray} (h : OwnS w B v l) {b : Nat} (hb : b < B) : v.ownBlock ≠ some b := fun e => by
  have := ownS_base h e
  omega
set_option maxRecDepth 100000 in
set_option maxHeartbeats 16000000 in
theorem law_PortMoves (A : Nat → Addr) (k s d r : Int) (a : Option Addr) (n cap : Nat) (l : List ByteArray) (g : Int) (D : ByteArray) (pa : Option Addr) (pn pc : Nat) (qa : Option Addr) (qn qc : Nat) (ma : Option Addr) (mn mc : Nat) (w : World) (h : RdS w a n cap l) (hD : D.size < 9223372036854775808) (hE : Errs w allCodes A) (hT : TypeVar w) :
    Calls Tryd.prog 5 #[.agg (caseA k s d r a n cap g D pa pn pc qa qn qc ma mn mc)] w fun e w' => e = .returned (.bool true) ∧ Below w.heap.size w w' := by
  have hs := h.size
  have hln := h.len
  have hnb := h.bound
  obtain ⟨w1, e1⟩ : ∃ w1, w1 = w.alloc (.cells (caseA k s d r a n cap g D pa pn pc qa qn qc ma mn mc) 45) := ⟨_, rfl⟩
  have b1 : Below w.heap.size w w1 := by rw [e1]; exact below_alloc _ _
  have k1 : Blk w1 w.heap.size (caseA k s d r a n cap g D pa pn pc qa qn qc ma mn mc) 45 := by rw [e1]; exact Blk.new _ _ _
  have E1 := Kp.mk e1
  have B1 := Kp.mk b1
  have K1 := Kp.mk k1
  have H0 := Kp.mk h
  have HE := Kp.mk hE
  have HT := Kp.mk hT
  have HS := Kp.mk hs
  have HLN : Kp (l.length ≤ 8796093022208) := ⟨by rw [hln]; exact hnb⟩
  have HF := Kp.mk (law_fixed A w1 (hE.later b1))
  have HDB := Kp.mk hD
  clear h hE hT hs hln hnb e1 b1 k1 hD
  go_enter Tryd.func5, Tryd.ntmps5
  go_wp2_with fail
  rw [← E1.out]
  refine HF.out.mono ?_
  rintro e w2 ⟨rfl, hb⟩
  have B2 := Kp.mk (B1.out.trans (hb.mono B1.out.size))
  have K2 := Kp.mk (K1.out.later hb)
  clear hb HF B1 K1 E1
  obtain ⟨c0, c1, c2, c3, q0, q1, d0⟩ := cs_of K2.out
  obtain ⟨cc, hcc⟩ : ∃ c, c = addC ⟨k, s, d, r⟩ l g D (inK k) := ⟨_, rfl⟩
  obtain ⟨al, hal⟩ : ∃ c, c = addL ⟨k, s, d, r⟩ l g D (inK k) := ⟨_, rfl⟩
  obtain ⟨ag, hag⟩ : ∃ c, c = (0 : Int) := ⟨_, rfl⟩
  have HAL : Kp (al.length ≤ 8796093022208) := ⟨by rw [hal]; exact (addL_small _ _ _ _ _ HS.out HDB.out).1⟩
  have HAS : Kp (∀ s ∈ al, s.size < 9223372036854775808) := ⟨by rw [hal]; exact (addL_small _ _ _ _ _ HS.out HDB.out).2⟩
  have lcc : cc ≤ 20 := by rw [hcc]; exact addC_le _ _ _ _ _
  obtain ⟨ev, hev⟩ : ∃ v, v = errOf A cc := ⟨_, rfl⟩
  have C20 : Kp (∀ v, Below w2.heap.size w2 v → Calls Tryd.prog 20 #[.agg (portA a n cap g)] v fun e w' => ∃ a' m' c', e = .returned (.agg (portA a' m' c' g)) ∧ RdS w' a' m' c' l ∧ Below v.heap.size v w') := ⟨fun v hv => (law_copied a n cap l g v (H0.out.later (B2.out.trans (hv.mono B2.out.size)))).mono fun e w' ⟨u, h1, h2, h3⟩ => by
    obtain ⟨a', c', m', hm, rfl⟩ := h2.shapeN
    exact ⟨a', m', c', h1, h2.rdn HLN.out HS.out, h3⟩⟩
  have CP : Kp (∀ v a' m' c', Below w2.heap.size w2 v → RdS v a' m' c' l → Calls Tryd.prog 11 #[.agg (rowK k s d r), .agg (portA a' m' c' g), .string D] v fun e w' => ∃ a2 m2 c2, e = .returned (.tuple #[.agg (portA a2 m2 c2 ag), ev]) ∧ OwnS w' v.heap.size (.slice a2 m2 c2) al ∧ Below v.heap.size v w') := ⟨fun v a' m' c' hv hr => (port_put A ⟨k, s, d, r⟩ a' m' c' l g D v hr HDB.out ((HE.out.later (B2.out.trans (hv.mono B2.out.size))).sub (by decide))).mono fun e w' ⟨u, h1, h2, h3⟩ => by
    obtain ⟨a2, c2, m2, hm, rfl⟩ := h2.shapeN
    exact ⟨a2, m2, c2, by rw [hev, hcc, hag]; exact h1, by rw [hal]; exact h2, h3⟩⟩
  have CR : Kp (∀ v, RdS v a n cap l → Calls Tryd.prog 24 #[.agg (rowK k s d r), .agg (portA a n cap g), .string D] v fun e w' => ∃ a2 m2 c2, e = .returned (.tuple #[.agg (portA a2 m2 c2 ag), .int .i64 (cc : Nat)]) ∧ OwnS w' v.heap.size (.slice a2 m2 c2) al ∧ Below v.heap.size v w') := ⟨fun v hr => (ref_put ⟨k, s, d, r⟩ a n cap l g D v hr HDB.out).mono fun e w' ⟨u, h1, h2, h3⟩ => by
    obtain ⟨a2, c2, m2, hm, rfl⟩ := h2.shapeN
    exact ⟨a2, m2, c2, by rw [hcc, hag]; exact h1, by rw [hal]; exact h2, h3⟩⟩
  have HEV := Kp.mk (And.intro hev lcc)
  subst hag
  clear hcc hal hev lcc
  have SQ : Kp (∀ v, Below w2.heap.size w2 v → CS v w.heap.size k s d r a n cap g D) := ⟨fun v hv => cs_of (K2.out.later hv)⟩
  have SR : Kp (∀ v b x y, Below w2.heap.size w2 v → w2.heap.size ≤ b → CS ((v.setCell ⟨b, 0, none⟩ x).setCell ⟨b, 1, none⟩ y) w.heap.size k s d r a n cap g D) := ⟨fun v b x y hv hb => cs_of ((K2.out.later hv).other2 b x y (by have := K2.out.lt; omega))⟩
  have hzp := zvPort
  go_wp2_with fail
  go_region_held3 (fun v => v.cell? ⟨w.heap.size, 0, none⟩ = some (.int .i64 k) ∧ v.cell? ⟨w.heap.size, 1, none⟩ = some (.int .i64 s) ∧ v.cell? ⟨w.heap.size, 2, none⟩ = some (.int .i64 d) ∧ v.cell? ⟨w.heap.size, 3, none⟩ = some (.int .i64 r) ∧ v.cell? ⟨w.heap.size, 4, none⟩ = some (.slice a n cap) ∧ v.cell? ⟨w.heap.size, 5, none⟩ = some (.int .i64 g) ∧ v.cell? ⟨w.heap.size, 6, none⟩ = some (.string D)) (first | exact SQ.out _ (Drew.once _).below | exact SQ.out _ (bl1 _ _ _) | exact SQ.out _ (bl3 _ _ _) | exact SQ.out _ HX1.out | exact SQ.out _ (HX1.out.alloc HX1.out.size _) | exact SQ.out _ HX2.out | exact SQ.out _ (HX2.out.alloc HX2.out.size _) | exact SR.out _ _ _ _ HX2.out (by first | exact Nat.le_refl _ | exact HX1.out.size))
    (first
      | (go_at_call 20; first
          | ((with_reducible refine (C20.out _ (Drew.once _).below).mono ?_); rintro e x1 ⟨a4, m4, c4, rfl, hr, hb⟩; have HX1 := Kp.mk ((Drew.once w2).below.trans (hb.mono (Drew.once w2).below.size)); have R4 := Kp.mk hr; clear hb hr)
          | ((with_reducible refine (C20.out _ (bl1 _ _ _)).mono ?_); rintro e x1 ⟨a4, m4, c4, rfl, hr, hb⟩; have HX1 := Kp.mk ((bl1 w2 _ _).trans (hb.mono (bl1 w2 _ _).size)); have R4 := Kp.mk hr; have HV := Kp.mk ((new1 w2 (portA none 0 0 0) 29).later hb); clear hb hr)
          | ((with_reducible refine (C20.out _ (bl3 _ _ _)).mono ?_); rintro e x1 ⟨a4, m4, c4, rfl, hr, hb⟩; have HX1 := Kp.mk ((bl3 w2 _ _).trans (hb.mono (bl3 w2 _ _).size)); have R4 := Kp.mk hr; have HV := Kp.mk ((new3 w2 (portA none 0 0 0) 29).later hb); clear hb hr))
      | (go_at_call 11; first
          | ((with_reducible refine (CP.out _ a4 m4 c4 HX1.out R4.out).mono ?_); rintro e x2 ⟨a5, m5, c5, rfl, ho, hb⟩; have HX2 := Kp.mk (HX1.out.trans (hb.mono HX1.out.size)); have HO := Kp.mk ho; (try (have LV := Kp.mk HV.out.lt; have HV := Kp.mk (HV.out.later hb); have z0 := HV.out.cell 0 _ rfl; have z1 := HV.out.cell 1 _ rfl; have f0 := HV.out.free 0; have f1 := HV.out.free 1)); clear hb ho)
          | ((with_reducible refine (CP.out _ a4 m4 c4 (HX1.out.alloc HX1.out.size _) (R4.out.later (below_alloc _ _))).mono ?_); rintro e x2 ⟨a5, m5, c5, rfl, ho, hb⟩; have HX2 := Kp.mk ((HX1.out.alloc HX1.out.size _).trans (hb.mono (HX1.out.alloc HX1.out.size _).size)); have HO := Kp.mk ho; have LV := Kp.mk (Blk.new x1 (portA none 0 0 0) 29).lt; have HV := Kp.mk ((Blk.new x1 (portA none 0 0 0) 29).later hb); have z0 := HV.out.cell 0 _ rfl; have z1 := HV.out.cell 1 _ rfl; have f0 := HV.out.free 0; have f1 := HV.out.free 1; clear hb ho)))
  all_goals first
    | (refine then_gen (F := fun W => Kp (MS0 w W (caseA k s d r a n cap g D pa pn pc qa qn qc ma mn mc) 45 x2.heap.size a5 m5 c5 0 al)) ⟨⟨B2.out.trans ((HX2.out.alloc HX2.out.size _).mono B2.out.size), K2.out.later (HX2.out.alloc HX2.out.size _), Blk.new _ _ _, (HO.out.later (below_alloc _ _)).mono (Nat.zero_le _), Nat.lt_of_lt_of_le K2.out.lt HX2.out.size⟩⟩ ?_; generalize x2.heap.size = vb)
    | (refine then_gen (F := fun W => Kp (MS0 w W (caseA k s d r a n cap g D pa pn pc qa qn qc ma mn mc) 45 w2.heap.size a5 m5 c5 0 al)) ⟨⟨B2.out.trans ((below_set2 HX2.out _ _ _ (Nat.le_refl _)).mono B2.out.size), K2.out.later (below_set2 HX2.out _ _ _ (Nat.le_refl _)), HV.out.set2 _ _, (HO.out.set2 _ _ _ LV.out).mono (Nat.zero_le _), K2.out.lt⟩⟩ ?_; generalize w2.heap.size = vb)
    | (refine then_gen (F := fun W => Kp (MS0 w W (caseA k s d r a n cap g D pa pn pc qa qn qc ma mn mc) 45 x1.heap.size a5 m5 c5 0 al)) ⟨⟨B2.out.trans ((below_set2 HX2.out _ _ _ HX1.out.size).mono B2.out.size), K2.out.later (below_set2 HX2.out _ _ _ HX1.out.size), HV.out.set2 _ _, (HO.out.set2 _ _ _ LV.out).mono (Nat.zero_le _), Nat.lt_of_lt_of_le K2.out.lt HX1.out.size⟩⟩ ?_; generalize x1.heap.size = vb)
  all_goals (
    intro w4 HW
    have M4 := HW
    clear HW HO HX1 HX2 R4 SQ SR C20 CP hzp
    try clear HV LV z0 z1 f0 f1
    clear c0 c1 c2 c3 q0 q1 d0
    obtain ⟨c0, c1, c2, c3, q0, q1, d0⟩ := cs_of M4.out.case
    go_wp2_with fail
    refine (CR.out w4 (H0.out.later M4.out.below)).mono ?_
    rintro e w5 ⟨a6, m6, c6, rfl, ho, hb⟩
    obtain ⟨w6, e6⟩ : ∃ w6, w6 = w5.alloc (.cells #[.slice a6 m6 c6, .int .i64 0] 29) := ⟨_, rfl⟩
    have b6 : Below w5.heap.size w5 w6 := by rw [e6]; exact below_alloc _ _
    have hb6 := hb.trans (b6.mono hb.size)
    have V5 := Kp.mk (M4.out.v.later hb)
    have M6 : Kp (MS w w6 (caseA k s d r a n cap g D pa pn pc qa qn qc ma mn mc) 45 vb a5 m5 c5 0 al w5.heap.size #[.slice a6 m6 c6, .int .i64 0]) := ⟨⟨M4.out.below.trans (hb6.mono M4.out.below.size), M4.out.case.later hb6, M4.out.v.later hb6, M4.out.own.later hb6, ownS_lt (M4.out.own.later hb), by rw [e6]; exact Blk.new _ _ _, M4.out.lt, Nat.ne_of_lt V5.out.lt, Nat.lt_trans M4.out.lt V5.out.lt⟩⟩
    have U6 : Kp (RdS w6 a6 m6 c6 al) := ⟨(ho.rdn HAL.out HAS.out).later b6⟩
    have E6 := Kp.mk e6
    have HSM := Kp.mk (law_same w6 (HE.out.later M6.out.below) (HT.out.later M6.out.below) cc HEV.out.2)
    rw [← HEV.out.1] at HSM
    clear c0 c1 c2 c3 q0 q1 d0 ho hb hb6 b6 e6 CR
    go_wp2_with fail
    rw [← E6.out]
    clear M4 V5
    generalize w5.heap.size = ub at M6 ⊢
    refine HSM.out.mono ?_
    rintro e w7 ⟨rfl, hb⟩
    have M7 : Kp (MS w w7 _ _ _ _ _ _ _ _ _ _) := ⟨M6.out.later hb⟩
    have U7 := Kp.mk (U6.out.later hb)
    have HSS := Kp.mk (ref_same a5 m5 c5 a6 m6 c6 al 0 w7 (M7.out.own.rdn HAL.out HAS.out) U7.out)
    clear hb HSM M6 U6
    have v0 := M7.out.v.cell 0 _ rfl
    have v1 := M7.out.v.cell 1 _ rfl
    have u0 := M7.out.u.cell 0 _ rfl
    have u1 := M7.out.u.cell 1 _ rfl
    go_wp2_with fail
    refine HSS.out.mono ?_
    rintro e w8 ⟨rfl, hb⟩
    have M8 : Kp (MS w w8 _ _ _ _ _ _ _ _ _ _) := ⟨M7.out.later hb⟩
    clear v0 v1 u0 u1 M7 HSS
    clear hb U7 HEV HAL HAS
    obtain ⟨c0, c1, c2, c3, q0, q1, d0⟩ := cs_of M8.out.case
    have B8 : Kp (Below w.heap.size w w8) := ⟨M8.out.below⟩
    obtain ⟨cc, hcc⟩ : ∃ c, c = addC ⟨k, s, d, r⟩ l g D (!inK k) := ⟨_, rfl⟩
    obtain ⟨al, hal⟩ : ∃ c, c = addL ⟨k, s, d, r⟩ l g D (!inK k) := ⟨_, rfl⟩
    obtain ⟨ag, hag⟩ : ∃ c, c = (0 : Int) := ⟨_, rfl⟩
    have HAL : Kp (al.length ≤ 8796093022208) := ⟨by rw [hal]; exact (addL_small _ _ _ _ _ HS.out HDB.out).1⟩
    have HAS : Kp (∀ s ∈ al, s.size < 9223372036854775808) := ⟨by rw [hal]; exact (addL_small _ _ _ _ _ HS.out HDB.out).2⟩
    have lcc : cc ≤ 20 := by rw [hcc]; exact addC_le _ _ _ _ _
    obtain ⟨ev, hev⟩ : ∃ v, v = errOf A cc := ⟨_, rfl⟩
    have C20 : Kp (∀ v, Below w8.heap.size w8 v → Calls Tryd.prog 20 #[.agg (portA a n cap g)] v fun e w' => ∃ a' m' c', e = .returned (.agg (portA a' m' c' g)) ∧ RdS w' a' m' c' l ∧ Below v.heap.size v w') := ⟨fun v hv => (law_copied a n cap l g v (H0.out.later (B8.out.trans (hv.mono B8.out.size)))).mono fun e w' ⟨u, h1, h2, h3⟩ => by
      obtain ⟨a', c', m', hm, rfl⟩ := h2.shapeN
      exact ⟨a', m', c', h1, h2.rdn HLN.out HS.out, h3⟩⟩
    have CP : Kp (∀ v a' m' c', Below w8.heap.size w8 v → RdS v a' m' c' l → Calls Tryd.prog 27 #[.agg (rowK k s d r), .agg (portA a' m' c' g), .string D] v fun e w' => ∃ a2 m2 c2, e = .returned (.tuple #[.agg (portA a2 m2 c2 ag), ev]) ∧ OwnS w' v.heap.size (.slice a2 m2 c2) al ∧ Below v.heap.size v w') := ⟨fun v a' m' c' hv hr => (port_write A ⟨k, s, d, r⟩ a' m' c' l g D v hr HDB.out ((HE.out.later (B8.out.trans (hv.mono B8.out.size))).sub (by decide))).mono fun e w' ⟨u, h1, h2, h3⟩ => by
      obtain ⟨a2, c2, m2, hm, rfl⟩ := h2.shapeN
      exact ⟨a2, m2, c2, by rw [hev, hcc, hag]; exact h1, by rw [hal]; exact h2, h3⟩⟩
    have CR : Kp (∀ v, RdS v a n cap l → Calls Tryd.prog 28 #[.agg (rowK k s d r), .agg (portA a n cap g), .string D] v fun e w' => ∃ a2 m2 c2, e = .returned (.tuple #[.agg (portA a2 m2 c2 ag), .int .i64 (cc : Nat)]) ∧ OwnS w' v.heap.size (.slice a2 m2 c2) al ∧ Below v.heap.size v w') := ⟨fun v hr => (ref_write ⟨k, s, d, r⟩ a n cap l g D v hr HDB.out).mono fun e w' ⟨u, h1, h2, h3⟩ => by
      obtain ⟨a2, c2, m2, hm, rfl⟩ := h2.shapeN
      exact ⟨a2, m2, c2, by rw [hcc, hag]; exact h1, by rw [hal]; exact h2, h3⟩⟩
    have HEV := Kp.mk (And.intro hev lcc)
    subst hag
    clear hcc hal hev lcc
    have SQ : Kp (∀ v, Below w8.heap.size w8 v → CS v w.heap.size k s d r a n cap g D) := ⟨fun v hv => cs_of (M8.out.case.later hv)⟩
    have SR : Kp (∀ v x y, Below w8.heap.size w8 v → CS ((v.setCell ⟨vb, 0, none⟩ x).setCell ⟨vb, 1, none⟩ y) w.heap.size k s d r a n cap g D) := ⟨fun v x y hv => cs_of ((M8.out.case.later hv).other2 vb x y (by have := M8.out.lt; omega))⟩
    go_wp2_with fail
    go_region_held3 (fun v => v.cell? ⟨w.heap.size, 0, none⟩ = some (.int .i64 k) ∧ v.cell? ⟨w.heap.size, 1, none⟩ = some (.int .i64 s) ∧ v.cell? ⟨w.heap.size, 2, none⟩ = some (.int .i64 d) ∧ v.cell? ⟨w.heap.size, 3, none⟩ = some (.int .i64 r) ∧ v.cell? ⟨w.heap.size, 4, none⟩ = some (.slice a n cap) ∧ v.cell? ⟨w.heap.size, 5, none⟩ = some (.int .i64 g) ∧ v.cell? ⟨w.heap.size, 6, none⟩ = some (.string D)) (first | exact SQ.out _ (Drew.once _).below | exact SQ.out _ HX1.out | exact SQ.out _ HX2.out | exact SR.out _ _ _ HX2.out)
      (first
        | (go_at_call 20; (with_reducible refine (C20.out _ (Drew.once _).below).mono ?_); rintro e x1 ⟨a4, m4, c4, rfl, hr, hb⟩; have HX1 := Kp.mk ((Drew.once w8).below.trans (hb.mono (Drew.once w8).below.size)); have R4 := Kp.mk hr; clear hb hr)
        | (go_at_call 27; (with_reducible refine (CP.out _ a4 m4 c4 HX1.out R4.out).mono ?_); rintro e x2 ⟨a5, m5, c5, rfl, ho, hb⟩; have HX2 := Kp.mk (HX1.out.trans (hb.mono HX1.out.size)); have HO := Kp.mk ho; have HVB := Kp.mk (M8.out.v.later HX2.out); have LV : Kp (vb < x1.heap.size) := ⟨Nat.lt_of_lt_of_le M8.out.v.lt HX1.out.size⟩; have z0 := HVB.out.cell 0 _ rfl; have z1 := HVB.out.cell 1 _ rfl; have f0 := HVB.out.free 0; have f1 := HVB.out.free 1; clear hb ho))
    refine then_gen (F := fun W => Kp (MS w W (caseA k s d r a n cap g D pa pn pc qa qn qc ma mn mc) 45 vb a5 m5 c5 0 al ub #[.slice a6 m6 c6, .int .i64 0])) ⟨⟨below_set2 (M8.out.below.trans (HX2.out.mono M8.out.below.size)) _ _ _ (Nat.le_of_lt M8.out.lt), (M8.out.case.later HX2.out).other2 _ _ _ (Nat.ne_of_lt M8.out.lt), HVB.out.set2 _ _, (HO.out.set2 _ _ _ LV.out).mono (Nat.zero_le _), ownS_far HO.out (Nat.lt_of_lt_of_le M8.out.u.lt HX1.out.size), (M8.out.u.later HX2.out).other2 _ _ _ (fun h => M8.out.ne h.symm), M8.out.lt, M8.out.ne, M8.out.lu⟩⟩ ?_
    intro w9 HW
    clear HX1 R4 SQ SR C20 CP HVB LV z0 z1 f0 f1 c0 c1 c2 c3 q0 q1 d0 HX2 HO M8 B8
    have M9 := HW
    clear HW
    obtain ⟨c0, c1, c2, c3, q0, q1, d0⟩ := cs_of M9.out.case
    go_wp2_with fail
    refine (CR.out w9 (H0.out.later M9.out.below)).mono ?_
    rintro e w10 ⟨a7, m7, c7, rfl, ho, hb⟩
    have hu := M9.out.u.later hb
    have u0 := hu.cell 0 _ rfl
    have u1 := hu.cell 1 _ rfl
    have g0 := hu.free 0
    have g1 := hu.free 1
    obtain ⟨w6, e6⟩ : ∃ w6, w6 = (w10.setCell ⟨ub, 0, none⟩ (.slice a7 m7 c7)).setCell ⟨ub, 1, none⟩ (.int .i64 0) := ⟨_, rfl⟩
    have M6 : Kp (MS w w6 (caseA k s d r a n cap g D pa pn pc qa qn qc ma mn mc) 45 vb a5 m5 c5 0 al ub #[.slice a7 m7 c7, .int .i64 0]) := ⟨by
      rw [e6]
      exact ⟨below_set2 (M9.out.below.trans (hb.mono M9.out.below.size)) _ _ _ (Nat.le_of_lt M9.out.lu), (M9.out.case.later hb).other2 _ _ _ (Nat.ne_of_lt M9.out.lu), (M9.out.v.later hb).other2 _ _ _ M9.out.ne, (M9.out.own.later hb).far2 _ _ _ M9.out.far, M9.out.far, hu.set2 _ _, M9.out.lt, M9.out.ne, M9.out.lu⟩⟩
    have U6 : Kp (RdS w6 a7 m7 c7 al) := ⟨by rw [e6]; exact (ho.set2 _ _ _ M9.out.u.lt).rdn HAL.out HAS.out⟩
    have E6 := Kp.mk e6
    have HSM := Kp.mk (law_same w6 (HE.out.later M6.out.below) (HT.out.later M6.out.below) cc HEV.out.2)
    rw [← HEV.out.1] at HSM
    clear c0 c1 c2 c3 q0 q1 d0 ho hb e6 CR hu M9
    go_wp2_with fail
    rw [← E6.out]
    clear u0 u1 g0 g1 E6
    refine HSM.out.mono ?_
    rintro e w7 ⟨rfl, hb⟩
    have M7 : Kp (MS w w7 _ _ _ _ _ _ _ _ _ _) := ⟨M6.out.later hb⟩
    have U7 := Kp.mk (U6.out.later hb)
    have HSS := Kp.mk (ref_same a5 m5 c5 a7 m7 c7 al 0 w7 (M7.out.own.rdn HAL.out HAS.out) U7.out)
    clear hb HSM M6 U6
    have v0 := M7.out.v.cell 0 _ rfl
    have v1 := M7.out.v.cell 1 _ rfl
    have u0 := M7.out.u.cell 0 _ rfl
    have u1 := M7.out.u.cell 1 _ rfl
    go_wp2_with fail
    refine HSS.out.mono ?_
    rintro e w8 ⟨rfl, hb⟩
    have M8 : Kp (MS w w8 _ _ _ _ _ _ _ _ _ _) := ⟨M7.out.later hb⟩
    clear v0 v1 u0 u1 M7 HSS
    clear hb U7 HEV HAL HAS
    obtain ⟨c0, c1, c2, c3, q0, q1, d0⟩ := cs_of M8.out.case
    have B8 : Kp (Below w.heap.size w w8) := ⟨M8.out.below⟩
    obtain ⟨cc, hcc⟩ : ∃ c, c = getC ⟨k, s, d, r⟩ l g := ⟨_, rfl⟩
    obtain ⟨al, hal⟩ : ∃ c, c = getL ⟨k, s, d, r⟩ l g := ⟨_, rfl⟩
    obtain ⟨ag, hag⟩ : ∃ c, c = getG ⟨k, s, d, r⟩ l g := ⟨_, rfl⟩
    obtain ⟨tx, htx⟩ : ∃ c, c = getT ⟨k, s, d, r⟩ l g := ⟨_, rfl⟩
    obtain ⟨tb, htb⟩ : ∃ c, c = getB ⟨k, s, d, r⟩ l g := ⟨_, rfl⟩
    have HAL : Kp (al.length ≤ 8796093022208) := ⟨by rw [hal]; exact (getL_small _ _ _ HLN.out HS.out).1⟩
    have HAS : Kp (∀ s ∈ al, s.size < 9223372036854775808) := ⟨by rw [hal]; exact (getL_small _ _ _ HLN.out HS.out).2⟩
    have lcc : cc ≤ 20 := by rw [hcc]; exact getC_le _ _ _
    obtain ⟨ev, hev⟩ : ∃ v, v = errOf A cc := ⟨_, rfl⟩
    have C20 : Kp (∀ v, Below w8.heap.size w8 v → Calls Tryd.prog 20 #[.agg (portA a n cap g)] v fun e w' => ∃ a' m' c', e = .returned (.agg (portA a' m' c' g)) ∧ RdS w' a' m' c' l ∧ Below v.heap.size v w') := ⟨fun v hv => (law_copied a n cap l g v (H0.out.later (B8.out.trans (hv.mono B8.out.size)))).mono fun e w' ⟨u, h1, h2, h3⟩ => by
      obtain ⟨a', c', m', hm, rfl⟩ := h2.shapeN
      exact ⟨a', m', c', h1, h2.rdn HLN.out HS.out, h3⟩⟩
    have CP : Kp (∀ v a' m' c', Below w8.heap.size w8 v → RdS v a' m' c' l → Calls Tryd.prog 12 #[.agg (rowK k s d r), .agg (portA a' m' c' g)] v fun e w' => ∃ a2 m2 c2, e = .returned (.tuple #[.agg (portA a2 m2 c2 ag), .string tx, .bool tb, ev]) ∧ OwnS w' v.heap.size (.slice a2 m2 c2) al ∧ Below v.heap.size v w') := ⟨fun v a' m' c' hv hr => (port_get A ⟨k, s, d, r⟩ a' m' c' l g v hr ((HE.out.later (B8.out.trans (hv.mono B8.out.size))).sub (by decide))).mono fun e w' ⟨u, h1, h2, h3⟩ => by
      obtain ⟨a2, c2, m2, hm, rfl⟩ := h2.shapeN
      exact ⟨a2, m2, c2, by rw [hev, hcc, hag, htx, htb]; exact h1, by rw [hal]; exact h2, h3⟩⟩
    have CR : Kp (∀ v, RdS v a n cap l → Calls Tryd.prog 29 #[.agg (rowK k s d r), .agg (portA a n cap g)] v fun e w' => ∃ a2 m2 c2, e = .returned (.tuple #[.agg (portA a2 m2 c2 ag), .string tx, .bool tb, .int .i64 (cc : Nat)]) ∧ OwnS w' v.heap.size (.slice a2 m2 c2) al ∧ Below v.heap.size v w') := ⟨fun v hr => (ref_get ⟨k, s, d, r⟩ a n cap l g v hr).mono fun e w' ⟨u, h1, h2, h3⟩ => by
      obtain ⟨a2, c2, m2, hm, rfl⟩ := h2.shapeN
      exact ⟨a2, m2, c2, by rw [hcc, hag, htx, htb]; exact h1, by rw [hal]; exact h2, h3⟩⟩
    have HEV := Kp.mk (And.intro hev lcc)
    clear hag
    clear htx
    clear htb
    clear hcc hal hev lcc
    have SQ : Kp (∀ v, Below w8.heap.size w8 v → CS v w.heap.size k s d r a n cap g D) := ⟨fun v hv => cs_of (M8.out.case.later hv)⟩
    have SR : Kp (∀ v x y, Below w8.heap.size w8 v → CS ((v.setCell ⟨vb, 0, none⟩ x).setCell ⟨vb, 1, none⟩ y) w.heap.size k s d r a n cap g D) := ⟨fun v x y hv => cs_of ((M8.out.case.later hv).other2 vb x y (by have := M8.out.lt; omega))⟩
    go_wp2_with fail
    go_region_held3 (fun v => v.cell? ⟨w.heap.size, 0, none⟩ = some (.int .i64 k) ∧ v.cell? ⟨w.heap.size, 1, none⟩ = some (.int .i64 s) ∧ v.cell? ⟨w.heap.size, 2, none⟩ = some (.int .i64 d) ∧ v.cell? ⟨w.heap.size, 3, none⟩ = some (.int .i64 r) ∧ v.cell? ⟨w.heap.size, 4, none⟩ = some (.slice a n cap) ∧ v.cell? ⟨w.heap.size, 5, none⟩ = some (.int .i64 g) ∧ v.cell? ⟨w.heap.size, 6, none⟩ = some (.string D)) (first | exact SQ.out _ (Drew.once _).below | exact SQ.out _ HX1.out | exact SQ.out _ HX2.out | exact SR.out _ _ _ HX2.out)
      (first
        | (go_at_call 20; (with_reducible refine (C20.out _ (Drew.once _).below).mono ?_); rintro e x1 ⟨a4, m4, c4, rfl, hr, hb⟩; have HX1 := Kp.mk ((Drew.once w8).below.trans (hb.mono (Drew.once w8).below.size)); have R4 := Kp.mk hr; clear hb hr)
        | (go_at_call 12; (with_reducible refine (CP.out _ a4 m4 c4 HX1.out R4.out).mono ?_); rintro e x2 ⟨a5, m5, c5, rfl, ho, hb⟩; have HX2 := Kp.mk (HX1.out.trans (hb.mono HX1.out.size)); have HO := Kp.mk ho; have HVB := Kp.mk (M8.out.v.later HX2.out); have LV : Kp (vb < x1.heap.size) := ⟨Nat.lt_of_lt_of_le M8.out.v.lt HX1.out.size⟩; have z0 := HVB.out.cell 0 _ rfl; have z1 := HVB.out.cell 1 _ rfl; have f0 := HVB.out.free 0; have f1 := HVB.out.free 1; clear hb ho))
    refine then_gen (F := fun W => Kp (MS w W (caseA k s d r a n cap g D pa pn pc qa qn qc ma mn mc) 45 vb a5 m5 c5 ag al ub #[.slice a7 m7 c7, .int .i64 0])) ⟨⟨below_set2 (M8.out.below.trans (HX2.out.mono M8.out.below.size)) _ _ _ (Nat.le_of_lt M8.out.lt), (M8.out.case.later HX2.out).other2 _ _ _ (Nat.ne_of_lt M8.out.lt), HVB.out.set2 _ _, (HO.out.set2 _ _ _ LV.out).mono (Nat.zero_le _), ownS_far HO.out (Nat.lt_of_lt_of_le M8.out.u.lt HX1.out.size), (M8.out.u.later HX2.out).other2 _ _ _ (fun h => M8.out.ne h.symm), M8.out.lt, M8.out.ne, M8.out.lu⟩⟩ ?_
    intro w9 HW
    clear HX1 R4 SQ SR C20 CP HVB LV z0 z1 f0 f1 c0 c1 c2 c3 q0 q1 d0 HX2 HO M8 B8
    have M9 := HW
    clear HW
    obtain ⟨c0, c1, c2, c3, q0, q1, d0⟩ := cs_of M9.out.case
    go_wp2_with fail
    refine (CR.out w9 (H0.out.later M9.out.below)).mono ?_
    rintro e w10 ⟨a7, m7, c7, rfl, ho, hb⟩
    have hu := M9.out.u.later hb
    have u0 := hu.cell 0 _ rfl
    have u1 := hu.cell 1 _ rfl
    have g0 := hu.free 0
    have g1 := hu.free 1
    obtain ⟨w6, e6⟩ : ∃ w6, w6 = (w10.setCell ⟨ub, 0, none⟩ (.slice a7 m7 c7)).setCell ⟨ub, 1, none⟩ (.int .i64 ag) := ⟨_, rfl⟩
    have M6 : Kp (MS w w6 (caseA k s d r a n cap g D pa pn pc qa qn qc ma mn mc) 45 vb a5 m5 c5 ag al ub #[.slice a7 m7 c7, .int .i64 ag]) := ⟨by
      rw [e6]
      exact ⟨below_set2 (M9.out.below.trans (hb.mono M9.out.below.size)) _ _ _ (Nat.le_of_lt M9.out.lu), (M9.out.case.later hb).other2 _ _ _ (Nat.ne_of_lt M9.out.lu), (M9.out.v.later hb).other2 _ _ _ M9.out.ne, (M9.out.own.later hb).far2 _ _ _ M9.out.far, M9.out.far, hu.set2 _ _, M9.out.lt, M9.out.ne, M9.out.lu⟩⟩
    have U6 : Kp (RdS w6 a7 m7 c7 al) := ⟨by rw [e6]; exact (ho.set2 _ _ _ M9.out.u.lt).rdn HAL.out HAS.out⟩
    have E6 := Kp.mk e6
    have HSM := Kp.mk (law_same w6 (HE.out.later M6.out.below) (HT.out.later M6.out.below) cc HEV.out.2)
    rw [← HEV.out.1] at HSM
    clear c0 c1 c2 c3 q0 q1 d0 ho hb e6 CR hu M9
    go_wp2_with fail
    rw [← E6.out]
    clear u0 u1 g0 g1 E6
    refine HSM.out.mono ?_
    rintro e w7 ⟨rfl, hb⟩
    have M7 : Kp (MS w w7 _ _ _ _ _ _ _ _ _ _) := ⟨M6.out.later hb⟩
    have U7 := Kp.mk (U6.out.later hb)
    have HSS := Kp.mk (ref_same a5 m5 c5 a7 m7 c7 al ag w7 (M7.out.own.rdn HAL.out HAS.out) U7.out)
    clear hb HSM M6 U6
    have v0 := M7.out.v.cell 0 _ rfl
    have v1 := M7.out.v.cell 1 _ rfl
    have u0 := M7.out.u.cell 0 _ rfl
    have u1 := M7.out.u.cell 1 _ rfl
    go_wp2_with fail
    refine HSS.out.mono ?_
    rintro e w8 ⟨rfl, hb⟩
    have M8 : Kp (MS w w8 _ _ _ _ _ _ _ _ _ _) := ⟨M7.out.later hb⟩
    clear v0 v1 u0 u1 M7 HSS
    obtain ⟨agp, hagp⟩ : ∃ x, x = ag := ⟨_, rfl⟩
    rw [← hagp] at M8
    clear hagp
    clear hb U7 HEV HAL HAS
    obtain ⟨c0, c1, c2, c3, q0, q1, d0⟩ := cs_of M8.out.case
    have B8 : Kp (Below w.heap.size w w8) := ⟨M8.out.below⟩
    obtain ⟨cc, hcc⟩ : ∃ c, c = drC ⟨k, s, d, r⟩ l g := ⟨_, rfl⟩
    obtain ⟨al, hal⟩ : ∃ c, c = drL ⟨k, s, d, r⟩ l g := ⟨_, rfl⟩
    obtain ⟨ag, hag⟩ : ∃ c, c = (0 : Int) := ⟨_, rfl⟩
    have HAL : Kp (al.length ≤ 8796093022208) := ⟨by rw [hal]; exact (drL_small _ _ _ HLN.out HS.out).1⟩
    have HAS : Kp (∀ s ∈ al, s.size < 9223372036854775808) := ⟨by rw [hal]; exact (drL_small _ _ _ HLN.out HS.out).2⟩
    have lcc : cc ≤ 20 := by rw [hcc]; exact drC_le _ _ _
    obtain ⟨ev, hev⟩ : ∃ v, v = errOf A cc := ⟨_, rfl⟩
    have C20 : Kp (∀ v, Below w8.heap.size w8 v → Calls Tryd.prog 20 #[.agg (portA a n cap g)] v fun e w' => ∃ a' m' c', e = .returned (.agg (portA a' m' c' g)) ∧ RdS w' a' m' c' l ∧ Below v.heap.size v w') := ⟨fun v hv => (law_copied a n cap l g v (H0.out.later (B8.out.trans (hv.mono B8.out.size)))).mono fun e w' ⟨u, h1, h2, h3⟩ => by
      obtain ⟨a', c', m', hm, rfl⟩ := h2.shapeN
      exact ⟨a', m', c', h1, h2.rdn HLN.out HS.out, h3⟩⟩
    have CP : Kp (∀ v a' m' c', Below w8.heap.size w8 v → RdS v a' m' c' l → Calls Tryd.prog 30 #[.agg (rowK k s d r), .agg (portA a' m' c' g)] v fun e w' => ∃ a2 m2 c2, e = .returned (.tuple #[.agg (portA none 0 0 0), .slice a2 m2 c2, ev]) ∧ OwnS w' v.heap.size (.slice a2 m2 c2) al ∧ Below v.heap.size v w') := ⟨fun v a' m' c' hv hr => (port_drain A ⟨k, s, d, r⟩ a' m' c' l g v hr ((HE.out.later (B8.out.trans (hv.mono B8.out.size))).sub (by decide))).mono fun e w' ⟨u, h1, h2, h3⟩ => by
      obtain ⟨a2, c2, m2, hm, rfl⟩ := h2.shapeN
      exact ⟨a2, m2, c2, by rw [hev, hcc]; exact h1, by rw [hal]; exact h2, h3⟩⟩
    have CR : Kp (∀ v, RdS v a n cap l → Calls Tryd.prog 31 #[.agg (rowK k s d r), .agg (portA a n cap g)] v fun e w' => ∃ a2 m2 c2, e = .returned (.tuple #[.agg (portA none 0 0 0), .slice a2 m2 c2, .int .i64 (cc : Nat)]) ∧ OwnS w' v.heap.size (.slice a2 m2 c2) al ∧ Below v.heap.size v w') := ⟨fun v hr => (ref_drain ⟨k, s, d, r⟩ a n cap l g v hr).mono fun e w' ⟨u, h1, h2, h3⟩ => by
      obtain ⟨a2, c2, m2, hm, rfl⟩ := h2.shapeN
      exact ⟨a2, m2, c2, by rw [hcc]; exact h1, by rw [hal]; exact h2, h3⟩⟩
    have HEV := Kp.mk (And.intro hev lcc)
    subst hag
    clear hcc hal hev lcc
    have SQ : Kp (∀ v, Below w8.heap.size w8 v → CS v w.heap.size k s d r a n cap g D) := ⟨fun v hv => cs_of (M8.out.case.later hv)⟩
    have SR : Kp (∀ v x y, Below w8.heap.size w8 v → CS ((v.setCell ⟨vb, 0, none⟩ x).setCell ⟨vb, 1, none⟩ y) w.heap.size k s d r a n cap g D) := ⟨fun v x y hv => cs_of ((M8.out.case.later hv).other2 vb x y (by have := M8.out.lt; omega))⟩
    go_wp2_with fail
    go_region_held3 (fun v => v.cell? ⟨w.heap.size, 0, none⟩ = some (.int .i64 k) ∧ v.cell? ⟨w.heap.size, 1, none⟩ = some (.int .i64 s) ∧ v.cell? ⟨w.heap.size, 2, none⟩ = some (.int .i64 d) ∧ v.cell? ⟨w.heap.size, 3, none⟩ = some (.int .i64 r) ∧ v.cell? ⟨w.heap.size, 4, none⟩ = some (.slice a n cap) ∧ v.cell? ⟨w.heap.size, 5, none⟩ = some (.int .i64 g) ∧ v.cell? ⟨w.heap.size, 6, none⟩ = some (.string D)) (first | exact SQ.out _ (Drew.once _).below | exact SQ.out _ HX1.out | exact SQ.out _ HX2.out | exact SR.out _ _ _ HX2.out)
      (first
        | (go_at_call 20; (with_reducible refine (C20.out _ (Drew.once _).below).mono ?_); rintro e x1 ⟨a4, m4, c4, rfl, hr, hb⟩; have HX1 := Kp.mk ((Drew.once w8).below.trans (hb.mono (Drew.once w8).below.size)); have R4 := Kp.mk hr; clear hb hr)
        | (go_at_call 30; (with_reducible refine (CP.out _ a4 m4 c4 HX1.out R4.out).mono ?_); rintro e x2 ⟨a5, m5, c5, rfl, ho, hb⟩; have HX2 := Kp.mk (HX1.out.trans (hb.mono HX1.out.size)); have HO := Kp.mk ho; have HVB := Kp.mk (M8.out.v.later HX2.out); have LV : Kp (vb < x1.heap.size) := ⟨Nat.lt_of_lt_of_le M8.out.v.lt HX1.out.size⟩; have z0 := HVB.out.cell 0 _ rfl; have z1 := HVB.out.cell 1 _ rfl; have f0 := HVB.out.free 0; have f1 := HVB.out.free 1; clear hb ho))
    refine then_gen (F := fun W => Kp (MS w W (caseA k s d r a n cap g D pa pn pc qa qn qc ma mn mc) 45 vb none 0 0 0 [] ub #[.slice a7 m7 c7, .int .i64 agp] ∧ OwnS W 0 (.slice a5 m5 c5) al ∧ (Value.slice a5 m5 c5).ownBlock ≠ some ub)) ⟨⟨below_set2 (M8.out.below.trans (HX2.out.mono M8.out.below.size)) _ _ _ (Nat.le_of_lt M8.out.lt), (M8.out.case.later HX2.out).other2 _ _ _ (Nat.ne_of_lt M8.out.lt), HVB.out.set2 _ _, OwnS.nil _ _, (by simp [Value.ownBlock]), (M8.out.u.later HX2.out).other2 _ _ _ (fun h => M8.out.ne h.symm), M8.out.lt, M8.out.ne, M8.out.lu⟩, (HO.out.set2 _ _ _ LV.out).mono (Nat.zero_le _), ownS_far HO.out (Nat.lt_of_lt_of_le M8.out.u.lt HX1.out.size)⟩ ?_
    intro w9 HW
    clear HX1 R4 SQ SR C20 CP HVB LV z0 z1 f0 f1 c0 c1 c2 c3 q0 q1 d0 HX2 HO M8 B8
    have R9 := Kp.mk HW.out.2
    have M9 := Kp.mk HW.out.1
    clear HW
    obtain ⟨c0, c1, c2, c3, q0, q1, d0⟩ := cs_of M9.out.case
    go_wp2_with fail
    refine (CR.out w9 (H0.out.later M9.out.below)).mono ?_
    rintro e w10 ⟨a7, m7, c7, rfl, ho, hb⟩
    have hu := M9.out.u.later hb
    have u0 := hu.cell 0 _ rfl
    have u1 := hu.cell 1 _ rfl
    have g0 := hu.free 0
    have g1 := hu.free 1
    obtain ⟨w6, e6⟩ : ∃ w6, w6 = (w10.setCell ⟨ub, 0, none⟩ (.slice none 0 0)).setCell ⟨ub, 1, none⟩ (.int .i64 0) := ⟨_, rfl⟩
    have M6 : Kp (MS w w6 (caseA k s d r a n cap g D pa pn pc qa qn qc ma mn mc) 45 vb none 0 0 0 [] ub #[.slice none 0 0, .int .i64 0]) := ⟨by
      rw [e6]
      exact ⟨below_set2 (M9.out.below.trans (hb.mono M9.out.below.size)) _ _ _ (Nat.le_of_lt M9.out.lu), (M9.out.case.later hb).other2 _ _ _ (Nat.ne_of_lt M9.out.lu), (M9.out.v.later hb).other2 _ _ _ M9.out.ne, OwnS.nil _ _, M9.out.far, hu.set2 _ _, M9.out.lt, M9.out.ne, M9.out.lu⟩⟩
    have U6 : Kp (RdS w6 a7 m7 c7 al) := ⟨by rw [e6]; exact (ho.set2 _ _ _ M9.out.u.lt).rdn HAL.out HAS.out⟩
    have R6 : Kp (RdS w6 a5 m5 c5 al) := ⟨by rw [e6]; exact ((R9.out.1.later hb).far2 _ _ _ R9.out.2).rdn HAL.out HAS.out⟩
    have E6 := Kp.mk e6
    have HSM := Kp.mk (law_same w6 (HE.out.later M6.out.below) (HT.out.later M6.out.below) cc HEV.out.2)
    rw [← HEV.out.1] at HSM
    clear c0 c1 c2 c3 q0 q1 d0 ho hb e6 CR hu M9
    go_wp2_with fail
    rw [← E6.out]
    clear u0 u1 g0 g1 E6
    refine HSM.out.mono ?_
    rintro e w7 ⟨rfl, hb⟩
    have M7 : Kp (MS w w7 _ _ _ _ _ _ _ _ _ _) := ⟨M6.out.later hb⟩
    have U7 := Kp.mk (U6.out.later hb)
    have R7 := Kp.mk (R6.out.later hb)
    have HSS := Kp.mk (ref_same none 0 0 none 0 0 [] 0 w7 (rdNil _) (rdNil _))
    clear hb HSM M6 U6 R6
    have v0 := M7.out.v.cell 0 _ rfl
    have v1 := M7.out.v.cell 1 _ rfl
    have u0 := M7.out.u.cell 0 _ rfl
    have u1 := M7.out.u.cell 1 _ rfl
    go_wp2_with fail
    refine HSS.out.mono ?_
    rintro e w8 ⟨rfl, hb⟩
    have M8 : Kp (MS w w8 _ _ _ _ _ _ _ _ _ _) := ⟨M7.out.later hb⟩
    clear v0 v1 u0 u1 M7 HSS
    have R8 : Kp (RdS w8 a5 m5 c5 al) := ⟨R7.out.later hb⟩
    have U8 : Kp (RdS w8 a7 m7 c7 al) := ⟨U7.out.later hb⟩
    have HTX := Kp.mk (ref_sameTexts a5 m5 c5 a7 m7 c7 al w8 R8.out U8.out)
    clear hb
    go_wp2_with fail
    refine HTX.out.mono ?_
    rintro e w9 ⟨rfl, hd⟩
    have BF := Kp.mk (M8.out.below.trans (hd.below.mono M8.out.below.size))
    clear hd
    go_wp2_with fail
    go_ret
    exact ⟨rfl, BF.out⟩)
end Go.Proofs.YtjlgnbjfgeppcaaDoor
