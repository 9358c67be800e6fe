/- The document's Arrive, walked. -/
import Derived.Test.YtjlgnbjfgeppcaaDoorArrP
namespace Go.Proofs.YtjlgnbjfgeppcaaDoor
open Go Go.RowKit
set_option linter.unusedVariables false
attribute [local go_sem ↓] Go.wp_at_zero Go.wp_at_succ

/-- Results of which the third lies in a block. -/
theorem res3c {fn : Func} {p q r : Tmp} {ty : TypeId} {w : World} {g : Nat} {T : TypeId} {cs : Array Value} (h : fn.results = #[.tmp q, .tmp r, .cell p ty]) (tmps : Array Value) (hp : tmps.getD p undef = .pointer (some ⟨g, 0, none⟩)) (hg : Blk w g cs T) (fs : Array Field)
    (hu : Tryd.prog.underlying ty = some (.struct fs)) (hi : (Tryd.prog.info? ty).map (·.size) = some cs.size) :
    (results fn tmps).run Tryd.prog w = .ok (.tuple #[tmps.getD q undef, tmps.getD r undef, .agg cs]) w := by
  have hp' : tmps[p]?.getD undef = .pointer (some ⟨g, 0, none⟩) := by simpa using hp
  simp [results, h, hp', asAddr, run_loadVar_row w g T ty cs (0, 0) _ hg hu rfl hi]
theorem OwnPo.mono {w : World} {B B' : Nat} {v : Value} {n : Nat} {U : Nat → PortV} (h : OwnPo w B v n U) (hB : B' ≤ B) : OwnPo w B' v n U := by
  refine ⟨⟨h.row.1, ?_⟩, fun i hi => (h.each i hi).mono hB, h.far⟩
  rcases h.row.2 with h' | ⟨g, cap, cur, hv, hg, r⟩
  · exact .inl h'
  · exact .inr ⟨g, cap, cur, hv, by omega, r⟩
/-- The result's cells are set. -/
theorem ArrI.ret {w w2 wr : World} {E : TypeId} {c : Nat} {S : Nat → PortS} {n : Nat} {v : Value} {L : List (List Value)} {dv : Value} {U : Nat → PortV} (h : ArrI w2 wr E c S n v L dv U) (b2 : Below w.heap.size w w2) (hlt : w.heap.size < w2.heap.size) (x0 x1 : Value) :
    ArrI w ((wr.setCell ⟨w.heap.size, 0, none⟩ x0).setCell ⟨w.heap.size, 1, none⟩ x1) E c S n v L dv U := by
  have oth : ∀ b, b ≠ w.heap.size → ((wr.setCell ⟨w.heap.size, 0, none⟩ x0).setCell ⟨w.heap.size, 1, none⟩ x1).heap[b]? = wr.heap[b]? := fun b hne =>
    (heap_setCell_other _ ⟨w.heap.size, 1, none⟩ b _ hne).trans (heap_setCell_other _ ⟨w.heap.size, 0, none⟩ b _ hne)
  refine ⟨(h.po.keep fun b _ ho => oth b ?_).mono b2.size, h.is, (h.dr.keep fun b _ ho => oth b (by have := (h.dr.lt ho).1; omega)).mono b2.size, h.fv, h.fu, below_set2 (b2.trans (h.below.mono b2.size)) _ _ _ (Nat.le_refl _)⟩
  rcases ho with ho | ⟨j, hj, ho⟩
  · have := (h.po.lt ho).1; omega
  · have := (ownS_in (h.po.each j hj) ho).1; omega
set_option maxRecDepth 100000 in
set_option maxHeartbeats 4000000 in
theorem ref_arrive_bad (pa : Option Addr) (n pc : Nat) (P : Nat → PortP) (qa : Option Addr) (m qc : Nat) (V : Nat → PortV) (ma : Option Addr) (mn mc : Nat) (w : World) (h : RdPl w pa n pc P) (h2 : RdPo w qa m qc V) (c : Nat) (pl : Int) (hA : AllE P V n m c pl) (hc : c ≠ 0) :
    Calls Tryd.prog 42 #[.slice pa n pc, .slice qa m qc, .slice ma mn mc] w fun e w' => e = .returned (.tuple #[.slice none 0 0, .slice none 0 0, .agg (errA c pl)]) ∧ Below w.heap.size w w' := by
  obtain ⟨w2, e2⟩ : ∃ w2, w2 = w.alloc (.cells (errA 0 0) 89) := ⟨_, rfl⟩
  have b2 : Below w.heap.size w w2 := by rw [e2]; exact below_alloc _ _
  have z2 : Blk w2 w.heap.size (errA 0 0) 89 := by rw [e2]; exact Blk.new _ _ _
  have HC := Kp.mk (ref_all pa n pc P qa m qc V w2 (h.later b2) (h2.later b2) c pl hA)
  have E2 := Kp.mk e2
  have B2 := Kp.mk b2
  have Z2 := Kp.mk z2
  have hz := zvErr
  have hcb : ((c : Int) != 0) = true := by simpa using hc
  clear h h2 hA e2 b2 z2 hc
  go_enter Tryd.func42, Tryd.ntmps42
  go_wp2_with fail
  rw [← E2.out]
  refine HC.out.mono ?_
  rintro e w3 ⟨rfl, hb⟩
  obtain ⟨w4, e4⟩ : ∃ w4, w4 = w3.alloc (.cells (errA c pl) 89) := ⟨_, rfl⟩
  have b4 : Below w2.heap.size w2 w4 := by rw [e4]; exact hb.alloc hb.size _
  have z4 : Blk w4 w3.heap.size (errA c pl) 89 := by rw [e4]; exact Blk.new _ _ _
  have Z4 := Kp.mk (Z2.out.later b4)
  have B4 := Kp.mk (B2.out.trans (b4.mono B2.out.size))
  have e0 := z4.cell 0 _ rfl
  have e1 := z4.cell 1 _ rfl
  have z0 := Z4.out.cell 0 _ rfl
  have z1 := Z4.out.cell 1 _ rfl
  have f0 := Z4.out.free 0
  have f1 := Z4.out.free 1
  have E4 := Kp.mk e4
  have HZ := Kp.mk (Z4.out.set2 (.int .i64 (c : Int)) (.int .i64 pl))
  have HZd : Kp (Blk ((w4.drew.setCell ⟨w.heap.size, 0, none⟩ (.int .i64 (c : Int))).setCell ⟨w.heap.size, 1, none⟩ (.int .i64 pl)) w.heap.size (errA c pl) 89) := ⟨(Z4.out.later (Drew.once w4).below).set2 (.int .i64 (c : Int)) (.int .i64 pl)⟩
  have BF := Kp.mk (below_set2 (B4.out.trans ((Drew.once w4).below.mono B4.out.size)) w.heap.size (.int .i64 (c : Int)) (.int .i64 pl) (Nat.le_refl _))
  have BG := Kp.mk (below_set2 B4.out w.heap.size (.int .i64 (c : Int)) (.int .i64 pl) (Nat.le_refl _)).drew
  clear hb b4 z4 e4 HC
  go_wp2_with fail
  rw [← E4.out]
  go_region
  all_goals (
    go_wp2
    refine bodyPost_ret (res3c (p := 8) (q := 6) (r := 7) (ty := 89) rfl _ rfl (by first | exact HZ.out | exact HZd.out) _ Tryd.underlying89 (errInfo _ rfl)) rfl ⟨rfl, by first | exact BF.out | exact BG.out⟩)
set_option maxRecDepth 100000 in
set_option maxHeartbeats 16000000 in
theorem ref_arrive (pa : Option Addr) (n pc : Nat) (P : Nat → PortP) (qa : Option Addr) (m qc : Nat) (V : Nat → PortV) (ma : Option Addr) (mn mc : Nat) (C : Nat → MsgV) (w : World) (h : RdPl w pa n pc P) (h2 : RdPo w qa m qc V) (h3 : RdRows w 2 ma mn mc (fun i => (C i).row)) (hs : ∀ i, i < mn → (C i).data.size < 9223372036854775808) (hA : AllE P V n m 0 (-1)) :
    Calls Tryd.prog 42 #[.slice pa n pc, .slice qa m qc, .slice ma mn mc] w fun e w' => ∃ v d U, e = .returned (.tuple #[v, d, .agg (errA 0 (-1))]) ∧ ArrI w w' 116 4 (arrS P n (agedS P V) C mn) n v ((arrD P n (agedS P V) C mn).map RepV.row) d U := by
  obtain ⟨w2, e2⟩ : ∃ w2, w2 = w.alloc (.cells (errA 0 0) 89) := ⟨_, rfl⟩
  have b2 : Below w.heap.size w w2 := by rw [e2]; exact below_alloc _ _
  have z2 : Blk w2 w.heap.size (errA 0 0) 89 := by rw [e2]; exact Blk.new _ _ _
  have HC := Kp.mk (ref_all pa n pc P qa m qc V w2 (h.later b2) (h2.later b2) 0 (-1) hA)
  have E2 := Kp.mk e2
  have BW := Kp.mk b2
  have Z2 := Kp.mk z2
  have hz := zvErr
  have hg : n = m ∧ AllGood P V n := by
    rcases allE_cases hA with ⟨h, _⟩ | ⟨_, _, h1, h2⟩
    · exact absurd rfl h
    · exact ⟨h1, h2⟩
  obtain ⟨hnm, hgood⟩ := hg
  have HG := Kp.mk hgood
  have H1 := Kp.mk (h.later b2)
  have H2 := Kp.mk (h2.later b2)
  have H3 := Kp.mk (h3.later b2)
  have HS := Kp.mk hs
  have hn := h.bound
  have hmn := h3.bound
  subst hnm
  clear h h2 h3 hs hA hgood e2 b2 z2
  go_enter Tryd.func42, Tryd.ntmps42
  go_wp2_with fail
  rw [← E2.out]
  refine HC.out.mono ?_
  rintro e w1 ⟨rfl, hb⟩
  obtain ⟨w9, e9⟩ : ∃ w9, w9 = w1.alloc (.cells #[.int .i64 0, .int .i64 (-1)] 89) := ⟨_, rfl⟩
  have b9 : Below w2.heap.size w2 w9 := by rw [e9]; exact hb.alloc hb.size _
  have B1 := Kp.mk b9
  have E9 := Kp.mk e9
  clear hb b9 e9 HC
  go_wp2_with fail
  rw [← E9.out]
  go_loopw [10, 11] (fun ov iv wr => ∃ i : Nat, i ≤ n ∧ iv = .int .i64 (i : Int) ∧ Kp (PosL w2 (agedS P V) ov i wr)) (fun _ iv _ => n - (intOf iv).toNat)
  case atStart => exact ⟨0, by omega, rfl, ⟨⟨V, OwnPo.nil _ _ _, fun j hj => by omega, B1.out⟩⟩⟩
  case round =>
    obtain ⟨i, hi, rfl, HL⟩ := hrel
    by_cases hlt : i < n
    · obtain ⟨U, hU, hUV, hB⟩ := HL.out
      obtain ⟨oa, oc, rfl⟩ := hU.shape
      have HU := Kp.mk (And.intro hU hUV)
      have HB := Kp.mk hB
      clear hU hUV hB HL
      have hb' : decide ((i : Int) < n) = true := decide_eq_true (by omega)
      have hb1 : (0 : Int) ≤ (i : Int) := by omega
      have hb2 : (i : Int) < (n : Int) := by omega
      obtain ⟨b, off, ha, c0, c1, c2, c3⟩ := (H1.out.later HB.out).at i hlt
      obtain ⟨b', off', ha', q0, q1⟩ := (H2.out.later HB.out).at i hlt
      have hrd := (H2.out.later HB.out).rd i hlt
      have hgi := HG.out i hlt
      have hSi : (agedS P V i) = ⟨(V i).l, ageG (P i) (V i).l (V i).g⟩ := rfl
      obtain ⟨⟨k, s, d, r⟩, hp⟩ : ∃ p, p = P i := ⟨_, rfl⟩
      obtain ⟨⟨va, vm, vc, vg, vl⟩, hv⟩ : ∃ v, v = V i := ⟨_, rfl⟩
      rw [← hp] at c0 c1 c2 c3 hSi hgi
      rw [← hv] at q0 q1 hrd hSi hgi
      have c0 : wr.cell? ⟨b, off + i * 4, none⟩ = some (.int .i64 k) := c0
      have c1 : wr.cell? ⟨b, off + i * 4 + 1, none⟩ = some (.int .i64 s) := c1
      have c2 : wr.cell? ⟨b, off + i * 4 + 2, none⟩ = some (.int .i64 d) := c2
      have c3 : wr.cell? ⟨b, off + i * 4 + 3, none⟩ = some (.int .i64 r) := c3
      have q0 : wr.cell? ⟨b', off' + i * 2, none⟩ = some (.slice va vm vc) := q0
      have q1 : wr.cell? ⟨b', off' + i * 2 + 1, none⟩ = some (.int .i64 vg) := q1
      obtain ⟨w4, e4⟩ : ∃ w4, w4 = wr := ⟨_, rfl⟩
      subst e4
      have HR : Kp (RdS w4 va vm vc vl) := ⟨hrd⟩
      have B4 := HB
      have U4 := Kp.mk HU.out.1
      have Q0 := Kp.mk q0
      have Q1 := Kp.mk q1
      have C0 := Kp.mk c0
      have C1 := Kp.mk c1
      have C2 := Kp.mk c2
      have C3 := Kp.mk c3
      obtain ⟨ag, hag⟩ : ∃ c, c = ageG ⟨k, s, d, r⟩ vl vg := ⟨_, rfl⟩
      have hal : ageL ⟨k, s, d, r⟩ vl vg = vl := by unfold ageL; rw [decide_eq_true hgi]; rfl
      have HSI : Kp (vl = (agedS P V i).l ∧ ag = (agedS P V i).g) := ⟨by rw [hSi, hag]; exact ⟨rfl, rfl⟩⟩
      have HC : Kp (∀ v, Below w4.heap.size w4 v → Calls Tryd.prog 35 #[.agg (rowK k s d r), .agg (portA va vm vc vg)] v fun e w' => ∃ a2 m2 c2, e = .returned (.tuple #[.agg (portA a2 m2 c2 ag), .int .i64 0]) ∧ OwnS w' v.heap.size (.slice a2 m2 c2) vl ∧ Below v.heap.size v w') := ⟨fun v hv => (ref_age ⟨k, s, d, r⟩ va vm vc vl vg v (HR.out.later hv)).mono fun e w' ⟨u, h1, h2, h3⟩ => by
        obtain ⟨a2, c2, m2, hm, rfl⟩ := h2.shapeN
        rw [hgi] at h1
        rw [hal] at h2
        exact ⟨a2, m2, c2, by rw [hag]; exact h1, h2, h3⟩⟩
      have SQ : Kp (∀ v, Below w4.heap.size w4 v → v.cell? ⟨b, off + i * 4, none⟩ = some (.int .i64 k) ∧ v.cell? ⟨b, off + i * 4 + 1, none⟩ = some (.int .i64 s) ∧ v.cell? ⟨b, off + i * 4 + 2, none⟩ = some (.int .i64 d) ∧ v.cell? ⟨b, off + i * 4 + 3, none⟩ = some (.int .i64 r) ∧ v.cell? ⟨b', off' + i * 2, none⟩ = some (.slice va vm vc) ∧ v.cell? ⟨b', off' + i * 2 + 1, none⟩ = some (.int .i64 vg)) := ⟨fun v hv =>
        ⟨scell_later hv C0.out, scell_later hv C1.out, scell_later hv C2.out, scell_later hv C3.out, scell_later hv Q0.out, scell_later hv Q1.out⟩⟩
      have SR : Kp (∀ v b7 x y, Below w4.heap.size w4 v → w4.heap.size ≤ b7 → (fun v : World => v.cell? ⟨b, off + i * 4, none⟩ = some (.int .i64 k) ∧ v.cell? ⟨b, off + i * 4 + 1, none⟩ = some (.int .i64 s) ∧ v.cell? ⟨b, off + i * 4 + 2, none⟩ = some (.int .i64 d) ∧ v.cell? ⟨b, off + i * 4 + 3, none⟩ = some (.int .i64 r) ∧ v.cell? ⟨b', off' + i * 2, none⟩ = some (.slice va vm vc) ∧ v.cell? ⟨b', off' + i * 2 + 1, none⟩ = some (.int .i64 vg)) ((v.setCell ⟨b7, 0, none⟩ x).setCell ⟨b7, 1, none⟩ y)) := ⟨fun v b7 x y hv hb => SQ.out _ (below_set2 hv b7 x y hb)⟩
      have hzp : ∀ w, (zeroValue 23).run Tryd.prog w = .ok (.agg (rowK 0 0 0 0)) w := fun w => by kernel_rfl
      have hzq := zvPort
      subst ha
      subst ha'
      clear hp hv hrd hgi hSi hag hal
      obtain ⟨g0, hg0⟩ : ∃ g0, g0 = w4.heap.size := ⟨_, rfl⟩
      have G0 := Kp.mk hg0
      clear hg0
      go_wp2_with fail
      go_region_held3 (fun v => v.cell? ⟨b, off + i * 4, none⟩ = some (.int .i64 k) ∧ v.cell? ⟨b, off + i * 4 + 1, none⟩ = some (.int .i64 s) ∧ v.cell? ⟨b, off + i * 4 + 2, none⟩ = some (.int .i64 d) ∧ v.cell? ⟨b, off + i * 4 + 3, none⟩ = some (.int .i64 r) ∧ v.cell? ⟨b', off' + i * 2, none⟩ = some (.slice va vm vc) ∧ v.cell? ⟨b', off' + i * 2 + 1, none⟩ = some (.int .i64 vg)) (first | exact SQ.out _ (Drew.once _).below | exact SQ.out _ (bl1 _ _ _) | exact SQ.out _ (bl3 _ _ _) | exact SQ.out _ HX1.out | exact SQ.out _ (HX1.out.alloc HX1.out.size _) | exact SR.out _ _ _ _ HX1.out (Nat.le_refl _))
        (first | (go_at_call 35; first
          | ((with_reducible refine (HC.out _ (Drew.once _).below).mono ?_); rintro e x1 ⟨a5, m5, c5, rfl, ho, hb⟩; have HX1 := Kp.mk ((Drew.once w4).below.trans (hb.mono (Drew.once w4).below.size)); have HO := Kp.mk ho; clear hb ho)
          | ((with_reducible refine (HC.out _ (bl1 _ _ _)).mono ?_); rintro e x1 ⟨a5, m5, c5, rfl, ho, hb⟩; have HX1 := Kp.mk ((bl1 w4 _ _).trans (hb.mono (bl1 w4 _ _).size)); have HO := Kp.mk ho; have LV := Kp.mk (new1 w4 (portA none 0 0 0) 29).lt; have HV := Kp.mk ((new1 w4 (portA none 0 0 0) 29).later hb); have z0 := HV.out.cell 0 _ rfl; have z1 := HV.out.cell 1 _ rfl; have f0 := HV.out.free 0; have f1 := HV.out.free 1; clear hb ho)
          | ((with_reducible refine (HC.out _ (bl3 _ _ _)).mono ?_); rintro e x1 ⟨a5, m5, c5, rfl, ho, hb⟩; have HX1 := Kp.mk ((bl3 w4 _ _).trans (hb.mono (bl3 w4 _ _).size)); have HO := Kp.mk ho; have LV := Kp.mk (new3 w4 (portA none 0 0 0) 29).lt; have HV := Kp.mk ((new3 w4 (portA none 0 0 0) 29).later hb); have z0 := HV.out.cell 0 _ rfl; have z1 := HV.out.cell 1 _ rfl; have f0 := HV.out.free 0; have f1 := HV.out.free 1; clear hb ho)))
      all_goals first
        | (refine then_gen (F := fun W => Kp (Below g0 w4 W ∧ Blk W x1.heap.size #[.slice a5 m5 c5, .int .i64 ag] 29 ∧ OwnS W g0 (.slice a5 m5 c5) vl)) ⟨by rw [G0.out]; exact HX1.out.alloc HX1.out.size _, Blk.new _ _ _, by rw [G0.out]; exact (HO.out.later (below_alloc _ _)).mono (by simp)⟩ ?_; generalize x1.heap.size = vb)
        | (refine then_gen (F := fun W => Kp (Below g0 w4 W ∧ Blk W w4.heap.size #[.slice a5 m5 c5, .int .i64 ag] 29 ∧ OwnS W g0 (.slice a5 m5 c5) vl)) ⟨by rw [G0.out]; exact below_set2 HX1.out _ _ _ (Nat.le_refl _), HV.out.set2 _ _, by rw [G0.out]; exact (HO.out.set2 _ _ _ LV.out).mono (by simp)⟩ ?_; generalize w4.heap.size = vb)
      all_goals (
        intro w5 HW
        have hb5 := HW.out.1
        have V5 := Kp.mk HW.out.2.1
        have ho5 := HW.out.2.2
        rw [G0.out] at hb5 ho5
        have O5 := Kp.mk ho5
        have B5 := Kp.mk (B4.out.trans (hb5.mono B4.out.size))
        have U5 := Kp.mk (U4.out.later hb5)
        have NO := Kp.mk (O5.out.mono B4.out.size)
        have NF : Kp (∀ b, (Value.slice oa i oc).ownBlock = some b → (Value.slice a5 m5 c5).ownBlock ≠ some b) := ⟨fun b hb e => by
          have h1 := (ownS_in O5.out e).1
          have h2 := (U4.out.lt hb).2
          omega⟩
        have v0 := V5.out.cell 0 _ rfl
        have v1 := V5.out.cell 1 _ rfl
        clear hb5 ho5 HW HO HX1 SQ SR HC hzp hzq G0 g0
        try clear HV LV z0 z1 f0 f1
        clear c0 c1 c2 c3 q0 q1
        go_wp2_with (at_builtin; refine append_port rfl (.tmp 45) (.tmp 47) rfl w2.heap.size _ i U rfl U5.out ⟨a5, m5, c5, ag, vl⟩ NO.out NF.out rfl (by omega) B5.out.size ?_; rintro v6 w6 ho6 hb6 _ _)
        have HL6 := Kp.mk (posL_snoc (S := agedS P V) ⟨a5, m5, c5, ag, vl⟩ HU.out.2 ho6 HSI.out.1 HSI.out.2 (B5.out.trans hb6))
        clear ho6 hb6
        go_roundw
        case rel => exact ⟨i + 1, by omega, by go_num, HL6⟩
        case measure => simp [intOf]; omega)
    · have : i = n := by omega
      subst this
      have hb : decide ((i : Int) < i) = false := by simp
      obtain ⟨U, hU, hUV, hB⟩ := HL.out
      obtain ⟨oa, oc, rfl⟩ := hU.shape
      have HA0 : Kp (∃ U, ArrI w2 wr 116 4 (arrS P i (agedS P V) C 0) i (.slice oa i oc) ((arrD P i (agedS P V) C 0).map RepV.row) (.slice none 0 0) U) := ⟨⟨U, ArrI.first hU hUV hB⟩⟩
      clear hU hUV hB HL U
      obtain ⟨w7, ew7⟩ : ∃ x : World, x = wr := ⟨_, rfl⟩
      subst ew7
      go_wp2
      go_loopw [14, 15] (fun dv kv wr => ∃ k : Nat, k ≤ mn ∧ kv = .int .i64 (k : Int) ∧ Kp (∃ U, ArrI w2 wr 116 4 (arrS P i (agedS P V) C k) i (.slice oa i oc) ((arrD P i (agedS P V) C k).map RepV.row) dv U)) (fun _ kv _ => mn - (intOf kv).toNat)
      case atStart => exact ⟨0, by omega, rfl, HA0⟩
      case round =>
        obtain ⟨k, hk, rfl, HK⟩ := hrel
        by_cases hlt : k < mn
        · obtain ⟨U, hI⟩ := HK.out
          have hb' : decide ((k : Int) < mn) = true := decide_eq_true (by omega)
          have hb1 : (0 : Int) ≤ (k : Int) := by omega
          have hb2 : (k : Int) < (mn : Int) := by omega
          obtain ⟨mb, mo, hma, hmc⟩ := H3.out.cells (by omega)
          have hrow := srange_later (hmc k hlt) hI.below
          have hmd := HS.out k hlt
          obtain ⟨⟨mp, md⟩, hm⟩ : ∃ x, x = C k := ⟨_, rfl⟩
          have hrow : wr.rangeAt mb (mo + k * 2) (C k).row := hrow
          rw [← hm] at hrow hmd
          have r0 : wr.cell? ⟨mb, mo + k * 2, none⟩ = some (.int .i64 mp) := hrow 0 _ rfl
          have r1 : wr.cell? ⟨mb, mo + k * 2 + 1, none⟩ = some (.string md) := hrow 1 _ rfl
          have hmd : md.size < 9223372036854775808 := hmd
          obtain ⟨w4, e4⟩ : ∃ w4, w4 = wr.alloc (.cells #[.int .i64 mp, .string md] 101) := ⟨_, rfl⟩
          have b4 : Below wr.heap.size wr w4 := by rw [e4]; exact below_alloc _ _
          have x4 : Blk w4 wr.heap.size #[.int .i64 mp, .string md] 101 := by rw [e4]; exact Blk.new _ _ _
          have I4 := Kp.mk (hI.later b4)
          have X4 := Kp.mk x4
          have E4 := Kp.mk e4
          have HM := Kp.mk hm
          have HMD := Kp.mk hmd
          have hL : ((arrD P i (agedS P V) C k).map RepV.row).length ≤ k := by rw [List.length_map]; exact arrD_len _ _ _ _ _
          have HLL := Kp.mk hL
          have hzm := zvMsg
          subst hma
          clear hI HK hm hrow hmd hmc b4 x4 e4 hL
          by_cases hin : 0 ≤ mp ∧ mp < (i : Int)
          · obtain ⟨q, hq⟩ : ∃ q : Nat, mp = (q : Int) := ⟨mp.toNat, by omega⟩
            subst hq
            have hqi : q < i := by omega
            have t1 : decide ((q : Int) ≥ 0) = true := decide_eq_true (by omega)
            have t2 : decide ((q : Int) < (i : Int)) = true := decide_eq_true (by omega)
            have t3 : (0 : Int) ≤ (q : Int) := by omega
            have t4 : (q : Int) < (i : Int) := by omega
            obtain ⟨g, cap, hov, _, _, _⟩ := I4.out.po.block (by omega)
            simp only [Value.slice.injEq] at hov
            obtain ⟨rfl, _, rfl⟩ := hov
            obtain ⟨b, off, ha, c0, c1, c2, c3⟩ := (H1.out.later I4.out.below).at q hqi
            obtain ⟨u0, u1⟩ := I4.out.po.cells q hqi
            have ho := I4.out.po.each q hqi
            obtain ⟨hl, hgg⟩ := I4.out.is q hqi
            have hgood := arr_good (C := C) (fun j hj => aged_good HG.out j hj) k q hqi
            rw [← hl, ← hgg] at hgood
            have hgoes := goes_at (P := P) (S := arrS P i (agedS P V) C k) (m := C k) (k := q) (by rw [← HM.out]) hqi
            rw [← hl, ← hgg, ← HM.out] at hgoes
            obtain ⟨⟨ua, um, uc, ug, ul⟩, hu⟩ : ∃ v, v = U q := ⟨_, rfl⟩
            obtain ⟨⟨pk, s, d, r⟩, hp⟩ : ∃ p, p = P q := ⟨_, rfl⟩
            rw [← hp] at c0 c1 c2 c3 hgood hgoes
            rw [← hu] at u0 u1 ho hl hgg hgood hgoes
            have c0 : w4.cell? ⟨b, off + q * 4, none⟩ = some (.int .i64 pk) := c0
            have c1 : w4.cell? ⟨b, off + q * 4 + 1, none⟩ = some (.int .i64 s) := c1
            have c2 : w4.cell? ⟨b, off + q * 4 + 2, none⟩ = some (.int .i64 d) := c2
            have c3 : w4.cell? ⟨b, off + q * 4 + 3, none⟩ = some (.int .i64 r) := c3
            have u0 : w4.cell? ⟨g, q * 2, none⟩ = some (.slice ua um uc) := u0
            have u1 : w4.cell? ⟨g, q * 2 + 1, none⟩ = some (.int .i64 ug) := u1
            have hrd : RdS w4 ua um uc ul := OwnS.rdn ho (good_rd hgood).1 (good_rd hgood).2
            have hgoes : goes P i (arrS P i (agedS P V) C k) (C k) = decide (addC ⟨pk, s, d, r⟩ ul ug md (inK pk) = 0) := by rw [← hgoes, HM.out]
            obtain ⟨cc, hcc⟩ : ∃ c, c = addC ⟨pk, s, d, r⟩ ul ug md (inK pk) := ⟨_, rfl⟩
            obtain ⟨al, hal⟩ : ∃ c, c = addL ⟨pk, s, d, r⟩ ul ug md (inK pk) := ⟨_, rfl⟩
            rw [← hcc] at hgoes
            have HAL : Kp (al = addL (P q) (arrS P i (agedS P V) C k q).l (arrS P i (agedS P V) C k q).g (C k).data (inK (P q).kind)) := ⟨by rw [hal, ← hp, ← hl, ← hgg, ← HM.out]⟩
            have RD := Kp.mk hrd
            have GO := Kp.mk hgoes
            have HCC : Kp (cc ≤ 20) := ⟨by rw [hcc]; exact addC_le2 _ _ _ _ _⟩
            have HC : Kp (∀ v, Below w4.heap.size w4 v → Calls Tryd.prog 24 #[.agg (rowK pk s d r), .agg (portA ua um uc ug), .string md] v fun e w' => ∃ a2 m2 c2, e = .returned (.tuple #[.agg (portA a2 m2 c2 0), .int .i64 (cc : Nat)]) ∧ OwnS w' v.heap.size (.slice a2 m2 c2) al ∧ Below v.heap.size v w') := ⟨fun v hv => (ref_put ⟨pk, s, d, r⟩ ua um uc ul ug md v (RD.out.later hv) HMD.out).mono fun e w' ⟨u, h1, h2, h3⟩ => by
              obtain ⟨a2, c2, m2, hm, rfl⟩ := h2.shapeN
              exact ⟨a2, m2, c2, by rw [hcc]; exact h1, by rw [hal]; exact h2, h3⟩⟩
            obtain ⟨mx, hmx⟩ : ∃ b, b = wr.heap.size := ⟨_, rfl⟩
            rw [← hmx] at X4
            have C0 := Kp.mk c0
            have C1 := Kp.mk c1
            have C2 := Kp.mk c2
            have C3 := Kp.mk c3
            have U0 := Kp.mk u0
            have U1 := Kp.mk u1
            have SQ : Kp (∀ v, Below w4.heap.size w4 v → v.cell? ⟨b, off + q * 4, none⟩ = some (.int .i64 pk) ∧ v.cell? ⟨b, off + q * 4 + 1, none⟩ = some (.int .i64 s) ∧ v.cell? ⟨b, off + q * 4 + 2, none⟩ = some (.int .i64 d) ∧ v.cell? ⟨b, off + q * 4 + 3, none⟩ = some (.int .i64 r) ∧ v.cell? ⟨g, q * 2, none⟩ = some (.slice ua um uc) ∧ v.cell? ⟨g, q * 2 + 1, none⟩ = some (.int .i64 ug) ∧ v.cell? ⟨mx, 0, none⟩ = some (.int .i64 (q : Int)) ∧ v.cell? ⟨mx, 1, none⟩ = some (.string md)) := ⟨fun v hv =>
              ⟨scell_later hv C0.out, scell_later hv C1.out, scell_later hv C2.out, scell_later hv C3.out, scell_later hv U0.out, scell_later hv U1.out, (X4.out.later hv).cell 0 _ rfl, (X4.out.later hv).cell 1 _ rfl⟩⟩
            have SR : Kp (∀ v b' x y, Below w4.heap.size w4 v → w4.heap.size ≤ b' → (fun v : World => v.cell? ⟨b, off + q * 4, none⟩ = some (.int .i64 pk) ∧ v.cell? ⟨b, off + q * 4 + 1, none⟩ = some (.int .i64 s) ∧ v.cell? ⟨b, off + q * 4 + 2, none⟩ = some (.int .i64 d) ∧ v.cell? ⟨b, off + q * 4 + 3, none⟩ = some (.int .i64 r) ∧ v.cell? ⟨g, q * 2, none⟩ = some (.slice ua um uc) ∧ v.cell? ⟨g, q * 2 + 1, none⟩ = some (.int .i64 ug) ∧ v.cell? ⟨mx, 0, none⟩ = some (.int .i64 (q : Int)) ∧ v.cell? ⟨mx, 1, none⟩ = some (.string md)) ((v.setCell ⟨b', 0, none⟩ x).setCell ⟨b', 1, none⟩ y)) := ⟨fun v b' x y hv hb => SQ.out _ (below_set2 hv b' x y hb)⟩
            have hzq := zvPort
            obtain ⟨g0, hg0⟩ : ∃ g0, g0 = w4.heap.size := ⟨_, rfl⟩
            have G0 := Kp.mk hg0
            subst ha
            clear hin hp hu ho hl hgg hgood hgoes hrd hcc hal hg0 C0 C1 C2 C3 U0 U1
            go_wp2_with fail
            rw [← E4.out]
            rw [← hmx]
            clear r0 r1 hmx
            obtain ⟨m0, m1⟩ : w4.cell? ⟨mx, 0, none⟩ = some (.int .i64 (q : Int)) ∧ w4.cell? ⟨mx, 1, none⟩ = some (.string md) := ⟨X4.out.cell 0 _ rfl, X4.out.cell 1 _ rfl⟩
            go_region_held3 (fun v => v.cell? ⟨b, off + q * 4, none⟩ = some (.int .i64 pk) ∧ v.cell? ⟨b, off + q * 4 + 1, none⟩ = some (.int .i64 s) ∧ v.cell? ⟨b, off + q * 4 + 2, none⟩ = some (.int .i64 d) ∧ v.cell? ⟨b, off + q * 4 + 3, none⟩ = some (.int .i64 r) ∧ v.cell? ⟨g, q * 2, none⟩ = some (.slice ua um uc) ∧ v.cell? ⟨g, q * 2 + 1, none⟩ = some (.int .i64 ug) ∧ v.cell? ⟨mx, 0, none⟩ = some (.int .i64 (q : Int)) ∧ v.cell? ⟨mx, 1, none⟩ = some (.string md)) (first | exact SQ.out _ (Drew.once _).below | exact SQ.out _ (bl1 _ _ _) | exact SQ.out _ (bl3 _ _ _) | exact SQ.out _ HX1.out | exact SQ.out _ (HX1.out.alloc HX1.out.size _) | exact SR.out _ _ _ _ HX1.out (Nat.le_refl _))
              (first | (go_at_call 24; first
                | ((with_reducible refine (HC.out _ (Drew.once _).below).mono ?_); rintro e x1 ⟨a5, m5, c5, rfl, ho, hb⟩; have HX1 := Kp.mk ((Drew.once w4).below.trans (hb.mono (Drew.once w4).below.size)); have HO := Kp.mk ho; clear hb ho)
                | ((with_reducible refine (HC.out _ (bl1 _ _ _)).mono ?_); rintro e x1 ⟨a5, m5, c5, rfl, ho, hb⟩; have HX1 := Kp.mk ((bl1 w4 _ _).trans (hb.mono (bl1 w4 _ _).size)); have HO := Kp.mk ho; have LV := Kp.mk (new1 w4 (portA none 0 0 0) 29).lt; have HV := Kp.mk ((new1 w4 (portA none 0 0 0) 29).later hb); have z0 := HV.out.cell 0 _ rfl; have z1 := HV.out.cell 1 _ rfl; have f0 := HV.out.free 0; have f1 := HV.out.free 1; clear hb ho)
                | ((with_reducible refine (HC.out _ (bl3 _ _ _)).mono ?_); rintro e x1 ⟨a5, m5, c5, rfl, ho, hb⟩; have HX1 := Kp.mk ((bl3 w4 _ _).trans (hb.mono (bl3 w4 _ _).size)); have HO := Kp.mk ho; have LV := Kp.mk (new3 w4 (portA none 0 0 0) 29).lt; have HV := Kp.mk ((new3 w4 (portA none 0 0 0) 29).later hb); have z0 := HV.out.cell 0 _ rfl; have z1 := HV.out.cell 1 _ rfl; have f0 := HV.out.free 0; have f1 := HV.out.free 1; clear hb ho)))
            all_goals first
              | (refine then_gen (F := fun W => Kp (Below g0 w4 W ∧ Blk W x1.heap.size #[.slice a5 m5 c5, .int .i64 0] 29 ∧ OwnS W g0 (.slice a5 m5 c5) al)) ⟨by rw [G0.out]; exact HX1.out.alloc HX1.out.size _, Blk.new _ _ _, by rw [G0.out]; exact (HO.out.later (below_alloc _ _)).mono (by simp)⟩ ?_; generalize x1.heap.size = vb)
              | (refine then_gen (F := fun W => Kp (Below g0 w4 W ∧ Blk W w4.heap.size #[.slice a5 m5 c5, .int .i64 0] 29 ∧ OwnS W g0 (.slice a5 m5 c5) al)) ⟨by rw [G0.out]; exact below_set2 HX1.out _ _ _ (Nat.le_refl _), HV.out.set2 _ _, by rw [G0.out]; exact (HO.out.set2 _ _ _ LV.out).mono (by simp)⟩ ?_; generalize w4.heap.size = vb)
            all_goals (
              intro w5 HW
              have hb5 := HW.out.1
              have V5 := Kp.mk HW.out.2.1
              have ho5 := HW.out.2.2
              rw [G0.out] at hb5 ho5
              have O5 := Kp.mk ho5
              have BB5 := Kp.mk hb5
              have I5 := Kp.mk (I4.out.later hb5)
              have X5 := Kp.mk (X4.out.later hb5)
              clear hb5 ho5 HW HO HX1 SQ SR HC hzq G0 g0
              try clear HV LV z0 z1 f0 f1
              clear c0 c1 c2 c3 u0 u1 m0 m1
              have m0 := X5.out.cell 0 _ rfl
              have m1 := X5.out.cell 1 _ rfl
              by_cases hc0 : cc = 0
              · have HG1 : Kp (goes P i (arrS P i (agedS P V) C k) (C k) = true) := ⟨by rw [GO.out, hc0]; rfl⟩
                have AP := Kp.mk (arr_put (q := q) HG1.out (by rw [← HM.out]))
                subst hc0
                have hz0 : (((0 : Nat) : Int) == 0) = true := rfl
                have hz1 : (((0 : Nat) : Int) != 0) = false := rfl
                have v0 := V5.out.cell 0 _ rfl
                have v1 := V5.out.cell 1 _ rfl
                obtain ⟨u0, u1⟩ := I5.out.po.cells q hqi
                have f0 := I5.out.po.free (q * 2)
                have f1 := I5.out.po.free (q * 2 + 1)
                have I6 : Kp (∃ U, ArrI w2 ((w5.setCell ⟨g, q * 2, none⟩ (.slice a5 m5 c5)).setCell ⟨g, q * 2 + 1, none⟩ (.int .i64 0)) 116 4 (arrS P i (agedS P V) C (k + 1)) i (.slice (some ⟨g, 0, none⟩) i oc) ((arrD P i (agedS P V) C (k + 1)).map RepV.row) u14 U) := ⟨⟨_, by
                  rw [AP.out.2]
                  refine (I4.out.set hqi BB5.out ⟨a5, m5, c5, 0, al⟩ O5.out).congr fun j hj => ?_
                  rw [AP.out.1 j, HAL.out]⟩⟩
                go_wp2_with fail
                go_roundw
                case rel => exact ⟨k + 1, by omega, by go_num, I6⟩
                case measure => simp [intOf]; omega
              · have HG0 : Kp (goes P i (arrS P i (agedS P V) C k) (C k) = false) := ⟨by rw [GO.out]; exact decide_eq_false hc0⟩
                have hz0 : ((cc : Int) == 0) = false := by simpa using hc0
                have hz1 : ((cc : Int) != 0) = true := by simpa using hc0
                clear hc0
                go_wp2_with (at_builtin; refine append_row rfl (.tmp 95) (.tmp 100) 84 116 4 24 _ rfl Tryd.underlying84 infoRep rfl (by decide) w2.heap.size _ _ rfl I5.out.dr _ rfl (by intro u hu; simp at hu; rcases hu with rfl | rfl | rfl | rfl <;> rfl) rfl (by unfold maxLen; have := HLL.out; omega) (by have := HLL.out; omega) I5.out.below.size ?_; rintro dv' w6 hr6 hg6 hb6 h46)
                have I6 : Kp (∃ U, ArrI w2 w6 116 4 (arrS P i (agedS P V) C (k + 1)) i (.slice (some ⟨g, 0, none⟩) i oc) ((arrD P i (agedS P V) C (k + 1)).map RepV.row) dv' U) := ⟨⟨U, by
                  rw [(arr_drop HG0.out).1, (arr_drop HG0.out).2]
                  refine I5.out.more ?_ hg6 hb6 h46
                  rw [← HM.out, drop_row]
                  exact hr6⟩⟩
                clear hr6 hg6 hb6 h46
                go_roundw
                case rel => exact ⟨k + 1, by omega, by go_num, I6⟩
                case measure => simp [intOf]; omega)
          · have HG0 := Kp.mk (goes_not (P := P) (S := arrS P i (agedS P V) C k) (m := C k) (by rw [← HM.out]; exact hin))
            by_cases h0 : 0 ≤ mp
            · have t1 : decide (mp ≥ 0) = true := decide_eq_true h0
              have t2 : decide (mp < (i : Int)) = false := decide_eq_false fun h => hin ⟨h0, h⟩
              clear hin
              go_wp2_with (at_builtin; rw [← E4.out]; go_must (refine append_row rfl (.tmp 95) (.tmp 100) 84 116 4 24 _ rfl Tryd.underlying84 infoRep rfl (by decide) w2.heap.size _ _ rfl I4.out.dr _ rfl (by intro u hu; simp at hu; rcases hu with rfl | rfl | rfl | rfl <;> rfl) (by first | rfl | (rw [E4.out]; rfl) | (rw [E4.out]; simp [Act.eval])) (by unfold maxLen; have := HLL.out; omega) (by have := HLL.out; omega) I4.out.below.size ?_; rintro dv' w6 hr6 hg6 hb6 h46))
              have I6 : Kp (∃ U, ArrI w2 w6 116 4 (arrS P i (agedS P V) C (k + 1)) i (.slice oa i oc) ((arrD P i (agedS P V) C (k + 1)).map RepV.row) dv' U) := ⟨⟨U, by
                rw [(arr_drop HG0.out).1, (arr_drop HG0.out).2]
                refine I4.out.more ?_ hg6 hb6 h46
                rw [← HM.out, drop_row]
                exact hr6⟩⟩
              clear hr6 hg6 hb6 h46
              go_roundw
              case rel => exact ⟨k + 1, by omega, by go_num, I6⟩
              case measure => simp [intOf]; omega
            · have t1 : decide (mp ≥ 0) = false := decide_eq_false h0
              clear hin
              go_wp2_with (at_builtin; rw [← E4.out]; go_must (refine append_row rfl (.tmp 95) (.tmp 100) 84 116 4 24 _ rfl Tryd.underlying84 infoRep rfl (by decide) w2.heap.size _ _ rfl I4.out.dr _ rfl (by intro u hu; simp at hu; rcases hu with rfl | rfl | rfl | rfl <;> rfl) (by first | rfl | (rw [E4.out]; rfl) | (rw [E4.out]; simp [Act.eval])) (by unfold maxLen; have := HLL.out; omega) (by have := HLL.out; omega) I4.out.below.size ?_; rintro dv' w6 hr6 hg6 hb6 h46))
              have I6 : Kp (∃ U, ArrI w2 w6 116 4 (arrS P i (agedS P V) C (k + 1)) i (.slice oa i oc) ((arrD P i (agedS P V) C (k + 1)).map RepV.row) dv' U) := ⟨⟨U, by
                rw [(arr_drop HG0.out).1, (arr_drop HG0.out).2]
                refine I4.out.more ?_ hg6 hb6 h46
                rw [← HM.out, drop_row]
                exact hr6⟩⟩
              clear hr6 hg6 hb6 h46
              go_roundw
              case rel => exact ⟨k + 1, by omega, by go_num, I6⟩
              case measure => simp [intOf]; omega
        · have : k = mn := by omega
          subst this
          have hb' : decide ((k : Int) < k) = false := by simp
          obtain ⟨U, hI⟩ := HK.out
          have HI := Kp.mk hI
          clear hI HK
          have HN := Kp.mk (ref_none wr)
          go_wp2_with fail
          refine HN.out.mono ?_
          rintro e w3 ⟨rfl, hb3⟩
          have I3 := Kp.mk (HI.out.later hb3)
          have HB3 := Kp.mk I3.out.below
          have z0 := (Z2.out.later HB3.out).cell 0 _ rfl
          have z1 := (Z2.out.later HB3.out).cell 1 _ rfl
          have f0 := (Z2.out.later HB3.out).free 0
          have f1 := (Z2.out.later HB3.out).free 1
          have HZ := Kp.mk ((Z2.out.later HB3.out).set2 (.int .i64 0) (.int .i64 (-1)))
          have HR3 := Kp.mk (I3.out.ret BW.out Z2.out.lt (.int .i64 0) (.int .i64 (-1)))
          clear hb3 HI
          go_wp2_with fail
          refine bodyPost_ret (res3c (p := 8) (q := 6) (r := 7) (ty := 89) rfl _ rfl HZ.out _ Tryd.underlying89 (errInfo _ rfl)) rfl ⟨_, _, U, rfl, HR3.out⟩
end Go.Proofs.YtjlgnbjfgeppcaaDoor
