/- Emit of the program, walked. -/
import Derived.Test.YtjlgnbjfgeppcaaDoorArrR
namespace Go.Proofs.YtjlgnbjfgeppcaaDoor
open Go Go.RowKit
set_option linter.unusedVariables false
attribute [local go_sem ↓] Go.wp_at_zero Go.wp_at_succ

/-- A list of its own stays where another row grows. -/
theorem grown_keep {w1 w' : World} {o : Obj} {b : Option Nat} {B : Nat} {y : Value} {l : List ByteArray} (h : OwnS w1 B y l) (hg : (w1.alloc o).grownBy w' b) (hne : ∀ g, b = some g → y.ownBlock ≠ some g) : OwnS w' B y l :=
  h.heap fun g hgy => by
    have hl := (ownS_in h hgy).2
    exact (hg.block g (by simp; omega) (fun e => hne g e.symm hgy)).trans ((below_alloc w1 o).block g hl)
theorem own_far {w : World} {B : Nat} {v : Value} {l : List ByteArray} (h : OwnS w B v l) {b : Nat} (hb : b < B) : v.ownBlock ≠ some b := fun e => by
  have := ownS_base h e
  omega
theorem outM_len {P : Nat → PortP} {V : Nat → PortV} {n : Nat} (h : AllGood P V n) (i : Nat) (hi : i ≤ n) : (outM P V i).length ≤ 8 * i := by
  induction i with
  | zero => exact Nat.le_refl _
  | succ i ih =>
    have h1 := (good_sm (h i (by omega))).1
    have h2 := ih (by omega)
    show (outM P V i ++ (bif inK (P i).kind then [] else (V i).l.map fun s => (⟨(i : Int), s⟩ : MsgV))).length ≤ 8 * (i + 1)
    rw [List.length_append]
    cases inK (P i).kind
    · show _ + ((V i).l.map fun s => (⟨(i : Int), s⟩ : MsgV)).length ≤ _
      rw [List.length_map]; omega
    · show _ + 0 ≤ _
      omega
theorem take_more (hl : List ByteArray) (j : Nat) (hj : j < hl.length) : hl.take (j + 1) = hl.take j ++ [hl.getD j noS] := by
  rw [List.take_add_one, List.getElem?_eq_getElem hj, List.getD_eq_getElem?_getD, List.getElem?_eq_getElem hj]; rfl
/-- The messages of one port, so many of them. -/
def heldM (i : Nat) (hl : List ByteArray) (j : Nat) : List MsgV := (hl.take j).map fun s => ⟨(i : Int), s⟩
theorem heldM_more (i : Nat) (hl : List ByteArray) (j : Nat) (hj : j < hl.length) : heldM i hl (j + 1) = heldM i hl j ++ [⟨(i : Int), hl.getD j noS⟩] := by
  unfold heldM; rw [take_more hl j hj, List.map_append]; rfl
theorem heldM_len (i : Nat) (hl : List ByteArray) (j : Nat) : (heldM i hl j).length ≤ hl.length := by
  unfold heldM; rw [List.length_map, List.length_take]; omega
theorem outM_succ (P : Nat → PortP) (V : Nat → PortV) (i : Nat) : outM P V (i + 1) = outM P V i ++ heldM i (bif inK (P i).kind then [] else (V i).l) (bif inK (P i).kind then [] else (V i).l).length := by
  show outM P V i ++ _ = _
  unfold heldM
  rw [List.take_length]
  cases inK (P i).kind <;> rfl
/-- What holds while one port's messages are taken out. -/
structure EmI (w wr : World) (P : Nat → PortP) (V : Nat → PortV) (i : Nat) (ov dv : Value) (y : Value) (hl : List ByteArray) (j : Nat) (U : Nat → PortV) : Prop where
  ar : ArrI w wr 101 2 (outS P V) (i + 1) ov (rowsM (outM P V i ++ heldM i hl j)) dv U
  held : OwnS wr 0 y hl
  far : ∀ b, dv.ownBlock = some b → y.ownBlock ≠ some b
theorem EmI.later {w wr w' : World} {P : Nat → PortP} {V : Nat → PortV} {i : Nat} {ov dv y : Value} {hl : List ByteArray} {j : Nat} {U : Nat → PortV} (h : EmI w wr P V i ov dv y hl j U) (hb : Below wr.heap.size wr w') : EmI w w' P V i ov dv y hl j U :=
  ⟨h.ar.later hb, h.held.later hb, h.far⟩
theorem EmI.more {w wr w' : World} {P : Nat → PortP} {V : Nat → PortV} {i : Nat} {ov dv dv' y : Value} {hl : List ByteArray} {j : Nat} {U : Nat → PortV} {o : Obj} (h : EmI w wr P V i ov dv y hl j U) (hj : j < hl.length)
    (hr : OwnR w' 101 2 w.heap.size dv' (rowsM (outM P V i ++ heldM i hl j) ++ [[.int .i64 (i : Int), .string (hl.getD j noS)]])) (hg : (wr.alloc o).grownBy w' dv.ownBlock) (hb : Below w.heap.size wr w') (h4 : dv'.ownBlock = dv.ownBlock ∨ dv'.ownBlock = some (wr.heap.size + 1)) : EmI w w' P V i ov dv' y hl (j + 1) U := by
  have e : rowsM (outM P V i ++ heldM i hl (j + 1)) = rowsM (outM P V i ++ heldM i hl j) ++ [[.int .i64 (i : Int), .string (hl.getD j noS)]] := by
    rw [heldM_more i hl j hj, ← List.append_assoc, rowsM_append]; rfl
  refine ⟨?_, grown_keep h.held hg h.far, fun b hb2 e2 => ?_⟩
  · rw [e]; exact h.ar.more hr hg hb h4
  · rcases h4 with h4 | h4
    · exact h.far b (by rw [← h4]; exact hb2) e2
    · rw [h4] at hb2; have := (ownS_in h.held e2).2; simp at hb2; omega
theorem infoMsgE : (Tryd.prog.info? 101).map (fun i => (i.zero, i.size, i.bytes)) = some (some (.agg #[.int .i64 0, .string noS]), 2, 24) := infoMsg
set_option maxRecDepth 100000 in
set_option maxHeartbeats 4000000 in
theorem port_emit_bad (A : Nat → Addr) (pa : Option Addr) (n pc : Nat) (P : Nat → PortP) (qa : Option Addr) (m qc : Nat) (V : Nat → PortV) (w : World) (h : RdPl w pa n pc P) (h2 : RdPo w qa m qc V) (c : Nat) (pl : Int) (hA : AllE P V n m c pl) (hE : Errs w allCodes A) (hc : c ≠ 0) :
    Calls Tryd.prog 46 #[.slice pa n pc, .slice qa m qc] w fun e w' => ∃ ev, e = .returned (.tuple #[.slice none 0 0, .slice none 0 0, ev]) ∧ ErrP w' A c pl ev ∧ Below w.heap.size w w' := by
  have HC := Kp.mk (port_each A pa n pc P qa m qc V w h h2 c pl hA hE)
  clear h h2 hA hE
  go_enter Tryd.func46, Tryd.ntmps46
  go_wp2_with fail
  refine HC.out.mono ?_
  rintro e w1 ⟨ev, rfl, hp, hb⟩
  have HP := Kp.mk hp
  have HB := Kp.mk hb
  rcases hp with ⟨h0, _⟩ | ⟨_, _, _, rfl⟩ | ⟨_, _, p, rfl, _⟩
  · exact absurd h0 hc
  · clear hb hc
    go_wp2_with fail
    go_ret3
    exact ⟨_, rfl, HP.out, HB.out⟩
  · clear hb hc
    go_wp2_with fail
    go_ret3
    exact ⟨_, rfl, HP.out, HB.out⟩
set_option maxRecDepth 100000 in
set_option maxHeartbeats 16000000 in
theorem port_emit (A : Nat → Addr) (pa : Option Addr) (n pc : Nat) (P : Nat → PortP) (qa : Option Addr) (m qc : Nat) (V : Nat → PortV) (w : World) (h : RdPl w pa n pc P) (h2 : RdPo w qa m qc V) (hA : AllE P V n m 0 (-1)) (hM : 8 * n ≤ 5864062014805) (hE : Errs w allCodes A) :
    Calls Tryd.prog 46 #[.slice pa n pc, .slice qa m qc] w fun e w' => ∃ v d U, e = .returned (.tuple #[v, d, .nilIface]) ∧ ArrI w w' 101 2 (outS P V) n v (rowsM (outM P V n)) d U := by
  have HC := Kp.mk (port_each A pa n pc P qa m qc V w h h2 0 (-1) hA hE)
  have hg : n = m ∧ AllGood P V n := by
    rcases allE_cases hA with ⟨h, _⟩ | ⟨_, _, h1, h2⟩
    · exact absurd rfl h
    · exact ⟨h1, h2⟩
  obtain ⟨hnm, hgood⟩ := hg
  have HG := Kp.mk hgood
  have H1 := Kp.mk h
  have H2 := Kp.mk h2
  have HE := Kp.mk hE
  have HMX := Kp.mk hM
  have hn := h.bound
  subst hnm
  clear h h2 hA hE hgood hM
  go_enter Tryd.func46, Tryd.ntmps46
  go_wp2_with fail
  refine HC.out.mono ?_
  rintro e w1 ⟨ev, rfl, hp, hb⟩
  obtain rfl := errP_nil hp
  have B1 := Kp.mk hb
  clear hp hb HC
  go_wp2_with fail
  go_loopw [8, 9, 25] (fun ov dv iv wr => ∃ i : Nat, i ≤ n ∧ iv = .int .i64 (i : Int) ∧ Kp (∃ U, ArrI w wr 101 2 (outS P V) i ov (rowsM (outM P V i)) dv U)) (fun _ _ iv _ => n - (intOf iv).toNat)
  case atStart => exact ⟨0, by omega, rfl, ⟨⟨V, ArrI.first (OwnPo.nil _ _ _) (fun j hj => by omega) B1.out⟩⟩⟩
  case round =>
    obtain ⟨i, hi, rfl, HL⟩ := hrel
    by_cases hlt : i < n
    · obtain ⟨U, hI⟩ := HL.out
      obtain ⟨oa, oc, rfl⟩ := hI.po.shape
      obtain ⟨da, dc, dm, hdm, rfl⟩ := hI.dr.shape
      have hb' : decide ((i : Int) < n) = true := decide_eq_true (by omega)
      have hb1 : (0 : Int) ≤ (i : Int) := by omega
      have hb2 : (i : Int) < (n : Int) := by omega
      obtain ⟨b, off, ha, c0, c1, c2, c3⟩ := (H1.out.later hI.below).at i hlt
      obtain ⟨b', off', ha', q0, q1⟩ := (H2.out.later hI.below).at i hlt
      have hrd := (H2.out.later hI.below).rd i hlt
      have hgi := HG.out i hlt
      have hSi : outS P V i = bif inK (P i).kind then ⟨(V i).l, (V i).g⟩ else ⟨[], 0⟩ := rfl
      have hMi := outM_succ P V i
      have hML := outM_len HG.out i hi
      obtain ⟨⟨k, s, d, r⟩, hp⟩ : ∃ p, p = P i := ⟨_, rfl⟩
      obtain ⟨⟨va, vm, vc, vg, vl⟩, hv⟩ : ∃ v, v = V i := ⟨_, rfl⟩
      rw [← hp] at c0 c1 c2 c3 hSi hgi hMi
      rw [← hv] at q0 q1 hrd hSi hgi hMi
      have c0 : wr.cell? ⟨b, off + i * 4, none⟩ = some (.int .i64 k) := c0
      have c1 : wr.cell? ⟨b, off + i * 4 + 1, none⟩ = some (.int .i64 s) := c1
      have c2 : wr.cell? ⟨b, off + i * 4 + 2, none⟩ = some (.int .i64 d) := c2
      have c3 : wr.cell? ⟨b, off + i * 4 + 3, none⟩ = some (.int .i64 r) := c3
      have q0 : wr.cell? ⟨b', off' + i * 2, none⟩ = some (.slice va vm vc) := q0
      have q1 : wr.cell? ⟨b', off' + i * 2 + 1, none⟩ = some (.int .i64 vg) := q1
      obtain ⟨w4, e4, p4, b4⟩ := plan_box wr k s d r
      have HR : Kp (RdS w4 va vm vc vl) := ⟨RdS.later hrd b4⟩
      have I4 := Kp.mk (hI.later b4)
      have Q0 := Kp.mk (scell_later b4 q0)
      have Q1 := Kp.mk (scell_later b4 q1)
      have P4 := Kp.mk p4
      have E4 := Kp.mk e4
      have hsm := good_sm hgi
      have hgr := good_rd hgi
      obtain ⟨hl, hhl⟩ : ∃ l, l = drL ⟨k, s, d, r⟩ vl vg := ⟨_, rfl⟩
      obtain ⟨ev, hev⟩ : ∃ v, v = errOf A (drC ⟨k, s, d, r⟩ vl vg) := ⟨_, rfl⟩
      have HC : Kp (∀ v, Below w4.heap.size w4 v → Calls Tryd.prog 30 #[.agg (rowK k s d r), .agg (portA va vm vc vg)] v fun e w' => ∃ a2 m2 c2, e = .returned (.tuple #[.agg (portA none 0 0 0), .slice a2 m2 c2, ev]) ∧ Kp (m2 = hl.length) ∧ OwnS w' v.heap.size (.slice a2 m2 c2) hl ∧ Below v.heap.size v w') := ⟨fun v hv => (port_drain A ⟨k, s, d, r⟩ va vm vc vl vg v (HR.out.later hv) ((HE.out.later (I4.out.below.trans (hv.mono I4.out.below.size))).sub (by decide))).mono fun e w' ⟨u, h1, h2, h3⟩ => by
        obtain ⟨a2, c2, m2, hm, rfl⟩ := h2.shapeN
        exact ⟨a2, m2, c2, by rw [hev]; exact h1, by rw [hhl]; exact hm, by rw [hhl]; exact h2, h3⟩⟩
      have SQ : Kp (∀ v, Below w4.heap.size w4 v → v.cell? ⟨wr.heap.size, 0, none⟩ = some (.int .i64 k) ∧ v.cell? ⟨wr.heap.size, 1, none⟩ = some (.int .i64 s) ∧ v.cell? ⟨wr.heap.size, 2, none⟩ = some (.int .i64 d) ∧ v.cell? ⟨wr.heap.size, 3, none⟩ = some (.int .i64 r) ∧ v.cell? ⟨b', off' + i * 2, none⟩ = some (.slice va vm vc) ∧ v.cell? ⟨b', off' + i * 2 + 1, none⟩ = some (.int .i64 vg)) := ⟨fun v hv =>
        ⟨(P4.out.later hv).c0, (P4.out.later hv).c1, (P4.out.later hv).c2, (P4.out.later hv).c3, scell_later hv Q0.out, scell_later hv Q1.out⟩⟩
      have SR : Kp (∀ v b x y, Below w4.heap.size w4 v → w4.heap.size ≤ b → (fun v : World => v.cell? ⟨wr.heap.size, 0, none⟩ = some (.int .i64 k) ∧ v.cell? ⟨wr.heap.size, 1, none⟩ = some (.int .i64 s) ∧ v.cell? ⟨wr.heap.size, 2, none⟩ = some (.int .i64 d) ∧ v.cell? ⟨wr.heap.size, 3, none⟩ = some (.int .i64 r) ∧ v.cell? ⟨b', off' + i * 2, none⟩ = some (.slice va vm vc) ∧ v.cell? ⟨b', off' + i * 2 + 1, none⟩ = some (.int .i64 vg)) ((v.setCell ⟨b, 0, none⟩ x).setCell ⟨b, 1, none⟩ y)) := ⟨fun v b x y hv hb => SQ.out _ (below_set2 hv b x y hb)⟩
      have hzp : ∀ w, (zeroValue 23).run Tryd.prog w = .ok (.agg (rowK 0 0 0 0)) w := fun w => by kernel_rfl
      have hzq := zvPort
      have hzm := zvMsg
      have HSI := Kp.mk hSi
      have HMI := Kp.mk hMi
      have HML := Kp.mk hML
      have HSM := Kp.mk hsm
      have HGR := Kp.mk hgr
      have HHL := Kp.mk hhl
      have HEV := Kp.mk hev
      have HGI := Kp.mk hgi
      obtain ⟨g0, hg0⟩ : ∃ g0, g0 = w4.heap.size := ⟨_, rfl⟩
      have G0 := Kp.mk hg0
      subst ha
      subst ha'
      clear hp hv hrd p4 b4 e4 hgi hSi hMi hML hsm hgr hhl hev hg0 hI HL hdm
      go_wp2_with fail
      rw [← E4.out]
      clear c0 c1 c2 c3 q0 q1
      obtain ⟨c0, c1, c2, c3⟩ := plan4 P4.out
      have q0 := Q0.out
      have q1 := Q1.out
      go_region_held3 (fun v => v.cell? ⟨wr.heap.size, 0, none⟩ = some (.int .i64 k) ∧ v.cell? ⟨wr.heap.size, 1, none⟩ = some (.int .i64 s) ∧ v.cell? ⟨wr.heap.size, 2, none⟩ = some (.int .i64 d) ∧ v.cell? ⟨wr.heap.size, 3, none⟩ = some (.int .i64 r) ∧ v.cell? ⟨b', off' + i * 2, none⟩ = some (.slice va vm vc) ∧ v.cell? ⟨b', off' + i * 2 + 1, none⟩ = some (.int .i64 vg)) (first | exact SQ.out _ (Drew.once _).below | exact SQ.out _ (bl1 _ _ _) | exact SQ.out _ (bl3 _ _ _) | exact SQ.out _ HX1.out | exact SQ.out _ (HX1.out.alloc HX1.out.size _) | exact SR.out _ _ _ _ HX1.out (Nat.le_refl _))
        (first | (go_at_call 30; first
          | ((with_reducible refine (HC.out _ (Drew.once _).below).mono ?_); rintro e x1 ⟨a5, m5, c5, rfl, hm5, ho, hb⟩; have HX1 := Kp.mk ((Drew.once w4).below.trans (hb.mono (Drew.once w4).below.size)); have HO := Kp.mk ho; clear hb ho)
          | ((with_reducible refine (HC.out _ (bl1 _ _ _)).mono ?_); rintro e x1 ⟨a5, m5, c5, rfl, hm5, ho, hb⟩; have HX1 := Kp.mk ((bl1 w4 _ _).trans (hb.mono (bl1 w4 _ _).size)); have HO := Kp.mk ho; have LV := Kp.mk (new1 w4 (portA none 0 0 0) 29).lt; have HV := Kp.mk ((new1 w4 (portA none 0 0 0) 29).later hb); have z0 := HV.out.cell 0 _ rfl; have z1 := HV.out.cell 1 _ rfl; have f0 := HV.out.free 0; have f1 := HV.out.free 1; clear hb ho)
          | ((with_reducible refine (HC.out _ (bl3 _ _ _)).mono ?_); rintro e x1 ⟨a5, m5, c5, rfl, hm5, ho, hb⟩; have HX1 := Kp.mk ((bl3 w4 _ _).trans (hb.mono (bl3 w4 _ _).size)); have HO := Kp.mk ho; have LV := Kp.mk (new3 w4 (portA none 0 0 0) 29).lt; have HV := Kp.mk ((new3 w4 (portA none 0 0 0) 29).later hb); have z0 := HV.out.cell 0 _ rfl; have z1 := HV.out.cell 1 _ rfl; have f0 := HV.out.free 0; have f1 := HV.out.free 1; clear hb ho)))
      all_goals first
        | (refine then_gen (F := fun W => Kp (Below g0 w4 W ∧ Blk W x1.heap.size (portA none 0 0 0) 29 ∧ OwnS W g0 (.slice a5 m5 c5) hl ∧ g0 ≤ x1.heap.size ∧ (Value.slice a5 m5 c5).ownBlock ≠ some x1.heap.size)) ⟨by rw [G0.out]; exact HX1.out.alloc HX1.out.size _, Blk.new _ _ _, by rw [G0.out]; exact (HO.out.later (below_alloc _ _)).mono (by simp), by rw [G0.out]; exact HX1.out.size, ownS_lt HO.out⟩ ?_; generalize x1.heap.size = vb)
        | (refine then_gen (F := fun W => Kp (Below g0 w4 W ∧ Blk W w4.heap.size (portA none 0 0 0) 29 ∧ OwnS W g0 (.slice a5 m5 c5) hl ∧ g0 ≤ w4.heap.size ∧ (Value.slice a5 m5 c5).ownBlock ≠ some w4.heap.size)) ⟨by rw [G0.out]; exact below_set2 HX1.out _ _ _ (Nat.le_refl _), HV.out.set2 _ _, by rw [G0.out]; exact (HO.out.set2 _ _ _ LV.out).mono (by simp), by rw [G0.out]; exact Nat.le_refl _, own_far HO.out LV.out⟩ ?_; generalize w4.heap.size = vb)
      all_goals (
        intro w5 HW
        have hb5 := HW.out.1
        have V5 := Kp.mk HW.out.2.1
        have ho5 := HW.out.2.2.1
        have hv5 := HW.out.2.2.2.1
        have hf5 := HW.out.2.2.2.2
        rw [G0.out] at hb5 ho5 hv5
        have BB5 := Kp.mk hb5
        have O5 := Kp.mk ho5
        have HV5 := Kp.mk hv5
        have HF5 := Kp.mk hf5
        have I5 := Kp.mk (I4.out.later hb5)
        have v0 := V5.out.cell 0 _ rfl
        have v1 := V5.out.cell 1 _ rfl
        clear hb5 ho5 hv5 hf5 HW HO HX1 SQ SR HC hzp hzq G0 g0
        try clear HV LV z0 z1 f0 f1
        clear c0 c1 c2 c3 q0 q1
        by_cases hkin : inK k = true
        · have hdc : drC ⟨k, s, d, r⟩ vl vg = 7 := drC_in HGI.out hkin
          have hle : hl = [] := by rw [HHL.out]; exact drL_not (by rw [hdc]; decide)
          have hevv : ev = errv (A 7) := by rw [HEV.out, hdc]; rfl
          have HSI2 : Kp (vl = (outS P V i).l ∧ vg = (outS P V i).g) := ⟨by rw [HSI.out]; show vl = (bif inK k then _ else _ : PortS).l ∧ vg = (bif inK k then _ else _ : PortS).g; rw [hkin]; exact ⟨rfl, rfl⟩⟩
          have HNX : Kp (outM P V (i + 1) = outM P V i ++ heldM i hl hl.length) := ⟨by rw [HMI.out]; show outM P V i ++ heldM i (bif inK k then [] else vl) (bif inK k then [] else vl).length = _; rw [hkin, hle]; rfl⟩
          have HL8 : Kp (hl.length ≤ 8) := ⟨by rw [hle]; simp⟩
          have HLS : Kp (hl.length ≤ 8796093022208 ∧ ∀ s ∈ hl, s.size < 9223372036854775808) := ⟨by rw [hle]; simp⟩
          have HCP : Kp (Calls Tryd.prog 54 #[.agg (portA va vm vc vg)] w5 fun e w' => ∃ v, e = .returned (.agg #[v, .int .i64 vg]) ∧ OwnS w' w5.heap.size v vl ∧ Below w5.heap.size w5 w') := ⟨port_copied va vm vc vl vg w5 (HR.out.later BB5.out)⟩
          have q0 := scell_later BB5.out Q0.out
          have q1 := scell_later BB5.out Q1.out
          subst hevv
          clear hdc hle hkin
          go_wp2_with fail
          refine HCP.out.mono ?_
          rintro e w6 ⟨nv, rfl, no, hb⟩
          obtain ⟨na, nc, nm, hnm, rfl⟩ := no.shapeN
          have V6 := Kp.mk (V5.out.later hb)
          have z0 := V6.out.cell 0 _ rfl
          have z1 := V6.out.cell 1 _ rfl
          have f0 := V6.out.free 0
          have f1 := V6.out.free 1
          obtain ⟨w7, e7⟩ : ∃ w7, w7 = (w6.setCell ⟨vb, 0, none⟩ (.slice na nm nc)).setCell ⟨vb, 1, none⟩ (.int .i64 vg) := ⟨_, rfl⟩
          have B7 : Kp (Below w4.heap.size w4 w7) := ⟨by rw [e7]; exact below_set2 (BB5.out.trans (hb.mono BB5.out.size)) _ _ _ HV5.out⟩
          have V7 : Kp (Blk w7 vb #[.slice na nm nc, .int .i64 vg] 29) := ⟨by rw [e7]; exact V6.out.set2 _ _⟩
          have NO7 : Kp (OwnS w7 w5.heap.size (.slice na nm nc) vl) := ⟨by rw [e7]; exact no.set2 _ _ _ V5.out.lt⟩
          have HH7 : Kp (OwnS w7 w4.heap.size (.slice a5 m5 c5) hl) := ⟨by rw [e7]; exact (O5.out.later hb).far2 _ _ _ HF5.out⟩
          have I7 := Kp.mk (I4.out.later B7.out)
          have E7 := Kp.mk e7
          have NF : Kp (∀ b, (Value.slice oa i oc).ownBlock = some b → (Value.slice na nm nc).ownBlock ≠ some b) := ⟨fun b hb1 e1 => by
            have h1 := (ownS_in NO7.out e1).1
            have h2 := (I4.out.po.lt hb1).2
            have h3 := BB5.out.size
            omega⟩
          clear no hb e7 hnm HCP q0 q1 v0 v1
          have v0 := V7.out.cell 0 _ rfl
          have v1 := V7.out.cell 1 _ rfl
          go_wp2_with (at_builtin; rw [← E7.out]; refine append_port rfl (.tmp 47) (.tmp 49) rfl w.heap.size _ i U rfl I7.out.po ⟨na, nm, nc, vg, vl⟩ (NO7.out.mono (Nat.le_trans I4.out.below.size BB5.out.size)) NF.out (by first | rfl | (rw [E7.out]; rfl) | (rw [E7.out]; simp [Act.eval])) (by omega) I7.out.below.size ?_; rintro v8 w8 ho8 hb8 hg8 h48)
          have EM : Kp (∃ U, EmI w w8 P V i v8 (.slice da dm dc) (.slice a5 m5 c5) hl 0 U) := ⟨⟨pupd U i ⟨na, nm, nc, vg, vl⟩, by
            have h1 : rowsM (outM P V i ++ heldM i hl 0) = rowsM (outM P V i) := by unfold heldM; simp
            refine ⟨?_, (grown_keep HH7.out hg8 fun b hb1 e1 => ?_).mono (Nat.zero_le _), fun b hb1 e1 => ?_⟩
            · rw [h1]
              exact I7.out.port ⟨na, nm, nc, vg, vl⟩ ho8 HSI2.out.1 HSI2.out.2 hg8 hb8 h48 fun b hb1 e1 => by
                have h1 := (ownS_in NO7.out e1).1
                have h2 := (I4.out.dr.lt hb1).2
                have h3 := BB5.out.size
                omega
            · have h1 := (ownS_in HH7.out e1).1
              have h2 := (I4.out.po.lt hb1).2
              omega
            · have h1 := (ownS_in HH7.out e1).1
              have h2 := (I4.out.dr.lt hb1).2
              omega⟩⟩
          clear ho8 hb8 hg8 h48 v0 v1 z0 z1 f0 f1
          have HM5 : Kp (m5 = hl.length) := hm5
          have h85 : m5 ≤ 8 := by rw [HM5.out]; exact HL8.out
          obtain ⟨w9, ew9⟩ : ∃ x : World, x = w8 := ⟨_, rfl⟩
          subst ew9
          go_wp2_with fail
          go_loopw [9, 53] (fun dv jv wr => ∃ j : Nat, j ≤ m5 ∧ jv = .int .i64 (j : Int) ∧ Kp (∃ U, EmI w wr P V i v8 dv (.slice a5 m5 c5) hl j U)) (fun _ jv _ => m5 - (intOf jv).toNat)
          case atStart => exact ⟨0, by omega, rfl, EM⟩
          case round =>
            obtain ⟨j, hj, rfl, HJ⟩ := hrel
            obtain ⟨U7, hJ⟩ := HJ.out
            by_cases hlj : j < m5
            · have t1 : decide ((j : Int) < m5) = true := decide_eq_true (by omega)
              have t2 : (0 : Int) ≤ (j : Int) := by omega
              have t3 : (j : Int) < (m5 : Int) := by omega
              have hrs := OwnS.rdn hJ.held HLS.out.1 HLS.out.2
              obtain ⟨yb, yo, hya, hyc⟩ := hrs.cells (by omega)
              have y0 := hyc j hlj
              obtain ⟨sj, hsj⟩ : ∃ s, s = hl.getD j noS := ⟨_, rfl⟩
              rw [← hsj] at y0
              have HSJ := Kp.mk hsj
              have HJ2 := Kp.mk hJ
              have hdl : (rowsM (outM P V i ++ heldM i hl j)).length + 1 ≤ 5864062014805 := by
                unfold rowsM
                rw [List.length_map, List.length_append]
                have h1 := heldM_len i hl j
                have h2 := HML.out
                have h3 := HL8.out
                have h4 := HMX.out
                omega
              have HDL := Kp.mk hdl
              subst hya
              clear hrs hyc hsj hJ HJ hdl
              go_wp2_with (at_builtin; refine append_row rfl (.tmp 57) (.tmp 61) 43 101 2 24 _ rfl Tryd.underlying43 infoMsg rfl (by decide) w.heap.size _ _ rfl HJ2.out.ar.dr _ rfl (by intro u hu; simp at hu; rcases hu with rfl | rfl <;> rfl) rfl (by unfold maxLen; have := HDL.out; omega) (by have := HDL.out; omega) HJ2.out.ar.below.size ?_; rintro dv' w6 hr6 hg6 hb6 h46)
              have J6 : Kp (∃ U, EmI w w6 P V i v8 dv' (.slice (some ⟨yb, yo, none⟩) m5 c5) hl (j + 1) U) := ⟨⟨U7, HJ2.out.more (by rw [← HM5.out]; exact hlj) (by rw [← HSJ.out]; exact hr6) hg6 hb6 h46⟩⟩
              clear hr6 hg6 hb6 h46
              go_roundw
              case rel => exact ⟨j + 1, by omega, by go_num, J6⟩
              case measure => simp [intOf]; omega
            · have hjm : j = m5 := by omega
              have HI9 : Kp (∃ U, ArrI w wr 101 2 (outS P V) (i + 1) v8 (rowsM (outM P V (i + 1))) _ U) := ⟨⟨U7, by rw [HNX.out, ← HM5.out, ← hjm]; exact hJ.ar⟩⟩
              subst hjm
              have t1 : decide ((j : Int) < j) = false := by simp
              clear hJ HJ EM
              go_wp2_with fail
              go_roundw
              case rel => exact ⟨i + 1, by omega, by go_num, HI9⟩
              case measure => simp [intOf]; omega
        · have hkf : inK k = false := by simpa using hkin
          have hdc : drC ⟨k, s, d, r⟩ vl vg = 0 := drC_ok HGI.out hkf
          have hle : hl = vl := by rw [HHL.out]; exact drL_ok hdc
          have hevv : ev = .nilIface := by rw [HEV.out, hdc]; rfl
          have HSI2 : Kp (([] : List ByteArray) = (outS P V i).l ∧ (0 : Int) = (outS P V i).g) := ⟨by rw [HSI.out]; show [] = (bif inK k then _ else _ : PortS).l ∧ 0 = (bif inK k then _ else _ : PortS).g; rw [hkf]; exact ⟨rfl, rfl⟩⟩
          have HNX : Kp (outM P V (i + 1) = outM P V i ++ heldM i hl hl.length) := ⟨by rw [HMI.out]; show outM P V i ++ heldM i (bif inK k then [] else vl) (bif inK k then [] else vl).length = _; rw [hkf, hle]; rfl⟩
          have HL8 : Kp (hl.length ≤ 8) := ⟨by rw [hle]; exact HSM.out.1⟩
          have HLS : Kp (hl.length ≤ 8796093022208 ∧ ∀ s ∈ hl, s.size < 9223372036854775808) := ⟨by rw [hle]; exact HGR.out⟩
          subst hevv
          clear hdc hle hkin hkf
          go_wp2_with (at_builtin; refine append_port rfl (.tmp 47) (.tmp 49) rfl w.heap.size _ i U rfl I5.out.po ⟨none, 0, 0, 0, []⟩ (OwnS.nil _ _) (fun b _ e1 => by simp [Value.ownBlock] at e1) rfl (by omega) I5.out.below.size ?_; rintro v8 w8 ho8 hb8 hg8 h48)
          have EM : Kp (∃ U, EmI w w8 P V i v8 (.slice da dm dc) (.slice a5 m5 c5) hl 0 U) := ⟨⟨pupd U i ⟨none, 0, 0, 0, []⟩, by
            have h1 : rowsM (outM P V i ++ heldM i hl 0) = rowsM (outM P V i) := by unfold heldM; simp
            refine ⟨?_, (grown_keep O5.out hg8 fun b hb1 e1 => ?_).mono (Nat.zero_le _), fun b hb1 e1 => ?_⟩
            · rw [h1]
              exact I5.out.port ⟨none, 0, 0, 0, []⟩ ho8 HSI2.out.1 HSI2.out.2 hg8 hb8 h48 fun b hb1 e1 => by simp [Value.ownBlock] at e1
            · have h1 := (ownS_in O5.out e1).1
              have h2 := (I4.out.po.lt hb1).2
              omega
            · have h1 := (ownS_in O5.out e1).1
              have h2 := (I4.out.dr.lt hb1).2
              omega⟩⟩
          clear ho8 hb8 hg8 h48 v0 v1
          have HM5 : Kp (m5 = hl.length) := hm5
          have h85 : m5 ≤ 8 := by rw [HM5.out]; exact HL8.out
          obtain ⟨w9, ew9⟩ : ∃ x : World, x = w8 := ⟨_, rfl⟩
          subst ew9
          go_wp2_with fail
          go_loopw [9, 53] (fun dv jv wr => ∃ j : Nat, j ≤ m5 ∧ jv = .int .i64 (j : Int) ∧ Kp (∃ U, EmI w wr P V i v8 dv (.slice a5 m5 c5) hl j U)) (fun _ jv _ => m5 - (intOf jv).toNat)
          case atStart => exact ⟨0, by omega, rfl, EM⟩
          case round =>
            obtain ⟨j, hj, rfl, HJ⟩ := hrel
            obtain ⟨U7, hJ⟩ := HJ.out
            by_cases hlj : j < m5
            · have t1 : decide ((j : Int) < m5) = true := decide_eq_true (by omega)
              have t2 : (0 : Int) ≤ (j : Int) := by omega
              have t3 : (j : Int) < (m5 : Int) := by omega
              have hrs := OwnS.rdn hJ.held HLS.out.1 HLS.out.2
              obtain ⟨yb, yo, hya, hyc⟩ := hrs.cells (by omega)
              have y0 := hyc j hlj
              obtain ⟨sj, hsj⟩ : ∃ s, s = hl.getD j noS := ⟨_, rfl⟩
              rw [← hsj] at y0
              have HSJ := Kp.mk hsj
              have HJ2 := Kp.mk hJ
              have hdl : (rowsM (outM P V i ++ heldM i hl j)).length + 1 ≤ 5864062014805 := by
                unfold rowsM
                rw [List.length_map, List.length_append]
                have h1 := heldM_len i hl j
                have h2 := HML.out
                have h3 := HL8.out
                have h4 := HMX.out
                omega
              have HDL := Kp.mk hdl
              subst hya
              clear hrs hyc hsj hJ HJ hdl
              go_wp2_with (at_builtin; refine append_row rfl (.tmp 57) (.tmp 61) 43 101 2 24 _ rfl Tryd.underlying43 infoMsg rfl (by decide) w.heap.size _ _ rfl HJ2.out.ar.dr _ rfl (by intro u hu; simp at hu; rcases hu with rfl | rfl <;> rfl) rfl (by unfold maxLen; have := HDL.out; omega) (by have := HDL.out; omega) HJ2.out.ar.below.size ?_; rintro dv' w6 hr6 hg6 hb6 h46)
              have J6 : Kp (∃ U, EmI w w6 P V i v8 dv' (.slice (some ⟨yb, yo, none⟩) m5 c5) hl (j + 1) U) := ⟨⟨U7, HJ2.out.more (by rw [← HM5.out]; exact hlj) (by rw [← HSJ.out]; exact hr6) hg6 hb6 h46⟩⟩
              clear hr6 hg6 hb6 h46
              go_roundw
              case rel => exact ⟨j + 1, by omega, by go_num, J6⟩
              case measure => simp [intOf]; omega
            · have hjm : j = m5 := by omega
              have HI9 : Kp (∃ U, ArrI w wr 101 2 (outS P V) (i + 1) v8 (rowsM (outM P V (i + 1))) _ U) := ⟨⟨U7, by rw [HNX.out, ← HM5.out, ← hjm]; exact hJ.ar⟩⟩
              subst hjm
              have t1 : decide ((j : Int) < j) = false := by simp
              clear hJ HJ EM
              go_wp2_with fail
              go_roundw
              case rel => exact ⟨i + 1, by omega, by go_num, HI9⟩
              case measure => simp [intOf]; omega)
    · have : i = n := by omega
      subst this
      have hb' : decide ((i : Int) < i) = false := by simp
      obtain ⟨U, hI⟩ := HL.out
      have HI := Kp.mk hI
      clear hI HL
      go_wp2_with fail
      go_ret3
      exact ⟨_, _, U, rfl, HI.out⟩
end Go.Proofs.YtjlgnbjfgeppcaaDoor
