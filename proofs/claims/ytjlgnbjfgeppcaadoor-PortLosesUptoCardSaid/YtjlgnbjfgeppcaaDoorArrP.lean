/- Arrive of the program, walked. -/
import Derived.Test.YtjlgnbjfgeppcaaDoorArrBase
import Derived.Deep.DeepMust
namespace Go.Proofs.YtjlgnbjfgeppcaaDoor
open Go Go.RowKit
set_option linter.unusedVariables false
attribute [local go_sem ↓] Go.wp_at_zero Go.wp_at_succ

set_option maxRecDepth 100000 in
set_option maxHeartbeats 4000000 in
theorem port_arrive_bad (A : Nat → Addr) (pa : Option Addr) (n pc : Nat) (P : Nat → PortP) (qa : Option Addr) (m qc : Nat) (V : Nat → PortV) (ma : Option Addr) (mn mc : Nat) (w : World) (h : RdPl w pa n pc P) (h2 : RdPo w qa m qc V) (c : Nat) (pl : Int) (hA : AllE P V n m c pl) (hE : Errs w allCodes A) (hc : c ≠ 0) :
    Calls Tryd.prog 40 #[.slice pa n pc, .slice qa m qc, .slice ma mn mc] w fun e w' => ∃ ev, e = .returned (.tuple #[.slice none 0 0, .slice none 0 0, ev]) ∧ ErrP w' A c pl ev ∧ Below w.heap.size w w' := by
  have HC := Kp.mk (port_each A pa n pc P qa m qc V w h h2 c pl hA hE)
  clear h h2 hA hE
  go_enter Tryd.func40, Tryd.ntmps40
  go_wp2_with fail
  refine HC.out.mono ?_
  rintro e w1 ⟨ev, rfl, hp, hb⟩
  have HP := Kp.mk hp
  have HB := Kp.mk hb
  rcases hp with ⟨h0, _⟩ | ⟨_, _, _, rfl⟩ | ⟨_, _, p, rfl, _⟩
  · exact absurd h0 hc
  · clear hb hc
    go_wp2_with fail
    go_ret3
    exact ⟨_, rfl, HP.out, HB.out⟩
  · clear hb hc
    go_wp2_with fail
    go_ret3
    exact ⟨_, rfl, HP.out, HB.out⟩
theorem errP_nil {w : World} {A : Nat → Addr} {pl : Int} {v : Value} (h : ErrP w A 0 pl v) : v = .nilIface := by
  rcases h with ⟨_, _, h⟩ | ⟨h, _⟩ | ⟨h, _⟩
  · exact h
  · omega
  · omega
theorem ArrI.congr {w wr : World} {E : TypeId} {c : Nat} {S S' : Nat → PortS} {n : Nat} {v : Value} {L : List (List Value)} {dv : Value} {U : Nat → PortV} (h : ArrI w wr E c S n v L dv U) (hs : ∀ j, j < n → S j = S' j) : ArrI w wr E c S' n v L dv U :=
  ⟨h.po, fun j hj => by rw [← hs j hj]; exact h.is j hj, h.dr, h.fv, h.fu, h.below⟩
theorem goes_not {P : Nat → PortP} {n : Nat} {S : Nat → PortS} {m : MsgV} (h : ¬ (0 ≤ m.port ∧ m.port < (n : Int))) : goes P n S m = false := by
  unfold goes
  by_cases h0 : 0 ≤ m.port
  · rw [decide_eq_true h0, decide_eq_false (fun h1 => h ⟨h0, h1⟩)]; rfl
  · rw [decide_eq_false h0]; rfl
theorem goes_at {P : Nat → PortP} {n : Nat} {S : Nat → PortS} {m : MsgV} {k : Nat} (hk : m.port = (k : Int)) (hn : k < n) : goes P n S m = decide (addC (P k) (S k).l (S k).g m.data (inK (P k).kind) = 0) := by
  unfold goes
  rw [decide_eq_true (by omega : (0 : Int) ≤ m.port), decide_eq_true (by omega : m.port < (n : Int)), hk]
  simp
theorem arrD_len (P : Nat → PortP) (n : Nat) (S : Nat → PortS) (C : Nat → MsgV) (j : Nat) : (arrD P n S C j).length ≤ j := by
  induction j with
  | zero => exact Nat.le_refl _
  | succ j ih =>
    unfold arrD
    cases goes P n (arrS P n S C j) (C j)
    · show (arrD P n S C j ++ [dropOf (C j)]).length ≤ j + 1
      rw [List.length_append]; simp; omega
    · show (arrD P n S C j).length ≤ j + 1
      omega
theorem arr_drop {P : Nat → PortP} {n : Nat} {S : Nat → PortS} {C : Nat → MsgV} {k : Nat} (h : goes P n (arrS P n S C k) (C k) = false) :
    arrS P n S C (k + 1) = arrS P n S C k ∧ (arrD P n S C (k + 1)).map RepV.row = (arrD P n S C k).map RepV.row ++ [(dropOf (C k)).row] := by
  refine ⟨?_, ?_⟩
  · show stepS P n (arrS P n S C k) (C k) = _
    unfold stepS; rw [h]; rfl
  · show (bif goes P n (arrS P n S C k) (C k) then arrD P n S C k else arrD P n S C k ++ [dropOf (C k)]).map RepV.row = _
    rw [h]; simp
theorem arr_put {P : Nat → PortP} {n : Nat} {S : Nat → PortS} {C : Nat → MsgV} {k q : Nat} (h : goes P n (arrS P n S C k) (C k) = true) (hq : (C k).port = (q : Int)) :
    (∀ j, arrS P n S C (k + 1) j = bif decide (j = q) then ⟨addL (P q) (arrS P n S C k q).l (arrS P n S C k q).g (C k).data (inK (P q).kind), 0⟩ else arrS P n S C k j) ∧ arrD P n S C (k + 1) = arrD P n S C k := by
  refine ⟨fun j => ?_, ?_⟩
  · show stepS P n (arrS P n S C k) (C k) j = _
    unfold stepS; rw [h, hq]
    show (bif decide (j = ((q : Nat) : Int).toNat) then (⟨addL (P j) (arrS P n S C k j).l (arrS P n S C k j).g (C k).data (inK (P j).kind), 0⟩ : PortS) else arrS P n S C k j) = _
    by_cases e : j = q
    · subst e; simp
    · simp [e]
  · show (bif goes P n (arrS P n S C k) (C k) then arrD P n S C k else arrD P n S C k ++ [dropOf (C k)]) = _
    rw [h]; rfl
theorem drop_row (p : Int) (s : ByteArray) : (dropOf ⟨p, s⟩).row = [.int .i64 3, .int .i64 (-1), .int .u32 (p % 4294967296), .int .u32 0] := by
  have e : ((BitVec.ofInt 32 p).toNat : Int) = p % 4294967296 := by
    rw [BitVec.toNat_ofInt]
    have : (0 : Int) ≤ p % 4294967296 := by omega
    omega
  show [Value.int .i64 3, Value.int .i64 (-1), Value.int .u32 ((BitVec.ofInt 32 p).toNat : Int), Value.int .u32 (((0#32 : BitVec 32).toNat : Nat) : Int)] = _
  rw [e]; rfl
theorem zvMsg (w : World) : (zeroValue 101).run Tryd.prog w = .ok (.agg #[.int .i64 0, .string noS]) w := by kernel_rfl
set_option maxRecDepth 100000 in
set_option maxHeartbeats 16000000 in
theorem port_arrive (A : Nat → Addr) (pa : Option Addr) (n pc : Nat) (P : Nat → PortP) (qa : Option Addr) (m qc : Nat) (V : Nat → PortV) (ma : Option Addr) (mn mc : Nat) (C : Nat → MsgV) (w : World) (h : RdPl w pa n pc P) (h2 : RdPo w qa m qc V) (h3 : RdRows w 2 ma mn mc (fun i => (C i).row)) (hs : ∀ i, i < mn → (C i).data.size < 9223372036854775808) (hA : AllE P V n m 0 (-1)) (hE : Errs w allCodes A) :
    Calls Tryd.prog 40 #[.slice pa n pc, .slice qa m qc, .slice ma mn mc] w fun e w' => ∃ v d U, e = .returned (.tuple #[v, d, .nilIface]) ∧ ArrI w w' 116 4 (arrS P n (agedS P V) C mn) n v ((arrD P n (agedS P V) C mn).map RepV.row) d U := by
  have HC := Kp.mk (port_each A pa n pc P qa m qc V w h h2 0 (-1) hA hE)
  have hg : n = m ∧ AllGood P V n := by
    rcases allE_cases hA with ⟨h, _⟩ | ⟨_, _, h1, h2⟩
    · exact absurd rfl h
    · exact ⟨h1, h2⟩
  obtain ⟨hnm, hgood⟩ := hg
  have HG := Kp.mk hgood
  have H1 := Kp.mk h
  have H2 := Kp.mk h2
  have H3 := Kp.mk h3
  have HS := Kp.mk hs
  have HE := Kp.mk hE
  have hn := h.bound
  have hmn := h3.bound
  subst hnm
  clear h h2 h3 hs hA hE hgood
  go_enter Tryd.func40, Tryd.ntmps40
  go_wp2_with fail
  refine HC.out.mono ?_
  rintro e w1 ⟨ev, rfl, hp, hb⟩
  obtain rfl := errP_nil hp
  have B1 := Kp.mk hb
  clear hp hb HC
  go_wp2_with fail
  go_loopw [10, 28] (fun ov iv wr => ∃ i : Nat, i ≤ n ∧ iv = .int .i64 (i : Int) ∧ Kp (PosL w (agedS P V) ov i wr)) (fun _ iv _ => n - (intOf iv).toNat)
  case atStart => exact ⟨0, by omega, rfl, ⟨⟨V, OwnPo.nil _ _ _, fun j hj => by omega, B1.out⟩⟩⟩
  case round =>
    obtain ⟨i, hi, rfl, HL⟩ := hrel
    by_cases hlt : i < n
    · obtain ⟨U, hU, hUV, hB⟩ := HL.out
      obtain ⟨oa, oc, rfl⟩ := hU.shape
      have HU := Kp.mk (And.intro hU hUV)
      have HB := Kp.mk hB
      clear hU hUV hB HL
      have hb' : decide ((i : Int) < n) = true := decide_eq_true (by omega)
      have hb1 : (0 : Int) ≤ (i : Int) := by omega
      have hb2 : (i : Int) < (n : Int) := by omega
      obtain ⟨b, off, ha, c0, c1, c2, c3⟩ := (H1.out.later HB.out).at i hlt
      obtain ⟨b', off', ha', q0, q1⟩ := (H2.out.later HB.out).at i hlt
      have hrd := (H2.out.later HB.out).rd i hlt
      have hgi := HG.out i hlt
      have hSi : (agedS P V i) = ⟨(V i).l, ageG (P i) (V i).l (V i).g⟩ := rfl
      obtain ⟨⟨k, s, d, r⟩, hp⟩ : ∃ p, p = P i := ⟨_, rfl⟩
      obtain ⟨⟨va, vm, vc, vg, vl⟩, hv⟩ : ∃ v, v = V i := ⟨_, rfl⟩
      rw [← hp] at c0 c1 c2 c3 hSi hgi
      rw [← hv] at q0 q1 hrd hSi hgi
      have c0 : wr.cell? ⟨b, off + i * 4, none⟩ = some (.int .i64 k) := c0
      have c1 : wr.cell? ⟨b, off + i * 4 + 1, none⟩ = some (.int .i64 s) := c1
      have c2 : wr.cell? ⟨b, off + i * 4 + 2, none⟩ = some (.int .i64 d) := c2
      have c3 : wr.cell? ⟨b, off + i * 4 + 3, none⟩ = some (.int .i64 r) := c3
      have q0 : wr.cell? ⟨b', off' + i * 2, none⟩ = some (.slice va vm vc) := q0
      have q1 : wr.cell? ⟨b', off' + i * 2 + 1, none⟩ = some (.int .i64 vg) := q1
      obtain ⟨w4, e4, p4, b4⟩ := plan_box wr k s d r
      have HR : Kp (RdS w4 va vm vc vl) := ⟨RdS.later hrd b4⟩
      have B4 := Kp.mk (HB.out.trans (b4.mono HB.out.size))
      have U4 := Kp.mk (HU.out.1.later b4)
      have Q0 := Kp.mk (scell_later b4 q0)
      have Q1 := Kp.mk (scell_later b4 q1)
      have P4 := Kp.mk p4
      have E4 := Kp.mk e4
      obtain ⟨ag, hag⟩ : ∃ c, c = ageG ⟨k, s, d, r⟩ vl vg := ⟨_, rfl⟩
      have hal : ageL ⟨k, s, d, r⟩ vl vg = vl := by unfold ageL; rw [decide_eq_true hgi]; rfl
      have HSI : Kp (vl = (agedS P V i).l ∧ ag = (agedS P V i).g) := ⟨by rw [hSi, hag]; exact ⟨rfl, rfl⟩⟩
      have HC : Kp (∀ v, Below w4.heap.size w4 v → Calls Tryd.prog 13 #[.agg (rowK k s d r), .agg (portA va vm vc vg)] v fun e w' => ∃ a2 m2 c2, e = .returned (.tuple #[.agg (portA a2 m2 c2 ag), .nilIface]) ∧ OwnS w' v.heap.size (.slice a2 m2 c2) vl ∧ Below v.heap.size v w') := ⟨fun v hv => (port_age A ⟨k, s, d, r⟩ va vm vc vl vg v (HR.out.later hv) ((HE.out.later (B4.out.trans (hv.mono B4.out.size))).sub (by decide))).mono fun e w' ⟨u, h1, h2, h3⟩ => by
        obtain ⟨a2, c2, m2, hm, rfl⟩ := h2.shapeN
        rw [hgi] at h1
        rw [hal] at h2
        exact ⟨a2, m2, c2, by rw [hag]; exact h1, h2, h3⟩⟩
      have SQ : Kp (∀ v, Below w4.heap.size w4 v → v.cell? ⟨wr.heap.size, 0, none⟩ = some (.int .i64 k) ∧ v.cell? ⟨wr.heap.size, 1, none⟩ = some (.int .i64 s) ∧ v.cell? ⟨wr.heap.size, 2, none⟩ = some (.int .i64 d) ∧ v.cell? ⟨wr.heap.size, 3, none⟩ = some (.int .i64 r) ∧ v.cell? ⟨b', off' + i * 2, none⟩ = some (.slice va vm vc) ∧ v.cell? ⟨b', off' + i * 2 + 1, none⟩ = some (.int .i64 vg)) := ⟨fun v hv =>
        ⟨(P4.out.later hv).c0, (P4.out.later hv).c1, (P4.out.later hv).c2, (P4.out.later hv).c3, scell_later hv Q0.out, scell_later hv Q1.out⟩⟩
      have SR : Kp (∀ v b x y, Below w4.heap.size w4 v → w4.heap.size ≤ b → (fun v : World => v.cell? ⟨wr.heap.size, 0, none⟩ = some (.int .i64 k) ∧ v.cell? ⟨wr.heap.size, 1, none⟩ = some (.int .i64 s) ∧ v.cell? ⟨wr.heap.size, 2, none⟩ = some (.int .i64 d) ∧ v.cell? ⟨wr.heap.size, 3, none⟩ = some (.int .i64 r) ∧ v.cell? ⟨b', off' + i * 2, none⟩ = some (.slice va vm vc) ∧ v.cell? ⟨b', off' + i * 2 + 1, none⟩ = some (.int .i64 vg)) ((v.setCell ⟨b, 0, none⟩ x).setCell ⟨b, 1, none⟩ y)) := ⟨fun v b x y hv hb => SQ.out _ (below_set2 hv b x y hb)⟩
      have hzp : ∀ w, (zeroValue 23).run Tryd.prog w = .ok (.agg (rowK 0 0 0 0)) w := fun w => by kernel_rfl
      have hzq := zvPort
      subst ha
      subst ha'
      clear hp hv hrd p4 b4 e4 hgi hSi hag hal
      obtain ⟨g0, hg0⟩ : ∃ g0, g0 = w4.heap.size := ⟨_, rfl⟩
      have G0 := Kp.mk hg0
      clear hg0
      go_wp2_with fail
      rw [← E4.out]
      clear c0 c1 c2 c3 q0 q1
      obtain ⟨c0, c1, c2, c3⟩ := plan4 P4.out
      have q0 := Q0.out
      have q1 := Q1.out
      go_region_held3 (fun v => v.cell? ⟨wr.heap.size, 0, none⟩ = some (.int .i64 k) ∧ v.cell? ⟨wr.heap.size, 1, none⟩ = some (.int .i64 s) ∧ v.cell? ⟨wr.heap.size, 2, none⟩ = some (.int .i64 d) ∧ v.cell? ⟨wr.heap.size, 3, none⟩ = some (.int .i64 r) ∧ v.cell? ⟨b', off' + i * 2, none⟩ = some (.slice va vm vc) ∧ v.cell? ⟨b', off' + i * 2 + 1, none⟩ = some (.int .i64 vg)) (first | exact SQ.out _ (Drew.once _).below | exact SQ.out _ (bl1 _ _ _) | exact SQ.out _ (bl3 _ _ _) | exact SQ.out _ HX1.out | exact SQ.out _ (HX1.out.alloc HX1.out.size _) | exact SR.out _ _ _ _ HX1.out (Nat.le_refl _))
        (first | (go_at_call 13; first
          | ((with_reducible refine (HC.out _ (Drew.once _).below).mono ?_); rintro e x1 ⟨a5, m5, c5, rfl, ho, hb⟩; have HX1 := Kp.mk ((Drew.once w4).below.trans (hb.mono (Drew.once w4).below.size)); have HO := Kp.mk ho; clear hb ho)
          | ((with_reducible refine (HC.out _ (bl1 _ _ _)).mono ?_); rintro e x1 ⟨a5, m5, c5, rfl, ho, hb⟩; have HX1 := Kp.mk ((bl1 w4 _ _).trans (hb.mono (bl1 w4 _ _).size)); have HO := Kp.mk ho; have LV := Kp.mk (new1 w4 (portA none 0 0 0) 29).lt; have HV := Kp.mk ((new1 w4 (portA none 0 0 0) 29).later hb); have z0 := HV.out.cell 0 _ rfl; have z1 := HV.out.cell 1 _ rfl; have f0 := HV.out.free 0; have f1 := HV.out.free 1; clear hb ho)
          | ((with_reducible refine (HC.out _ (bl3 _ _ _)).mono ?_); rintro e x1 ⟨a5, m5, c5, rfl, ho, hb⟩; have HX1 := Kp.mk ((bl3 w4 _ _).trans (hb.mono (bl3 w4 _ _).size)); have HO := Kp.mk ho; have LV := Kp.mk (new3 w4 (portA none 0 0 0) 29).lt; have HV := Kp.mk ((new3 w4 (portA none 0 0 0) 29).later hb); have z0 := HV.out.cell 0 _ rfl; have z1 := HV.out.cell 1 _ rfl; have f0 := HV.out.free 0; have f1 := HV.out.free 1; clear hb ho)))
      all_goals first
        | (refine then_gen (F := fun W => Kp (Below g0 w4 W ∧ Blk W x1.heap.size #[.slice a5 m5 c5, .int .i64 ag] 29 ∧ OwnS W g0 (.slice a5 m5 c5) vl)) ⟨by rw [G0.out]; exact HX1.out.alloc HX1.out.size _, Blk.new _ _ _, by rw [G0.out]; exact (HO.out.later (below_alloc _ _)).mono (by simp)⟩ ?_; generalize x1.heap.size = vb)
        | (refine then_gen (F := fun W => Kp (Below g0 w4 W ∧ Blk W w4.heap.size #[.slice a5 m5 c5, .int .i64 ag] 29 ∧ OwnS W g0 (.slice a5 m5 c5) vl)) ⟨by rw [G0.out]; exact below_set2 HX1.out _ _ _ (Nat.le_refl _), HV.out.set2 _ _, by rw [G0.out]; exact (HO.out.set2 _ _ _ LV.out).mono (by simp)⟩ ?_; generalize w4.heap.size = vb)
      all_goals (
        intro w5 HW
        have hb5 := HW.out.1
        have V5 := Kp.mk HW.out.2.1
        have ho5 := HW.out.2.2
        rw [G0.out] at hb5 ho5
        have O5 := Kp.mk ho5
        have B5 := Kp.mk (B4.out.trans (hb5.mono B4.out.size))
        have U5 := Kp.mk (U4.out.later hb5)
        have NO := Kp.mk (O5.out.mono B4.out.size)
        have NF : Kp (∀ b, (Value.slice oa i oc).ownBlock = some b → (Value.slice a5 m5 c5).ownBlock ≠ some b) := ⟨fun b hb e => by
          have h1 := (ownS_in O5.out e).1
          have h2 := (U4.out.lt hb).2
          omega⟩
        have v0 := V5.out.cell 0 _ rfl
        have v1 := V5.out.cell 1 _ rfl
        clear hb5 ho5 HW HO HX1 SQ SR HC hzp hzq G0 g0
        try clear HV LV z0 z1 f0 f1
        clear c0 c1 c2 c3 q0 q1
        go_wp2_with (at_builtin; refine append_port rfl (.tmp 42) (.tmp 44) rfl w.heap.size _ i U rfl U5.out ⟨a5, m5, c5, ag, vl⟩ NO.out NF.out rfl (by omega) B5.out.size ?_; rintro v6 w6 ho6 hb6 _ _)
        have HL6 := Kp.mk (posL_snoc (S := agedS P V) ⟨a5, m5, c5, ag, vl⟩ HU.out.2 ho6 HSI.out.1 HSI.out.2 (B5.out.trans hb6))
        clear ho6 hb6
        go_roundw
        case rel => exact ⟨i + 1, by omega, by go_num, HL6⟩
        case measure => simp [intOf]; omega)
    · have : i = n := by omega
      subst this
      have hb : decide ((i : Int) < i) = false := by simp
      obtain ⟨U, hU, hUV, hB⟩ := HL.out
      obtain ⟨oa, oc, rfl⟩ := hU.shape
      have HA0 : Kp (∃ U, ArrI w wr 116 4 (arrS P i (agedS P V) C 0) i (.slice oa i oc) ((arrD P i (agedS P V) C 0).map RepV.row) (.slice none 0 0) U) := ⟨⟨U, ArrI.first hU hUV hB⟩⟩
      clear hU hUV hB HL U
      obtain ⟨w2, ew2⟩ : ∃ x : World, x = wr := ⟨_, rfl⟩
      subst ew2
      go_wp2
      go_loopw [15, 49] (fun dv kv wr => ∃ k : Nat, k ≤ mn ∧ kv = .int .i64 (k : Int) ∧ Kp (∃ U, ArrI w wr 116 4 (arrS P i (agedS P V) C k) i (.slice oa i oc) ((arrD P i (agedS P V) C k).map RepV.row) dv U)) (fun _ kv _ => mn - (intOf kv).toNat)
      case atStart => exact ⟨0, by omega, rfl, HA0⟩
      case round =>
        obtain ⟨k, hk, rfl, HK⟩ := hrel
        by_cases hlt : k < mn
        · obtain ⟨U, hI⟩ := HK.out
          have hb' : decide ((k : Int) < mn) = true := decide_eq_true (by omega)
          have hb1 : (0 : Int) ≤ (k : Int) := by omega
          have hb2 : (k : Int) < (mn : Int) := by omega
          obtain ⟨mb, mo, hma, hmc⟩ := H3.out.cells (by omega)
          have hrow := srange_later (hmc k hlt) hI.below
          have hmd := HS.out k hlt
          obtain ⟨⟨mp, md⟩, hm⟩ : ∃ x, x = C k := ⟨_, rfl⟩
          have hrow : wr.rangeAt mb (mo + k * 2) (C k).row := hrow
          rw [← hm] at hrow hmd
          have r0 : wr.cell? ⟨mb, mo + k * 2, none⟩ = some (.int .i64 mp) := hrow 0 _ rfl
          have r1 : wr.cell? ⟨mb, mo + k * 2 + 1, none⟩ = some (.string md) := hrow 1 _ rfl
          have hmd : md.size < 9223372036854775808 := hmd
          obtain ⟨w4, e4⟩ : ∃ w4, w4 = wr.alloc (.cells #[.int .i64 mp, .string md] 101) := ⟨_, rfl⟩
          have b4 : Below wr.heap.size wr w4 := by rw [e4]; exact below_alloc _ _
          have x4 : Blk w4 wr.heap.size #[.int .i64 mp, .string md] 101 := by rw [e4]; exact Blk.new _ _ _
          have I4 := Kp.mk (hI.later b4)
          have X4 := Kp.mk x4
          have E4 := Kp.mk e4
          have HM := Kp.mk hm
          have HMD := Kp.mk hmd
          have hL : ((arrD P i (agedS P V) C k).map RepV.row).length ≤ k := by rw [List.length_map]; exact arrD_len _ _ _ _ _
          have HLL := Kp.mk hL
          have hzm := zvMsg
          subst hma
          clear hI HK hm hrow hmd hmc b4 x4 e4 hL
          by_cases hin : 0 ≤ mp ∧ mp < (i : Int)
          · obtain ⟨q, hq⟩ : ∃ q : Nat, mp = (q : Int) := ⟨mp.toNat, by omega⟩
            subst hq
            have hqi : q < i := by omega
            have t1 : decide ((q : Int) ≥ 0) = true := decide_eq_true (by omega)
            have t2 : decide ((q : Int) < (i : Int)) = true := decide_eq_true (by omega)
            have t3 : (0 : Int) ≤ (q : Int) := by omega
            have t4 : (q : Int) < (i : Int) := by omega
            obtain ⟨g, cap, hov, _, _, _⟩ := I4.out.po.block (by omega)
            simp only [Value.slice.injEq] at hov
            obtain ⟨rfl, _, rfl⟩ := hov
            obtain ⟨b, off, ha, c0, c1, c2, c3⟩ := (H1.out.later I4.out.below).at q hqi
            obtain ⟨u0, u1⟩ := I4.out.po.cells q hqi
            have ho := I4.out.po.each q hqi
            obtain ⟨hl, hgg⟩ := I4.out.is q hqi
            have hgood := arr_good (C := C) (fun j hj => aged_good HG.out j hj) k q hqi
            rw [← hl, ← hgg] at hgood
            have hgoes := goes_at (P := P) (S := arrS P i (agedS P V) C k) (m := C k) (k := q) (by rw [← HM.out]) hqi
            rw [← hl, ← hgg, ← HM.out] at hgoes
            obtain ⟨⟨ua, um, uc, ug, ul⟩, hu⟩ : ∃ v, v = U q := ⟨_, rfl⟩
            obtain ⟨⟨pk, s, d, r⟩, hp⟩ : ∃ p, p = P q := ⟨_, rfl⟩
            rw [← hp] at c0 c1 c2 c3 hgood hgoes
            rw [← hu] at u0 u1 ho hl hgg hgood hgoes
            have c0 : w4.cell? ⟨b, off + q * 4, none⟩ = some (.int .i64 pk) := c0
            have c1 : w4.cell? ⟨b, off + q * 4 + 1, none⟩ = some (.int .i64 s) := c1
            have c2 : w4.cell? ⟨b, off + q * 4 + 2, none⟩ = some (.int .i64 d) := c2
            have c3 : w4.cell? ⟨b, off + q * 4 + 3, none⟩ = some (.int .i64 r) := c3
            have u0 : w4.cell? ⟨g, q * 2, none⟩ = some (.slice ua um uc) := u0
            have u1 : w4.cell? ⟨g, q * 2 + 1, none⟩ = some (.int .i64 ug) := u1
            have hrd : RdS w4 ua um uc ul := OwnS.rdn ho (good_rd hgood).1 (good_rd hgood).2
            have hgoes : goes P i (arrS P i (agedS P V) C k) (C k) = decide (addC ⟨pk, s, d, r⟩ ul ug md (inK pk) = 0) := by rw [← hgoes, HM.out]
            obtain ⟨cc, hcc⟩ : ∃ c, c = addC ⟨pk, s, d, r⟩ ul ug md (inK pk) := ⟨_, rfl⟩
            obtain ⟨al, hal⟩ : ∃ c, c = addL ⟨pk, s, d, r⟩ ul ug md (inK pk) := ⟨_, rfl⟩
            obtain ⟨ev, hev⟩ : ∃ v, v = errOf A cc := ⟨_, rfl⟩
            rw [← hcc] at hgoes
            have HAL : Kp (al = addL (P q) (arrS P i (agedS P V) C k q).l (arrS P i (agedS P V) C k q).g (C k).data (inK (P q).kind)) := ⟨by rw [hal, ← hp, ← hl, ← hgg, ← HM.out]⟩
            have RD := Kp.mk hrd
            have GO := Kp.mk hgoes
            have HEV := Kp.mk hev
            have HCC : Kp (cc ≤ 20) := ⟨by rw [hcc]; exact addC_le2 _ _ _ _ _⟩
            have HC : Kp (∀ v, Below w4.heap.size w4 v → Calls Tryd.prog 11 #[.agg (rowK pk s d r), .agg (portA ua um uc ug), .string md] v fun e w' => ∃ a2 m2 c2, e = .returned (.tuple #[.agg (portA a2 m2 c2 0), ev]) ∧ OwnS w' v.heap.size (.slice a2 m2 c2) al ∧ Below v.heap.size v w') := ⟨fun v hv => (port_put A ⟨pk, s, d, r⟩ ua um uc ul ug md v (RD.out.later hv) HMD.out ((HE.out.later (I4.out.below.trans (hv.mono I4.out.below.size))).sub (by decide))).mono fun e w' ⟨u, h1, h2, h3⟩ => by
              obtain ⟨a2, c2, m2, hm, rfl⟩ := h2.shapeN
              exact ⟨a2, m2, c2, by rw [hev, hcc]; exact h1, by rw [hal]; exact h2, h3⟩⟩
            obtain ⟨mx, hmx⟩ : ∃ b, b = wr.heap.size := ⟨_, rfl⟩
            rw [← hmx] at X4
            have C0 := Kp.mk c0
            have C1 := Kp.mk c1
            have C2 := Kp.mk c2
            have C3 := Kp.mk c3
            have U0 := Kp.mk u0
            have U1 := Kp.mk u1
            have SQ : Kp (∀ v, Below w4.heap.size w4 v → v.cell? ⟨b, off + q * 4, none⟩ = some (.int .i64 pk) ∧ v.cell? ⟨b, off + q * 4 + 1, none⟩ = some (.int .i64 s) ∧ v.cell? ⟨b, off + q * 4 + 2, none⟩ = some (.int .i64 d) ∧ v.cell? ⟨b, off + q * 4 + 3, none⟩ = some (.int .i64 r) ∧ v.cell? ⟨g, q * 2, none⟩ = some (.slice ua um uc) ∧ v.cell? ⟨g, q * 2 + 1, none⟩ = some (.int .i64 ug) ∧ v.cell? ⟨mx, 0, none⟩ = some (.int .i64 (q : Int)) ∧ v.cell? ⟨mx, 1, none⟩ = some (.string md)) := ⟨fun v hv =>
              ⟨scell_later hv C0.out, scell_later hv C1.out, scell_later hv C2.out, scell_later hv C3.out, scell_later hv U0.out, scell_later hv U1.out, (X4.out.later hv).cell 0 _ rfl, (X4.out.later hv).cell 1 _ rfl⟩⟩
            have SR : Kp (∀ v b' x y, Below w4.heap.size w4 v → w4.heap.size ≤ b' → (fun v : World => v.cell? ⟨b, off + q * 4, none⟩ = some (.int .i64 pk) ∧ v.cell? ⟨b, off + q * 4 + 1, none⟩ = some (.int .i64 s) ∧ v.cell? ⟨b, off + q * 4 + 2, none⟩ = some (.int .i64 d) ∧ v.cell? ⟨b, off + q * 4 + 3, none⟩ = some (.int .i64 r) ∧ v.cell? ⟨g, q * 2, none⟩ = some (.slice ua um uc) ∧ v.cell? ⟨g, q * 2 + 1, none⟩ = some (.int .i64 ug) ∧ v.cell? ⟨mx, 0, none⟩ = some (.int .i64 (q : Int)) ∧ v.cell? ⟨mx, 1, none⟩ = some (.string md)) ((v.setCell ⟨b', 0, none⟩ x).setCell ⟨b', 1, none⟩ y)) := ⟨fun v b' x y hv hb => SQ.out _ (below_set2 hv b' x y hb)⟩
            have hzq := zvPort
            obtain ⟨g0, hg0⟩ : ∃ g0, g0 = w4.heap.size := ⟨_, rfl⟩
            have G0 := Kp.mk hg0
            subst ha
            clear hin hp hu ho hl hgg hgood hgoes hrd hcc hal hev hg0 C0 C1 C2 C3 U0 U1
            go_wp2_with fail
            rw [← E4.out]
            rw [← hmx]
            clear r0 r1 hmx
            obtain ⟨m0, m1⟩ : w4.cell? ⟨mx, 0, none⟩ = some (.int .i64 (q : Int)) ∧ w4.cell? ⟨mx, 1, none⟩ = some (.string md) := ⟨X4.out.cell 0 _ rfl, X4.out.cell 1 _ rfl⟩
            go_region_held3 (fun v => v.cell? ⟨b, off + q * 4, none⟩ = some (.int .i64 pk) ∧ v.cell? ⟨b, off + q * 4 + 1, none⟩ = some (.int .i64 s) ∧ v.cell? ⟨b, off + q * 4 + 2, none⟩ = some (.int .i64 d) ∧ v.cell? ⟨b, off + q * 4 + 3, none⟩ = some (.int .i64 r) ∧ v.cell? ⟨g, q * 2, none⟩ = some (.slice ua um uc) ∧ v.cell? ⟨g, q * 2 + 1, none⟩ = some (.int .i64 ug) ∧ v.cell? ⟨mx, 0, none⟩ = some (.int .i64 (q : Int)) ∧ v.cell? ⟨mx, 1, none⟩ = some (.string md)) (first | exact SQ.out _ (Drew.once _).below | exact SQ.out _ (bl1 _ _ _) | exact SQ.out _ (bl3 _ _ _) | exact SQ.out _ HX1.out | exact SQ.out _ (HX1.out.alloc HX1.out.size _) | exact SR.out _ _ _ _ HX1.out (Nat.le_refl _))
              (first | (go_at_call 11; first
                | ((with_reducible refine (HC.out _ (Drew.once _).below).mono ?_); rintro e x1 ⟨a5, m5, c5, rfl, ho, hb⟩; have HX1 := Kp.mk ((Drew.once w4).below.trans (hb.mono (Drew.once w4).below.size)); have HO := Kp.mk ho; clear hb ho)
                | ((with_reducible refine (HC.out _ (bl1 _ _ _)).mono ?_); rintro e x1 ⟨a5, m5, c5, rfl, ho, hb⟩; have HX1 := Kp.mk ((bl1 w4 _ _).trans (hb.mono (bl1 w4 _ _).size)); have HO := Kp.mk ho; have LV := Kp.mk (new1 w4 (portA none 0 0 0) 29).lt; have HV := Kp.mk ((new1 w4 (portA none 0 0 0) 29).later hb); have z0 := HV.out.cell 0 _ rfl; have z1 := HV.out.cell 1 _ rfl; have f0 := HV.out.free 0; have f1 := HV.out.free 1; clear hb ho)
                | ((with_reducible refine (HC.out _ (bl3 _ _ _)).mono ?_); rintro e x1 ⟨a5, m5, c5, rfl, ho, hb⟩; have HX1 := Kp.mk ((bl3 w4 _ _).trans (hb.mono (bl3 w4 _ _).size)); have HO := Kp.mk ho; have LV := Kp.mk (new3 w4 (portA none 0 0 0) 29).lt; have HV := Kp.mk ((new3 w4 (portA none 0 0 0) 29).later hb); have z0 := HV.out.cell 0 _ rfl; have z1 := HV.out.cell 1 _ rfl; have f0 := HV.out.free 0; have f1 := HV.out.free 1; clear hb ho)))
            all_goals first
              | (refine then_gen (F := fun W => Kp (Below g0 w4 W ∧ Blk W x1.heap.size #[.slice a5 m5 c5, .int .i64 0] 29 ∧ OwnS W g0 (.slice a5 m5 c5) al)) ⟨by rw [G0.out]; exact HX1.out.alloc HX1.out.size _, Blk.new _ _ _, by rw [G0.out]; exact (HO.out.later (below_alloc _ _)).mono (by simp)⟩ ?_; generalize x1.heap.size = vb)
              | (refine then_gen (F := fun W => Kp (Below g0 w4 W ∧ Blk W w4.heap.size #[.slice a5 m5 c5, .int .i64 0] 29 ∧ OwnS W g0 (.slice a5 m5 c5) al)) ⟨by rw [G0.out]; exact below_set2 HX1.out _ _ _ (Nat.le_refl _), HV.out.set2 _ _, by rw [G0.out]; exact (HO.out.set2 _ _ _ LV.out).mono (by simp)⟩ ?_; generalize w4.heap.size = vb)
            all_goals (
              intro w5 HW
              have hb5 := HW.out.1
              have V5 := Kp.mk HW.out.2.1
              have ho5 := HW.out.2.2
              rw [G0.out] at hb5 ho5
              have O5 := Kp.mk ho5
              have BB5 := Kp.mk hb5
              have I5 := Kp.mk (I4.out.later hb5)
              have X5 := Kp.mk (X4.out.later hb5)
              clear hb5 ho5 HW HO HX1 SQ SR HC hzq G0 g0
              try clear HV LV z0 z1 f0 f1
              clear c0 c1 c2 c3 u0 u1 m0 m1
              have m0 := X5.out.cell 0 _ rfl
              have m1 := X5.out.cell 1 _ rfl
              by_cases hc0 : cc = 0
              · have HG1 : Kp (goes P i (arrS P i (agedS P V) C k) (C k) = true) := ⟨by rw [GO.out, hc0]; rfl⟩
                have hev0 : ev = .nilIface := by rw [HEV.out, hc0]; rfl
                have AP := Kp.mk (arr_put (q := q) HG1.out (by rw [← HM.out]))
                subst hev0
                have v0 := V5.out.cell 0 _ rfl
                have v1 := V5.out.cell 1 _ rfl
                obtain ⟨u0, u1⟩ := I5.out.po.cells q hqi
                have f0 := I5.out.po.free (q * 2)
                have f1 := I5.out.po.free (q * 2 + 1)
                have I6 : Kp (∃ U, ArrI w ((w5.setCell ⟨g, q * 2, none⟩ (.slice a5 m5 c5)).setCell ⟨g, q * 2 + 1, none⟩ (.int .i64 0)) 116 4 (arrS P i (agedS P V) C (k + 1)) i (.slice (some ⟨g, 0, none⟩) i oc) ((arrD P i (agedS P V) C (k + 1)).map RepV.row) u15 U) := ⟨⟨_, by
                  rw [AP.out.2]
                  refine (I4.out.set hqi BB5.out ⟨a5, m5, c5, 0, al⟩ O5.out).congr fun j hj => ?_
                  rw [AP.out.1 j, HAL.out]⟩⟩
                clear hc0
                go_wp2_with fail
                go_roundw
                case rel => exact ⟨k + 1, by omega, by go_num, I6⟩
                case measure => simp [intOf]; omega
              · have HG0 : Kp (goes P i (arrS P i (agedS P V) C k) (C k) = false) := ⟨by rw [GO.out]; exact decide_eq_false hc0⟩
                obtain ⟨c7, hc7⟩ : ∃ c7, cc = c7 + 1 := ⟨cc - 1, by omega⟩
                have hev1 : ev = errv (A (c7 + 1)) := by rw [HEV.out, hc7]; rfl
                subst hev1
                clear hc0 hc7
                go_wp2_with (at_builtin; refine append_row rfl (.tmp 86) (.tmp 91) 84 116 4 24 _ rfl Tryd.underlying84 infoRep rfl (by decide) w.heap.size _ _ rfl I5.out.dr _ rfl (by intro u hu; simp at hu; rcases hu with rfl | rfl | rfl | rfl <;> rfl) rfl (by unfold maxLen; have := HLL.out; omega) (by have := HLL.out; omega) I5.out.below.size ?_; rintro dv' w6 hr6 hg6 hb6 h46)
                have I6 : Kp (∃ U, ArrI w w6 116 4 (arrS P i (agedS P V) C (k + 1)) i (.slice (some ⟨g, 0, none⟩) i oc) ((arrD P i (agedS P V) C (k + 1)).map RepV.row) dv' U) := ⟨⟨U, by
                  rw [(arr_drop HG0.out).1, (arr_drop HG0.out).2]
                  refine I5.out.more ?_ hg6 hb6 h46
                  rw [← HM.out, drop_row]
                  exact hr6⟩⟩
                clear hr6 hg6 hb6 h46
                go_roundw
                case rel => exact ⟨k + 1, by omega, by go_num, I6⟩
                case measure => simp [intOf]; omega)
          · have HG0 := Kp.mk (goes_not (P := P) (S := arrS P i (agedS P V) C k) (m := C k) (by rw [← HM.out]; exact hin))
            by_cases h0 : 0 ≤ mp
            · have t1 : decide (mp ≥ 0) = true := decide_eq_true h0
              have t2 : decide (mp < (i : Int)) = false := decide_eq_false fun h => hin ⟨h0, h⟩
              clear hin
              go_wp2_with (at_builtin; rw [← E4.out]; go_must (refine append_row rfl (.tmp 86) (.tmp 91) 84 116 4 24 _ rfl Tryd.underlying84 infoRep rfl (by decide) w.heap.size _ _ rfl I4.out.dr _ rfl (by intro u hu; simp at hu; rcases hu with rfl | rfl | rfl | rfl <;> rfl) (by first | rfl | (rw [E4.out]; rfl) | (rw [E4.out]; simp [Act.eval])) (by unfold maxLen; have := HLL.out; omega) (by have := HLL.out; omega) I4.out.below.size ?_; rintro dv' w6 hr6 hg6 hb6 h46))
              have I6 : Kp (∃ U, ArrI w w6 116 4 (arrS P i (agedS P V) C (k + 1)) i (.slice oa i oc) ((arrD P i (agedS P V) C (k + 1)).map RepV.row) dv' U) := ⟨⟨U, by
                rw [(arr_drop HG0.out).1, (arr_drop HG0.out).2]
                refine I4.out.more ?_ hg6 hb6 h46
                rw [← HM.out, drop_row]
                exact hr6⟩⟩
              clear hr6 hg6 hb6 h46
              go_roundw
              case rel => exact ⟨k + 1, by omega, by go_num, I6⟩
              case measure => simp [intOf]; omega
            · have t1 : decide (mp ≥ 0) = false := decide_eq_false h0
              clear hin
              go_wp2_with (at_builtin; rw [← E4.out]; go_must (refine append_row rfl (.tmp 86) (.tmp 91) 84 116 4 24 _ rfl Tryd.underlying84 infoRep rfl (by decide) w.heap.size _ _ rfl I4.out.dr _ rfl (by intro u hu; simp at hu; rcases hu with rfl | rfl | rfl | rfl <;> rfl) (by first | rfl | (rw [E4.out]; rfl) | (rw [E4.out]; simp [Act.eval])) (by unfold maxLen; have := HLL.out; omega) (by have := HLL.out; omega) I4.out.below.size ?_; rintro dv' w6 hr6 hg6 hb6 h46))
              have I6 : Kp (∃ U, ArrI w w6 116 4 (arrS P i (agedS P V) C (k + 1)) i (.slice oa i oc) ((arrD P i (agedS P V) C (k + 1)).map RepV.row) dv' U) := ⟨⟨U, by
                rw [(arr_drop HG0.out).1, (arr_drop HG0.out).2]
                refine I4.out.more ?_ hg6 hb6 h46
                rw [← HM.out, drop_row]
                exact hr6⟩⟩
              clear hr6 hg6 hb6 h46
              go_roundw
              case rel => exact ⟨k + 1, by omega, by go_num, I6⟩
              case measure => simp [intOf]; omega
        · have : k = mn := by omega
          subst this
          have hb' : decide ((k : Int) < k) = false := by simp
          obtain ⟨U, hI⟩ := HK.out
          have HI := Kp.mk hI
          clear hI HK
          go_wp2_with fail
          go_ret3
          exact ⟨_, _, U, rfl, HI.out⟩
end Go.Proofs.YtjlgnbjfgeppcaaDoor
