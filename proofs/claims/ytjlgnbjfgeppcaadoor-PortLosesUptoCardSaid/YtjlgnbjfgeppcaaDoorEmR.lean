/- The document's Emit, walked. -/
import Derived.Test.YtjlgnbjfgeppcaaDoorEmP
namespace Go.Proofs.YtjlgnbjfgeppcaaDoor
open Go Go.RowKit
set_option linter.unusedVariables false
attribute [local go_sem ↓] Go.wp_at_zero Go.wp_at_succ

/-- 'append(out, q)' in a region that draws its order. -/
theorem step_append_port {ops : Array Oper} {w0 : World} {o : Oper} {a : Act} {K : Act → World → Prop} {Q : Exit → Act → World → Prop} {E : Prop} (hgd : o.guard = none) (s x : Operand)
    (ho : o.op = .call { callee := .builtin .append, args := #[s, x], argTypes := #[42, 42] })
    (B : Nat) (v : Value) (n : Nat) (U : Nat → PortV) (hs : a.eval s = v) (hown : OwnPo w0 B v n U) (q : PortV) (hq : OwnS w0 B (.slice q.a q.m q.c) q.l) (hqf : ∀ b, v.ownBlock = some b → (Value.slice q.a q.m q.c).ownBlock ≠ some b)
    (hx : a.eval x = .slice (some ⟨w0.heap.size, 0, none⟩) 1 1) (hn : n + 1 ≤ 4398046511104) (hB : B ≤ w0.heap.size)
    (h : ∀ v' w', OwnPo w' B v' (n + 1) (pupd U n q) → Below B w0 w' → (w0.alloc (.cells (portA q.a q.m q.c q.g) 29)).grownBy w' v.ownBlock → (v'.ownBlock = v.ownBlock ∨ v'.ownBlock = some (w0.heap.size + 1)) → K (a.put o.dst v') w') :
    if Region.wanted o (yielded ops a.tmps) = true then Oper.wp Tryd.prog o a (w0.alloc (.cells (portA q.a q.m q.c q.g) 29)) K Q else E := by
  have hw : Region.wanted o (yielded ops a.tmps) = true := by simp [Region.wanted, hgd]
  rw [if_pos hw]
  obtain ⟨i, hi, hz0, hz1, hz2⟩ := info_parts infoPort
  have b0 := below_alloc w0 (.cells (portA q.a q.m q.c q.g) 29)
  have hsz : (w0.alloc (.cells (portA q.a q.m q.c q.g) 29)).heap.size = w0.heap.size + 1 := by simp
  have hnew : ∀ j u, q.row[j]? = some u → (w0.alloc (.cells (portA q.a q.m q.c q.g) 29)).cell? ((⟨w0.heap.size, 0, none⟩ : Addr).add j) = some u := by
    intro j u hu
    have e1 : (⟨w0.heap.size, 0, none⟩ : Addr).add j = ⟨w0.heap.size, 0 + j, none⟩ := by unfold Addr.add; split <;> simp_all
    rw [e1, Nat.zero_add, World.cell?_alloc_new]
    have : (portA q.a q.m q.c q.g).toList = q.row := rfl
    rw [← this] at hu
    simpa using hu
  have hone : ∀ u ∈ q.row, u.oneCell' = true := by
    intro u hu
    simp only [PortV.row, List.mem_cons, List.not_mem_nil, or_false] at hu
    rcases hu with rfl | rfl <;> rfl
  obtain ⟨v', w', hr, h1, h2, _, h4⟩ := run_append_own_at (P := Tryd.prog) (w0.alloc (.cells (portA q.a q.m q.c q.g) 29)) B 42 o.type 29 i (.agg (portA none 0 0 0)) 2 32 Tryd.underlying42 hi hz0 hz1 hz2 (by simp [Value.cells]) (by decide) v n (portsL U n) (ownsRow_later hown.row b0) ⟨w0.heap.size, 0, none⟩ 1 1 q.row (by rfl) hnew hone (by unfold maxLen; omega) (by omega) (by omega)
  unfold Oper.wp execOp
  simp only [ho, resolve, invoke, builtin, Sem.run_bind, Sem.run_pure, Result.andThen_ok, List.map_toArray, List.map_cons, List.map_nil, hs, hx, hr]
  have inner : ∀ (y : Value) (l : List ByteArray), OwnS w0 B y l → (∀ b, v.ownBlock = some b → y.ownBlock ≠ some b) → OwnS w' B y l ∧ (∀ b, v'.ownBlock = some b → y.ownBlock ≠ some b) := fun y l hy hf => by
    refine ⟨grown_keep hy h2 hf, fun b hb e => ?_⟩
    have hin := ownS_in hy e
    rcases h4 with h4 | h4
    · rw [h4] at hb; exact hf b hb e
    · rw [h4, hsz] at hb; simp at hb; omega
  refine h v' w' ⟨?_, fun j hj => ?_, fun j hj => ?_⟩ ((b0.mono hB).grown h2 (by rw [hsz]; omega) (fun k hk => ?_)) h2 (by rw [hsz] at h4; exact h4)
  · rw [portsL, pupd_at, portsL_congr (U' := U) n (fun j hj => pupd_lt U n q hj)]
    exact h1
  · rcases Nat.lt_or_ge j n with hlt | hge
    · rw [pupd_lt U n q hlt]; exact (inner _ _ (hown.each j hlt) (hown.far j hlt)).1
    · have : j = n := by omega
      subst this; rw [pupd_at]; exact (inner _ _ hq hqf).1
  · rcases Nat.lt_or_ge j n with hlt | hge
    · rw [pupd_lt U n q hlt]; exact (inner _ _ (hown.each j hlt) (hown.far j hlt)).2
    · have : j = n := by omega
      subst this; rw [pupd_at]; exact (inner _ _ hq hqf).2
  · exact ownS_base hown.row hk
set_option maxRecDepth 100000 in
set_option maxHeartbeats 4000000 in
theorem ref_emit_bad (pa : Option Addr) (n pc : Nat) (P : Nat → PortP) (qa : Option Addr) (m qc : Nat) (V : Nat → PortV) (w : World) (h : RdPl w pa n pc P) (h2 : RdPo w qa m qc V) (c : Nat) (pl : Int) (hA : AllE P V n m c pl) (hc : c ≠ 0) :
    Calls Tryd.prog 47 #[.slice pa n pc, .slice qa m qc] w fun e w' => e = .returned (.tuple #[.slice none 0 0, .slice none 0 0, .agg (errA c pl)]) ∧ Below w.heap.size w w' := by
  obtain ⟨w2, e2⟩ : ∃ w2, w2 = w.alloc (.cells (errA 0 0) 89) := ⟨_, rfl⟩
  have b2 : Below w.heap.size w w2 := by rw [e2]; exact below_alloc _ _
  have z2 : Blk w2 w.heap.size (errA 0 0) 89 := by rw [e2]; exact Blk.new _ _ _
  have HC := Kp.mk (ref_all pa n pc P qa m qc V w2 (h.later b2) (h2.later b2) c pl hA)
  have E2 := Kp.mk e2
  have B2 := Kp.mk b2
  have Z2 := Kp.mk z2
  have hz := zvErr
  have hcb : ((c : Int) != 0) = true := by simpa using hc
  clear h h2 hA e2 b2 z2 hc
  go_enter Tryd.func47, Tryd.ntmps47
  go_wp2_with fail
  rw [← E2.out]
  refine HC.out.mono ?_
  rintro e w3 ⟨rfl, hb⟩
  obtain ⟨w4, e4⟩ : ∃ w4, w4 = w3.alloc (.cells (errA c pl) 89) := ⟨_, rfl⟩
  have b4 : Below w2.heap.size w2 w4 := by rw [e4]; exact hb.alloc hb.size _
  have z4 : Blk w4 w3.heap.size (errA c pl) 89 := by rw [e4]; exact Blk.new _ _ _
  have Z4 := Kp.mk (Z2.out.later b4)
  have B4 := Kp.mk (B2.out.trans (b4.mono B2.out.size))
  have e0 := z4.cell 0 _ rfl
  have e1 := z4.cell 1 _ rfl
  have z0 := Z4.out.cell 0 _ rfl
  have z1 := Z4.out.cell 1 _ rfl
  have f0 := Z4.out.free 0
  have f1 := Z4.out.free 1
  have E4 := Kp.mk e4
  have HZ := Kp.mk (Z4.out.set2 (.int .i64 (c : Int)) (.int .i64 pl))
  have HZd : Kp (Blk ((w4.drew.setCell ⟨w.heap.size, 0, none⟩ (.int .i64 (c : Int))).setCell ⟨w.heap.size, 1, none⟩ (.int .i64 pl)) w.heap.size (errA c pl) 89) := ⟨(Z4.out.later (Drew.once w4).below).set2 (.int .i64 (c : Int)) (.int .i64 pl)⟩
  have BF := Kp.mk (below_set2 (B4.out.trans ((Drew.once w4).below.mono B4.out.size)) w.heap.size (.int .i64 (c : Int)) (.int .i64 pl) (Nat.le_refl _))
  have BG := Kp.mk (below_set2 B4.out w.heap.size (.int .i64 (c : Int)) (.int .i64 pl) (Nat.le_refl _)).drew
  clear hb b4 z4 e4 HC
  go_wp2_with fail
  rw [← E4.out]
  go_region
  all_goals (
    go_wp2
    refine bodyPost_ret (res3c (p := 6) (q := 4) (r := 5) (ty := 89) rfl _ rfl (by first | exact HZ.out | exact HZd.out) _ Tryd.underlying89 (errInfo _ rfl)) rfl ⟨rfl, by first | exact BF.out | exact BG.out⟩)
set_option maxRecDepth 100000 in
set_option maxHeartbeats 16000000 in
theorem ref_emit (pa : Option Addr) (n pc : Nat) (P : Nat → PortP) (qa : Option Addr) (m qc : Nat) (V : Nat → PortV) (w : World) (h : RdPl w pa n pc P) (h2 : RdPo w qa m qc V) (hA : AllE P V n m 0 (-1)) (hM : 8 * n ≤ 5864062014805) :
    Calls Tryd.prog 47 #[.slice pa n pc, .slice qa m qc] w fun e w' => ∃ v d U, e = .returned (.tuple #[v, d, .agg (errA 0 (-1))]) ∧ ArrI w w' 101 2 (outS P V) n v (rowsM (outM P V n)) d U := by
  obtain ⟨w2, e2⟩ : ∃ w2, w2 = w.alloc (.cells (errA 0 0) 89) := ⟨_, rfl⟩
  have b2 : Below w.heap.size w w2 := by rw [e2]; exact below_alloc _ _
  have z2 : Blk w2 w.heap.size (errA 0 0) 89 := by rw [e2]; exact Blk.new _ _ _
  have HC := Kp.mk (ref_all pa n pc P qa m qc V w2 (h.later b2) (h2.later b2) 0 (-1) hA)
  have E2 := Kp.mk e2
  have BW := Kp.mk b2
  have Z2 := Kp.mk z2
  have hz := zvErr
  have hg : n = m ∧ AllGood P V n := by
    rcases allE_cases hA with ⟨h, _⟩ | ⟨_, _, h1, h2⟩
    · exact absurd rfl h
    · exact ⟨h1, h2⟩
  obtain ⟨hnm, hgood⟩ := hg
  have HG := Kp.mk hgood
  have H1 := Kp.mk (h.later b2)
  have H2 := Kp.mk (h2.later b2)
  have HMX := Kp.mk hM
  have hn := h.bound
  subst hnm
  clear h h2 hA hgood e2 b2 z2 hM
  go_enter Tryd.func47, Tryd.ntmps47
  go_wp2_with fail
  rw [← E2.out]
  refine HC.out.mono ?_
  rintro e w1 ⟨rfl, hb⟩
  obtain ⟨w9, e9⟩ : ∃ w9, w9 = w1.alloc (.cells #[.int .i64 0, .int .i64 (-1)] 89) := ⟨_, rfl⟩
  have b9 : Below w2.heap.size w2 w9 := by rw [e9]; exact hb.alloc hb.size _
  have B1 := Kp.mk b9
  have E9 := Kp.mk e9
  clear hb b9 e9 HC
  go_wp2_with fail
  rw [← E9.out]
  go_loopw [8, 9, 10] (fun ov dv iv wr => ∃ i : Nat, i ≤ n ∧ iv = .int .i64 (i : Int) ∧ Kp (∃ U, ArrI w2 wr 101 2 (outS P V) i ov (rowsM (outM P V i)) dv U)) (fun _ _ iv _ => n - (intOf iv).toNat)
  case atStart => exact ⟨0, by omega, rfl, ⟨⟨V, ArrI.first (OwnPo.nil _ _ _) (fun j hj => by omega) B1.out⟩⟩⟩
  case round =>
    obtain ⟨i, hi, rfl, HL⟩ := hrel
    by_cases hlt : i < n
    · obtain ⟨U, hI⟩ := HL.out
      obtain ⟨oa, oc, rfl⟩ := hI.po.shape
      obtain ⟨da, dc, dm, hdm, rfl⟩ := hI.dr.shape
      have hb' : decide ((i : Int) < n) = true := decide_eq_true (by omega)
      have hb1 : (0 : Int) ≤ (i : Int) := by omega
      have hb2 : (i : Int) < (n : Int) := by omega
      obtain ⟨b, off, ha, c0, c1, c2, c3⟩ := (H1.out.later hI.below).at i hlt
      obtain ⟨b', off', ha', q0, q1⟩ := H2.out.at i hlt
      have hrd := H2.out.rd i hlt
      have hgi := HG.out i hlt
      have hSi : outS P V i = bif inK (P i).kind then ⟨(V i).l, (V i).g⟩ else ⟨[], 0⟩ := rfl
      have hMi := outM_succ P V i
      have hML := outM_len HG.out i hi
      obtain ⟨⟨k, s, d, r⟩, hp⟩ : ∃ p, p = P i := ⟨_, rfl⟩
      obtain ⟨⟨va, vm, vc, vg, vl⟩, hv⟩ : ∃ v, v = V i := ⟨_, rfl⟩
      rw [← hp] at c0 c1 c2 c3 hSi hgi hMi
      rw [← hv] at q0 q1 hrd hSi hgi hMi
      have c0 : wr.cell? ⟨b, off + i * 4, none⟩ = some (.int .i64 k) := c0
      have c1 : wr.cell? ⟨b, off + i * 4 + 1, none⟩ = some (.int .i64 s) := c1
      have c2 : wr.cell? ⟨b, off + i * 4 + 2, none⟩ = some (.int .i64 d) := c2
      have c3 : wr.cell? ⟨b, off + i * 4 + 3, none⟩ = some (.int .i64 r) := c3
      have q0 : w2.cell? ⟨b', off' + i * 2, none⟩ = some (.slice va vm vc) := q0
      have q1 : w2.cell? ⟨b', off' + i * 2 + 1, none⟩ = some (.int .i64 vg) := q1
      have hrd : RdS w2 va vm vc vl := hrd
      have SQ : Kp (∀ v, Below w2.heap.size w2 v → v.cell? ⟨b', off' + i * 2, none⟩ = some (.slice va vm vc) ∧ v.cell? ⟨b', off' + i * 2 + 1, none⟩ = some (.int .i64 vg)) := ⟨fun v hv => ⟨scell_later hv q0, scell_later hv q1⟩⟩
      have HR := Kp.mk hrd
      have HI := Kp.mk hI
      have HSI := Kp.mk hSi
      have HMI := Kp.mk hMi
      have HML := Kp.mk hML
      have HSM := Kp.mk (good_sm hgi)
      have HIS : Kp (Calls Tryd.prog 60 #[.agg (rowK k s d r)] wr fun e w' => e = .returned (.bool (inK k)) ∧ Below wr.heap.size wr w') := ⟨ref_isIn ⟨k, s, d, r⟩ wr⟩
      have hzq := zvPort
      have hzm := zvMsg
      subst ha
      subst ha'
      clear hp hv hrd hgi hSi hMi hML hI HL hdm q0 q1
      by_cases hkin : inK k = true
      · have HSI2 : Kp (vl = (outS P V i).l ∧ vg = (outS P V i).g) := ⟨by rw [HSI.out]; show vl = (bif inK k then _ else _ : PortS).l ∧ vg = (bif inK k then _ else _ : PortS).g; rw [hkin]; exact ⟨rfl, rfl⟩⟩
        have HNX : Kp (outM P V (i + 1) = outM P V i) := ⟨by rw [HMI.out]; show outM P V i ++ heldM i (bif inK k then [] else vl) (bif inK k then [] else vl).length = _; rw [hkin]; unfold heldM; simp⟩
        rw [hkin] at HIS
        clear hkin
        go_wp2_with fail
        refine HIS.out.mono ?_
        rintro e w5 ⟨rfl, hb5⟩
        have I5 := Kp.mk (HI.out.later hb5)
        have BA : Kp (Below w5.heap.size w5 (w5.drew.alloc (.cells #[] 9))) := ⟨(Drew.once w5).below.alloc (Drew.once w5).below.size _⟩
        obtain ⟨q0, q1⟩ := SQ.out w5 I5.out.below
        have hvm : vm ≤ 8796093022208 := HR.out.bound
        have BI := Kp.mk I5.out.below
        have BT : Kp (∀ v, Below w5.heap.size w5 v → Below w2.heap.size w2 v) := ⟨fun v hv => BI.out.trans (hv.mono BI.out.size)⟩
        have BM : Kp (w2.heap.size ≤ w5.heap.size) := ⟨BI.out.size⟩
        clear hb5 c0 c1 c2 c3 HIS
        go_wp2_with fail
        go_region_held3 (fun v => v.cell? ⟨b', off' + i * 2, none⟩ = some (.slice va vm vc) ∧ v.cell? ⟨b', off' + i * 2 + 1, none⟩ = some (.int .i64 vg)) (first | exact SQ.out _ (BT.out _ (Drew.once _).below) | exact SQ.out _ (BT.out _ BA.out) | exact SQ.out _ (BT.out _ HX.out) | exact SQ.out _ (BT.out _ (HX.out.alloc HX.out.size _)) | exact SQ.out _ HY.out)
          (first
            | (refine step_append_full rfl (.tmp 31) (.tmp 36) rfl (some ⟨w5.heap.size, 0, none⟩) 0 [] (by first | rfl | simp [Act.eval, Act.put]) (rdEmpty _ _) va vm vc vl (by first | rfl | simp [Act.eval, Act.put]) (HR.out.later (BT.out _ BA.out)) (by omega) w5.heap.size BA.out.size (fun _ => (Blk.new w5.drew #[] 9).ownNil (Nat.le_refl _)) ?_; intro v w3 ho hb _; obtain ⟨a', c', m', hm', rfl⟩ := ho.shapeN; have HX := Kp.mk (BA.out.trans (hb.mono BA.out.size)); have HO := Kp.mk ho; have I3 := Kp.mk (I5.out.later HX.out); have NF : Kp (∀ b, (Value.slice oa i oc).ownBlock = some b → (Value.slice a' m' c').ownBlock ≠ some b) := ⟨fun b hb1 e1 => by have h1 := (ownS_in HO.out e1).1; have h2 := (I5.out.po.lt hb1).2; omega⟩; clear hb ho)
            | (refine step_append_port rfl (.tmp 30) (.tmp 44) rfl w2.heap.size (.slice oa i oc) i U (by first | rfl | simp [Act.eval, Act.put]) I3.out.po ⟨a', m', c', vg, vl⟩ (by have := HO.out.mono (B' := w2.heap.size) (by have := BM.out; first | exact this | (simp; omega)); simpa using this) NF.out (by first | rfl | simp [Act.eval, Act.put]) (by omega) I3.out.below.size ?_; intro v8 w8 ho8 hb8 hg8 h48; have HY : Kp (Below w2.heap.size w2 w8) := ⟨I3.out.below.trans hb8⟩; have IM : Kp (∃ U, ArrI w2 w8 101 2 (outS P V) (i + 1) v8 (rowsM (outM P V (i + 1))) (.slice da dm dc) U) := ⟨⟨pupd U i ⟨a', m', c', vg, vl⟩, by
                rw [HNX.out]
                exact I3.out.port ⟨a', m', c', vg, vl⟩ ho8 HSI2.out.1 HSI2.out.2 hg8 hb8 h48 fun b hb1 e1 => by
                  have h1 := (ownS_in HO.out e1).1
                  have h2 := (I5.out.dr.lt hb1).2
                  omega⟩⟩; clear ho8 hb8 hg8 h48))
        all_goals (
          clear SQ q0 q1
          go_wp2_with fail
          go_roundw
          case rel => exact ⟨i + 1, by omega, by go_num, IM⟩
          case measure => simp [intOf]; omega)
      · have hkf : inK k = false := by simpa using hkin
        have HSI2 : Kp (([] : List ByteArray) = (outS P V i).l ∧ (0 : Int) = (outS P V i).g) := ⟨by rw [HSI.out]; show [] = (bif inK k then _ else _ : PortS).l ∧ 0 = (bif inK k then _ else _ : PortS).g; rw [hkf]; exact ⟨rfl, rfl⟩⟩
        have HNX : Kp (outM P V (i + 1) = outM P V i ++ heldM i vl vl.length) := ⟨by rw [HMI.out]; show outM P V i ++ heldM i (bif inK k then [] else vl) (bif inK k then [] else vl).length = _; rw [hkf]; rfl⟩
        rw [hkf] at HIS
        clear hkin hkf
        go_wp2_with fail
        refine HIS.out.mono ?_
        rintro e w5 ⟨rfl, hb5⟩
        have I5 := Kp.mk (HI.out.later hb5)
        clear hb5 c0 c1 c2 c3 HIS
        go_wp2_with (at_builtin; refine append_port rfl (.tmp 46) (.tmp 48) rfl w2.heap.size _ i U rfl I5.out.po ⟨none, 0, 0, 0, []⟩ (OwnS.nil _ _) (fun b _ e1 => by simp [Value.ownBlock] at e1) rfl (by omega) I5.out.below.size ?_; rintro v8 w8 ho8 hb8 hg8 h48)
        have EM : Kp (∃ U, ArrI w2 w8 101 2 (outS P V) (i + 1) v8 (rowsM (outM P V i ++ heldM i vl 0)) (.slice da dm dc) U) := ⟨⟨pupd U i ⟨none, 0, 0, 0, []⟩, by
          have h1 : rowsM (outM P V i ++ heldM i vl 0) = rowsM (outM P V i) := by unfold heldM; simp
          rw [h1]
          exact I5.out.port ⟨none, 0, 0, 0, []⟩ ho8 HSI2.out.1 HSI2.out.2 hg8 hb8 h48 fun b hb1 e1 => by simp [Value.ownBlock] at e1⟩⟩
        clear ho8 hb8 hg8 h48
        have HLEN : Kp (vl.length = vm) := ⟨HR.out.len⟩
        have h85 : vm ≤ 8 := by rw [← HLEN.out]; exact HSM.out.1
        obtain ⟨w9, ew9⟩ : ∃ x : World, x = w8 := ⟨_, rfl⟩
        subst ew9
        go_wp2_with fail
        go_loopw [9, 11] (fun dv jv wr => ∃ j : Nat, j ≤ vm ∧ jv = .int .i64 (j : Int) ∧ Kp (∃ U, ArrI w2 wr 101 2 (outS P V) (i + 1) v8 (rowsM (outM P V i ++ heldM i vl j)) dv U)) (fun _ jv _ => vm - (intOf jv).toNat)
        case atStart => exact ⟨0, by omega, rfl, EM⟩
        case round =>
          obtain ⟨j, hj, rfl, HJ⟩ := hrel
          obtain ⟨U7, hJ⟩ := HJ.out
          obtain ⟨q0, q1⟩ := SQ.out wr hJ.below
          by_cases hlj : j < vm
          · have t1 : decide ((j : Int) < vm) = true := decide_eq_true (by omega)
            have t2 : (0 : Int) ≤ (j : Int) := by omega
            have t3 : (j : Int) < (vm : Int) := by omega
            have hrs := HR.out.later hJ.below
            obtain ⟨yb, yo, hya, hyc⟩ := hrs.cells (by omega)
            have y0 := hyc j hlj
            obtain ⟨sj, hsj⟩ : ∃ s, s = vl.getD j noS := ⟨_, rfl⟩
            rw [← hsj] at y0
            have HSJ := Kp.mk hsj
            have HJ2 := Kp.mk hJ
            have hdl : (rowsM (outM P V i ++ heldM i vl j)).length + 1 ≤ 5864062014805 := by
              unfold rowsM
              rw [List.length_map, List.length_append]
              have h1 := heldM_len i vl j
              have h2 := HML.out
              have h3 := HLEN.out
              have h4 := HMX.out
              omega
            have HDL := Kp.mk hdl
            subst hya
            clear hrs hyc hsj hJ HJ hdl
            go_wp2_with (at_builtin; refine append_row rfl (.tmp 60) (.tmp 71) 43 101 2 24 _ rfl Tryd.underlying43 infoMsg rfl (by decide) w2.heap.size _ _ rfl HJ2.out.dr _ rfl (by intro u hu; simp at hu; rcases hu with rfl | rfl <;> rfl) rfl (by unfold maxLen; have := HDL.out; omega) (by have := HDL.out; omega) HJ2.out.below.size ?_; rintro dv' w6 hr6 hg6 hb6 h46)
            have J6 : Kp (∃ U, ArrI w2 w6 101 2 (outS P V) (i + 1) v8 (rowsM (outM P V i ++ heldM i vl (j + 1))) dv' U) := ⟨⟨U7, by
              rw [heldM_more i vl j (by rw [HLEN.out]; exact hlj), ← List.append_assoc, rowsM_append]
              exact HJ2.out.more (by rw [← HSJ.out]; exact hr6) hg6 hb6 h46⟩⟩
            clear hr6 hg6 hb6 h46
            go_roundw
            case rel => exact ⟨j + 1, by omega, by go_num, J6⟩
            case measure => simp [intOf]; omega
          · have hjm : j = vm := by omega
            have HI9 : Kp (∃ U, ArrI w2 wr 101 2 (outS P V) (i + 1) v8 (rowsM (outM P V (i + 1))) _ U) := ⟨⟨U7, by rw [HNX.out, HLEN.out, ← hjm]; exact hJ⟩⟩
            subst hjm
            have t1 : decide ((j : Int) < j) = false := by simp
            clear hJ HJ EM
            go_wp2_with fail
            go_roundw
            case rel => exact ⟨i + 1, by omega, by go_num, HI9⟩
            case measure => simp [intOf]; omega
    · have : i = n := by omega
      subst this
      have hb' : decide ((i : Int) < i) = false := by simp
      obtain ⟨U, hI⟩ := HL.out
      have HI := Kp.mk hI
      clear hI HL
      have HN := Kp.mk (ref_none wr)
      go_wp2_with fail
      refine HN.out.mono ?_
      rintro e w3 ⟨rfl, hb3⟩
      have I3 := Kp.mk (HI.out.later hb3)
      have HB3 := Kp.mk I3.out.below
      have z0 := (Z2.out.later HB3.out).cell 0 _ rfl
      have z1 := (Z2.out.later HB3.out).cell 1 _ rfl
      have f0 := (Z2.out.later HB3.out).free 0
      have f1 := (Z2.out.later HB3.out).free 1
      have HZ := Kp.mk ((Z2.out.later HB3.out).set2 (.int .i64 0) (.int .i64 (-1)))
      have HR3 := Kp.mk (I3.out.ret BW.out Z2.out.lt (.int .i64 0) (.int .i64 (-1)))
      clear hb3 HI
      go_wp2_with fail
      refine bodyPost_ret (res3c (p := 6) (q := 4) (r := 5) (ty := 89) rfl _ rfl HZ.out _ Tryd.underlying89 (errInfo _ rfl)) rfl ⟨_, _, U, rfl, HR3.out⟩
end Go.Proofs.YtjlgnbjfgeppcaaDoor
