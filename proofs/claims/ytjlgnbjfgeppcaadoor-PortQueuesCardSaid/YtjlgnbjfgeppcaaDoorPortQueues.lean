/- PortQueues, walked. -/
import Derived.Test.YtjlgnbjfgeppcaaDoorQueuePure
namespace Go.Proofs.YtjlgnbjfgeppcaaDoor
open Go Go.RowKit
set_option linter.unusedVariables false
attribute [local go_sem ↓] Go.wp_at_zero Go.wp_at_succ

theorem block_gen {b : Nat} {Q : Exit → Act → World → Prop} {e : Exit} {a : Act} {W : World} (F : World → Prop) (hF : F W) (h : ∀ W', F W' → Exit.inBlock b Q e a W') : Exit.inBlock b Q e a W := h W hF
def LoopQ (w wr : World) (p : PortP) (qb : Nat) (lv av : Value) (i : Nat) : Prop :=
  ∃ ag L g qa qm qc la lm lc, av = .int .i64 ag ∧ lv = .slice la lm lc ∧ QI w wr p qb la lm lc ag i L g qa qm qc
theorem check_good (A : Nat → Addr) {w wr : World} {k s d r : Int} {qb : Nat} {la : Option Addr} {lm lc : Nat} {ag : Int} {i : Nat} {L : List ByteArray} {g : Int} {qa : Option Addr} {qm qc : Nat} (h : QI w wr ⟨k, s, d, r⟩ qb la lm lc ag i L g qa qm qc) (hE : Errs wr [4, 7, 8, 9, 11] A) :
    Calls Tryd.prog 14 #[.agg (rowK k s d r), .agg (portA qa qm qc g)] wr fun e w' => e = .returned .nilIface ∧ Below wr.heap.size wr w' :=
  (port_check A ⟨k, s, d, r⟩ qa qm qc L g wr h.rd hE).mono fun e w' ⟨h1, h2⟩ => ⟨by rw [h1, h.good]; rfl, h2⟩
theorem put_fails (p : PortP) (D : ByteArray) (h : planC p ≠ 0 ∨ inK p.kind = false) : addC p [] 0 D (inK p.kind) ≠ 0 := by
  by_cases hc : portC p [] 0 = 0
  · have hp := portC_plan0 hc
    rcases h with h | h
    · exact absurd hp h
    · rw [h, addC_kind hc]; decide
  · rw [addC_bad hc]; exact hc
theorem qi_start {w w3 : World} {p : PortP} (hb : Below w.heap.size w w3) (hp : PlanAt w3 w.heap.size p) (hpc : planC p = 0) (hl : w.heap.size < w3.heap.size) :
    QI w (w3.alloc (.cells (portA none 0 0 0) 29)) p w3.heap.size none 0 0 0 0 [] 0 none 0 0 :=
  ⟨hb.alloc hb.size _, hp.later (below_alloc _ _), Blk.new _ _ _, OwnS.nil _ _, OwnO.nil _ _, (fun b h => by simp [Value.ownBlock] at h), (by simp [Value.ownBlock]), (by simp [Value.ownBlock]), hl,
   portC_fit hpc (fitsP_mk (by have := (planC_zero hpc).2.2.2.2.1; simp; omega) (by omega) (by omega) (.inl rfl) rfl), by omega, by omega, fun _ h => absurd rfl h⟩
theorem zvStep (w : World) : (zeroValue 35).run Tryd.prog w = .ok (.agg #[.int .i64 0, .string noS]) w := by kernel_rfl
set_option maxRecDepth 100000 in
set_option maxHeartbeats 32000000 in
theorem queues_1 (A : Nat → Addr) (s d r : Int) (a : Option Addr) (n cap : Nat) (C : Nat → StepV) (w : World) (h : RdT w a n cap C) (hE : Errs w allCodes A) (hpc : planC ⟨1, s, d, r⟩ = 0) :
    Calls Tryd.prog 3 #[.agg (rowK 1 s d r), .slice a n cap] w fun e w' => e = .returned (.bool true) ∧ Below w.heap.size w w' := by
  obtain ⟨w1, e1, p1, b1⟩ := plan_box w 1 s d r
  have hn := h.bound
  have HT0 := Kp.mk h
  have HE := Kp.mk hE
  have HPC := Kp.mk hpc
  have HF := Kp.mk (law_fixed A w1 (hE.later b1))
  have E1 := Kp.mk e1
  have P1 := Kp.mk p1
  have B1 := Kp.mk b1
  clear h hE hpc e1 p1 b1
  go_enter Tryd.func3, Tryd.ntmps3
  go_wp2_with fail
  rw [← E1.out]
  refine HF.out.mono ?_
  rintro e w2 ⟨rfl, hb⟩
  have P2 := Kp.mk (P1.out.later hb)
  have B2 := Kp.mk (B1.out.trans (hb.mono B1.out.size))
  have L2 : Kp (w.heap.size < w2.heap.size) := ⟨World.block_lt_of_cell? w2 ⟨w.heap.size, 0, none⟩ P2.out.c0⟩
  have HCP := Kp.mk (ref_checkPlan ⟨1, s, d, r⟩ w2)
  rw [HPC.out] at HCP
  clear hb HF E1 P1 B1
  obtain ⟨c0, c1, c2, c3⟩ := plan4 P2.out
  go_wp2_with fail
  refine HCP.out.mono ?_
  rintro e w3 ⟨rfl, hb⟩
  have P3 := Kp.mk (P2.out.later hb)
  have B3 := Kp.mk (B2.out.trans (hb.mono B2.out.size))
  have IQ := Kp.mk (qi_start B3.out P3.out HPC.out (Nat.lt_of_lt_of_le L2.out hb.size))
  obtain ⟨wq, eq⟩ : ∃ wq, wq = w3.alloc (.cells (portA none 0 0 0) 29) := ⟨_, rfl⟩
  rw [← eq] at IQ
  have EQ := Kp.mk eq
  clear hb c0 c1 c2 c3 HCP P2 B2 eq
  obtain ⟨c0, c1, c2, c3⟩ := plan4 P3.out
  have hzs := zvStep
  have hzp := zvPort
  go_wp2_with fail
  rw [← EQ.out]
  clear c0 c1 c2 c3 EQ
  generalize w3.heap.size = qb at IQ ⊢
  clear P3 B3
  go_loopw [8, 9, 10] (fun lv av iv wr => ∃ i : Nat, i ≤ n ∧ iv = .int .i64 (i : Int) ∧ Kp (LoopQ w wr ⟨1, s, d, r⟩ qb lv av i)) (fun _ _ iv _ => n - (intOf iv).toNat)
  case atStart => exact ⟨0, by omega, rfl, ⟨⟨0, [], 0, none, 0, 0, none, 0, 0, rfl, rfl, IQ.out⟩⟩⟩
  case round =>
    obtain ⟨i, hi, rfl, H⟩ := hrel
    obtain ⟨ag, L, g, qa, qm, qc, la, lm, lc, rfl, rfl, I0⟩ := H.out
    have I := Kp.mk I0
    clear H I0
    by_cases hlt : i < n
    · have hb : decide ((i : Int) < n) = true := decide_eq_true (by omega)
      have hb1 : (0 : Int) ≤ (i : Int) := by omega
      have hb2 : (i : Int) < (n : Int) := by omega
      obtain ⟨sb, so, hsa, hsc⟩ := (HT0.out.later I.out.below).cells (by omega)
      have hss := HT0.out.fits i hlt
      have hsr := hsc i hlt
      obtain ⟨κ, hκ⟩ : ∃ κ, κ = (C i).kind := ⟨_, rfl⟩
      obtain ⟨S, hS⟩ : ∃ S, S = (C i).s := ⟨_, rfl⟩
      have k0 := hsr 0 _ rfl
      have k1 := hsr 1 _ rfl
      rw [Nat.add_zero, ← hκ] at k0
      rw [← hS] at k1 hss
      have HSS := Kp.mk hss
      subst hsa
      clear hsc hss hsr hκ hS
      have hlen := I.out.lens.2.1
      have HLL := Kp.mk hlen
      clear hlen
      by_cases h1 : κ = 1
      · subst h1
        by_cases hs : s < (S.size : Int)
        · have hsl : decide ((S.size : Int) > s) = true := decide_eq_true hs
          have HADD : Kp (addC ⟨1, s, d, r⟩ L g S true ≠ 0) := ⟨by rw [addC_size I.out.good hs]; omega⟩
          clear hs
          obtain ⟨w1, e1⟩ : ∃ w1, w1 = wr.alloc (.cells #[.int .i64 1, .string S] 35) := ⟨_, rfl⟩
          have b1 : Below wr.heap.size wr w1 := by rw [e1]; exact below_alloc _ _
          have O1 : Kp (Blk w1 wr.heap.size #[.int .i64 1, .string S] 35) := ⟨by rw [e1]; exact Blk.new _ _ _⟩
          have I1 := Kp.mk (I.out.later b1)
          have s1 : Kp (w1.heap.size = wr.heap.size + 1) := ⟨by rw [e1]; simp⟩
          have E1 := Kp.mk e1
          clear b1 e1
          obtain ⟨c0, c1, c2, c3⟩ := plan4 I.out.plan
          have q0 := I.out.q.cell 0 _ rfl
          have q1 := I.out.q.cell 1 _ rfl
          have lq := I.out.q.lt
          have lp : w.heap.size < wr.heap.size := Nat.lt_trans I.out.qlt lq
          have CP : Kp (Calls Tryd.prog 11 #[.agg (rowK 1 s d r), .agg (portA qa qm qc g), .string S] w1 fun e w' => ∃ v, e = .returned (.tuple #[.agg #[v, .int .i64 0], errOf A (addC ⟨1, s, d, r⟩ L g S true)]) ∧ OwnS w' w1.heap.size v (addL ⟨1, s, d, r⟩ L g S true) ∧ Below w1.heap.size w1 w') := ⟨port_put A ⟨1, s, d, r⟩ qa qm qc L g S w1 I1.out.rd HSS.out ((HE.out.later I1.out.below).sub (by decide))⟩
          obtain ⟨ec, hec⟩ : ∃ ec, addC ⟨1, s, d, r⟩ L g S true = ec + 1 := ⟨addC ⟨1, s, d, r⟩ L g S true - 1, by have := HADD.out; omega⟩
          rw [hec] at CP
          have hev : errOf A (ec + 1) = errv (A (ec + 1)) := rfl
          rw [hev] at CP
          clear hec hev
          go_wp2_with fail
          rw [← E1.out]
          refine CP.out.mono ?_
          rintro e w2 ⟨v, rfl, ho, hb⟩
          obtain ⟨na, nc, nm, hnm, rfl⟩ := ho.shapeN
          obtain ⟨w3, e3⟩ : ∃ w3, w3 = w2.alloc (.cells #[.slice na nm nc, .int .i64 (0)] 29) := ⟨_, rfl⟩
          have b3 : Below w2.heap.size w2 w3 := by rw [e3]; exact below_alloc _ _
          have hb3 := hb.trans (b3.mono hb.size)
          have I3 := Kp.mk (I1.out.later hb3)
          have O3 := Kp.mk (O1.out.later hb3)
          have N3 : Kp (Blk w3 w2.heap.size #[.slice na nm nc, .int .i64 (0)] 29) := ⟨by rw [e3]; exact Blk.new _ _ _⟩
          have NO := Kp.mk (ho.later b3)
          have NL : Kp (w1.heap.size ≤ w2.heap.size) := ⟨hb.size⟩
          have E3 := Kp.mk e3
          clear c0 c1 c2 c3 q0 q1 lq lp hb b3 hb3 ho e3
          obtain ⟨c0, c1, c2, c3⟩ := plan4 I3.out.plan
          have o0 := O3.out.cell 0 _ rfl
          have o1 := O3.out.cell 1 _ rfl
          have n0 := N3.out.cell 0 _ rfl
          have n1 := N3.out.cell 1 _ rfl
          go_wp2_with fail
          rw [← E3.out]
          go_quiet (fail)
          have IF := Kp.mk (I3.out.later (Drew.below ⟨nq, rfl⟩))
          clear c0 c1 c2 c3 o0 o1 n0 n1
          go_wp2_with fail
          go_roundw
          case rel => exact ⟨i + 1, by omega, by go_num, ⟨⟨_, _, _, _, _, _, _, _, _, rfl, rfl, IF.out.next⟩⟩⟩
          case measure => simp [intOf]; omega
        have hsl : decide ((S.size : Int) > s) = false := decide_eq_false hs
        have HADD : Kp (addC ⟨1, s, d, r⟩ L g S true = 0) := ⟨addC_one I.out.good hs (show (1 : Int) ≤ 2 by decide)⟩
        have HAL : Kp (addL ⟨1, s, d, r⟩ L g S true = [] ++ [S]) := ⟨addL_one HADD.out (show (1 : Int) ≤ 2 by decide)⟩
        have HGD : Kp (portC ⟨1, s, d, r⟩ ([] ++ [S]) 0 = 0) := ⟨by rw [← HAL.out]; exact add_good HADD.out⟩
        clear hs 
        obtain ⟨w1, e1⟩ : ∃ w1, w1 = wr.alloc (.cells #[.int .i64 1, .string S] 35) := ⟨_, rfl⟩
        have b1 : Below wr.heap.size wr w1 := by rw [e1]; exact below_alloc _ _
        have O1 : Kp (Blk w1 wr.heap.size #[.int .i64 1, .string S] 35) := ⟨by rw [e1]; exact Blk.new _ _ _⟩
        have I1 := Kp.mk (I.out.later b1)
        have s1 : Kp (w1.heap.size = wr.heap.size + 1) := ⟨by rw [e1]; simp⟩
        have E1 := Kp.mk e1
        clear b1 e1
        obtain ⟨c0, c1, c2, c3⟩ := plan4 I.out.plan
        have q0 := I.out.q.cell 0 _ rfl
        have q1 := I.out.q.cell 1 _ rfl
        have lq := I.out.q.lt
        have lp : w.heap.size < wr.heap.size := Nat.lt_trans I.out.qlt lq
        have CP : Kp (Calls Tryd.prog 11 #[.agg (rowK 1 s d r), .agg (portA qa qm qc g), .string S] w1 fun e w' => ∃ v, e = .returned (.tuple #[.agg #[v, .int .i64 0], errOf A (addC ⟨1, s, d, r⟩ L g S true)]) ∧ OwnS w' w1.heap.size v (addL ⟨1, s, d, r⟩ L g S true) ∧ Below w1.heap.size w1 w') := ⟨port_put A ⟨1, s, d, r⟩ qa qm qc L g S w1 I1.out.rd HSS.out ((HE.out.later I1.out.below).sub (by decide))⟩
        rw [HADD.out] at CP
        go_wp2_with fail
        rw [← E1.out]
        refine CP.out.mono ?_
        rintro e w2 ⟨v, rfl, ho, hb⟩
        obtain ⟨na, nc, nm, hnm, rfl⟩ := ho.shapeN
        obtain ⟨w3, e3⟩ : ∃ w3, w3 = w2.alloc (.cells #[.slice na nm nc, .int .i64 (0)] 29) := ⟨_, rfl⟩
        have b3 : Below w2.heap.size w2 w3 := by rw [e3]; exact below_alloc _ _
        have hb3 := hb.trans (b3.mono hb.size)
        have I3 := Kp.mk (I1.out.later hb3)
        have O3 := Kp.mk (O1.out.later hb3)
        have N3 : Kp (Blk w3 w2.heap.size #[.slice na nm nc, .int .i64 (0)] 29) := ⟨by rw [e3]; exact Blk.new _ _ _⟩
        have NO := Kp.mk (ho.later b3)
        have NL : Kp (w1.heap.size ≤ w2.heap.size) := ⟨hb.size⟩
        have E3 := Kp.mk e3
        clear c0 c1 c2 c3 q0 q1 lq lp hb b3 hb3 ho e3
        obtain ⟨c0, c1, c2, c3⟩ := plan4 I3.out.plan
        have o0 := O3.out.cell 0 _ rfl
        have o1 := O3.out.cell 1 _ rfl
        have n0 := N3.out.cell 0 _ rfl
        have n1 := N3.out.cell 1 _ rfl
        have hnil : errOf A 0 = Value.nilIface := rfl
        simp only [hnil]
        clear hnil
        go_wp2_with fail
        rw [← E3.out]
        go_quiet (fail)
        obtain ⟨w4, e4⟩ : ∃ w4, w4 = w3.drewN nq := ⟨_, rfl⟩
        have b4 : Below w3.heap.size w3 w4 := by rw [e4]; exact Drew.below ⟨nq, rfl⟩
        have I4 := Kp.mk (I3.out.later b4)
        have O4 := Kp.mk (O3.out.later b4)
        have N4 := Kp.mk (N3.out.later b4)
        have NO4 := Kp.mk (NO.out.later b4)
        rw [← e4]
        clear c0 c1 c2 c3 o0 o1 n0 n1 b4 e4
        obtain ⟨c0, c1, c2, c3⟩ := plan4 I4.out.plan
        have o0 := O4.out.cell 0 _ rfl
        have o1 := O4.out.cell 1 _ rfl
        have n0 := N4.out.cell 0 _ rfl
        have n1 := N4.out.cell 1 _ rfl
        have HLV : Kp (∀ k, (Value.slice la lm lc).ownBlock = some k → w.heap.size < k ∧ k ≠ qb ∧ k ≠ wr.heap.size ∧ k ≠ w2.heap.size) := ⟨fun k hk => by
          have h1 := I.out.line.lt hk
          refine ⟨by omega, fun e => I.out.lfar (by rw [hk, e]), by omega, ?_⟩
          have := NL.out
          have := s1.out
          omega⟩
        have HLW : Kp (∀ k, (Value.slice la lm lc).ownBlock = some k → k < w1.heap.size ∧ k ≠ qb) := ⟨fun k hk => by
          have h1 := I.out.line.lt hk
          have := s1.out
          exact ⟨by omega, fun e => I.out.lfar (by rw [hk, e])⟩⟩
        have HQB : Kp (qb < w1.heap.size ∧ w.heap.size + 1 ≤ w1.heap.size) := ⟨by have := I.out.q.lt; have := I.out.qlt; have := s1.out; omega⟩
        have HNE : Kp (wr.heap.size ≠ qb ∧ w2.heap.size ≠ qb) := ⟨by have := I.out.q.lt; have := NL.out; have := s1.out; omega⟩
        have SQ : Kp (∀ v, Below w4.heap.size w4 v → v.cell? ⟨wr.heap.size, 1, none⟩ = some (.string S) ∧ v.cell? ⟨w2.heap.size, 0, none⟩ = some (.slice na nm nc) ∧ v.cell? ⟨w2.heap.size, 1, none⟩ = some (.int .i64 0)) := ⟨fun v hv => ⟨(O4.out.later hv).cell 1 _ rfl, (N4.out.later hv).cell 0 _ rfl, (N4.out.later hv).cell 1 _ rfl⟩⟩
        have HB4 : Kp (w.heap.size + 1 ≤ w4.heap.size) := ⟨Nat.lt_of_lt_of_le I4.out.qlt (Nat.le_of_lt I4.out.q.lt)⟩
        go_wp2_with fail
        go_region_held3 (fun v => v.cell? ⟨wr.heap.size, 1, none⟩ = some (.string S) ∧ v.cell? ⟨w2.heap.size, 0, none⟩ = some (.slice na nm nc) ∧ v.cell? ⟨w2.heap.size, 1, none⟩ = some (.int .i64 0)) (first | exact SQ.out _ (Drew.once _).below | exact SQ.out _ (bl1 _ _ _) | exact SQ.out _ (bl3 _ _ _) | exact HX.out.1 | exact HX.out.2)
          (first
            | ((refine step_append_line rfl (.tmp 93) (.tmp 96) rfl (w.heap.size + 1) (.slice none 0 0) [] (by first | rfl | simp [Act.eval, Act.put]) ((OwnO.nil w4 (w.heap.size + 1)).later (bl1 w4 #[.string S] 9)) ⟨w4.heap.size, 0, none⟩ S (by first | rfl | simp [Act.eval, Act.put]) ((new1 w4 #[.string S] 9).cell 0 _ rfl) HSS.out (by simp) (by simp) (Nat.le_trans HB4.out (bl1 w4 #[.string S] 9).size) ?_); intro v w5 hlo hgr hor; obtain ⟨la5, lc5, lm5, hlm5, rfl⟩ := hlo.shape; have G := Kp.mk (grew (lv := .slice none 0 0) I4.out.below I4.out.plan I4.out.q O4.out N4.out (bl1 w4 #[.string S] 9) hgr (fun k hk => by simp [Value.ownBlock] at hk) I4.out.qlt); have QF := Kp.mk (grew_qi (i := i) (lv := .slice none 0 0) G.out (bl1 w4 #[.string S] 9) hgr hlo hor (fun k hk => by simp [Value.ownBlock] at hk) HQB.out.1 HQB.out.2 I4.out.q.lt (show OwnS w4 w1.heap.size (.slice na nm nc) ([] ++ [S]) by have h := NO4.out; rw [HAL.out] at h; exact h) I4.out.qlt HGD.out); have HX := Kp.mk (And.intro (And.intro (G.out.o.cell 1 _ rfl) (And.intro (G.out.n.cell 0 _ rfl) (G.out.n.cell 1 _ rfl))) (And.intro ((G.out.o.other2 qb (.slice na nm nc) (.int .i64 0) HNE.out.1).cell 1 _ rfl) (And.intro ((G.out.n.other2 qb (.slice na nm nc) (.int .i64 0) HNE.out.2).cell 0 _ rfl) ((G.out.n.other2 qb (.slice na nm nc) (.int .i64 0) HNE.out.2).cell 1 _ rfl)))); have z0 := G.out.q.cell 0 _ rfl; have z1 := G.out.q.cell 1 _ rfl; have f0 := G.out.q.free 0; have f1 := G.out.q.free 1; clear hlo hgr hor)
            | ((refine step_append_line rfl (.tmp 93) (.tmp 96) rfl (w.heap.size + 1) (.slice none 0 0) [] (by first | rfl | simp [Act.eval, Act.put]) ((OwnO.nil w4 (w.heap.size + 1)).later (bl3 w4 #[.string S] 9)) ⟨w4.heap.size, 0, none⟩ S (by first | rfl | simp [Act.eval, Act.put]) ((new3 w4 #[.string S] 9).cell 0 _ rfl) HSS.out (by simp) (by simp) (Nat.le_trans HB4.out (bl3 w4 #[.string S] 9).size) ?_); intro v w5 hlo hgr hor; obtain ⟨la5, lc5, lm5, hlm5, rfl⟩ := hlo.shape; have G := Kp.mk (grew (lv := .slice none 0 0) I4.out.below I4.out.plan I4.out.q O4.out N4.out (bl3 w4 #[.string S] 9) hgr (fun k hk => by simp [Value.ownBlock] at hk) I4.out.qlt); have QF := Kp.mk (grew_qi (i := i) (lv := .slice none 0 0) G.out (bl3 w4 #[.string S] 9) hgr hlo hor (fun k hk => by simp [Value.ownBlock] at hk) HQB.out.1 HQB.out.2 I4.out.q.lt (show OwnS w4 w1.heap.size (.slice na nm nc) ([] ++ [S]) by have h := NO4.out; rw [HAL.out] at h; exact h) I4.out.qlt HGD.out); have HX := Kp.mk (And.intro (And.intro (G.out.o.cell 1 _ rfl) (And.intro (G.out.n.cell 0 _ rfl) (G.out.n.cell 1 _ rfl))) (And.intro ((G.out.o.other2 qb (.slice na nm nc) (.int .i64 0) HNE.out.1).cell 1 _ rfl) (And.intro ((G.out.n.other2 qb (.slice na nm nc) (.int .i64 0) HNE.out.2).cell 0 _ rfl) ((G.out.n.other2 qb (.slice na nm nc) (.int .i64 0) HNE.out.2).cell 1 _ rfl)))); have z0 := G.out.q.cell 0 _ rfl; have z1 := G.out.q.cell 1 _ rfl; have f0 := G.out.q.free 0; have f1 := G.out.q.free 1; clear hlo hgr hor))
        all_goals (
          refine block_gen (F := fun W => Kp (QI w W ⟨1, s, d, r⟩ qb la5 lm5 lc5 0 (i + 1) ([] ++ [S]) 0 na nm nc)) ⟨QF.out⟩ ?_
          intro w6 I6
          clear G QF HX z0 z1 f0 f1 c0 c1 c2 c3 o0 o1 n0 n1 SQ
          obtain ⟨c0, c1, c2, c3⟩ := plan4 I6.out.plan
          have q0 := I6.out.q.cell 0 _ rfl
          have q1 := I6.out.q.cell 1 _ rfl
          have HCK := Kp.mk (check_good A I6.out ((HE.out.later I6.out.below).sub (by decide)))
          go_wp2_with fail
          refine HCK.out.mono ?_
          rintro e w7 ⟨rfl, hb⟩
          have I7 := Kp.mk (I6.out.later hb)
          have hne := I7.out.lens.1
          clear hb c0 c1 c2 c3 q0 q1 HCK
          have q0 := I7.out.q.cell 0 _ rfl
          go_wp2_with fail
          go_roundw
          case rel => exact ⟨i + 1, by omega, by go_num, ⟨⟨_, _, _, _, _, _, _, _, _, rfl, rfl, I7.out⟩⟩⟩
          case measure => simp [intOf]; omega)
      have hk1 : (κ == 1) = false := by simpa using h1
      by_cases h2 : κ = 2
      · subst h2
        clear h1 hk1
        by_cases hl : lm = 0
        · have HL0 := Kp.mk hl
          have HGC : Kp (getC ⟨1, s, d, r⟩ L g = 17) := ⟨getC_none I.out.good rfl (by rw [← HLL.out]; exact hl)⟩
          have HG := Kp.mk (get_not (p := ⟨1, s, d, r⟩) (l := L) (g := g) (by rw [HGC.out]; decide))
          clear hl
          obtain ⟨w1, e1⟩ : ∃ w1, w1 = wr.alloc (.cells #[.int .i64 2, .string S] 35) := ⟨_, rfl⟩
          have b1 : Below wr.heap.size wr w1 := by rw [e1]; exact below_alloc _ _
          have O1 : Kp (Blk w1 wr.heap.size #[.int .i64 2, .string S] 35) := ⟨by rw [e1]; exact Blk.new _ _ _⟩
          have I1 := Kp.mk (I.out.later b1)
          have s1 : Kp (w1.heap.size = wr.heap.size + 1) := ⟨by rw [e1]; simp⟩
          have E1 := Kp.mk e1
          clear b1 e1
          obtain ⟨c0, c1, c2, c3⟩ := plan4 I.out.plan
          have q0 := I.out.q.cell 0 _ rfl
          have q1 := I.out.q.cell 1 _ rfl
          have lq := I.out.q.lt
          have lp : w.heap.size < wr.heap.size := Nat.lt_trans I.out.qlt lq
          have CP : Kp (Calls Tryd.prog 12 #[.agg (rowK 1 s d r), .agg (portA qa qm qc g)] w1 fun e w' => ∃ v, e = .returned (.tuple #[.agg #[v, .int .i64 (getG ⟨1, s, d, r⟩ L g)], .string (getT ⟨1, s, d, r⟩ L g), .bool (getB ⟨1, s, d, r⟩ L g), errOf A (getC ⟨1, s, d, r⟩ L g)]) ∧ OwnS w' w1.heap.size v (getL ⟨1, s, d, r⟩ L g) ∧ Below w1.heap.size w1 w') := ⟨port_get A ⟨1, s, d, r⟩ qa qm qc L g w1 I1.out.rd ((HE.out.later I1.out.below).sub (by decide))⟩
          rw [HGC.out, HG.out.1, HG.out.2.1, HG.out.2.2.1, HG.out.2.2.2] at CP
          have hev : errOf A 17 = errv (A 17) := rfl
          rw [hev] at CP
          clear hev
          go_wp2_with fail
          rw [← E1.out]
          refine CP.out.mono ?_
          rintro e w2 ⟨v, rfl, ho, hb⟩
          obtain ⟨na, nc, nm, hnm, rfl⟩ := ho.shapeN
          obtain ⟨w3, e3⟩ : ∃ w3, w3 = w2.alloc (.cells #[.slice na nm nc, .int .i64 (0)] 29) := ⟨_, rfl⟩
          have b3 : Below w2.heap.size w2 w3 := by rw [e3]; exact below_alloc _ _
          have hb3 := hb.trans (b3.mono hb.size)
          have I3 := Kp.mk (I1.out.later hb3)
          have O3 := Kp.mk (O1.out.later hb3)
          have N3 : Kp (Blk w3 w2.heap.size #[.slice na nm nc, .int .i64 (0)] 29) := ⟨by rw [e3]; exact Blk.new _ _ _⟩
          have NO := Kp.mk (ho.later b3)
          have NL : Kp (w1.heap.size ≤ w2.heap.size) := ⟨hb.size⟩
          have E3 := Kp.mk e3
          clear c0 c1 c2 c3 q0 q1 lq lp hb b3 hb3 ho e3
          obtain ⟨c0, c1, c2, c3⟩ := plan4 I3.out.plan
          have o0 := O3.out.cell 0 _ rfl
          have o1 := O3.out.cell 1 _ rfl
          have n0 := N3.out.cell 0 _ rfl
          have n1 := N3.out.cell 1 _ rfl
          have hl0 : ((lm : Int) == 0) = true := by have := HL0.out; rw [this]; rfl
          have IF := I3
          clear c0 c1 c2 c3 o0 o1 n0 n1
          go_wp2_with fail
          rw [← E3.out]
          go_roundw
          case rel => exact ⟨i + 1, by omega, by go_num, ⟨⟨_, _, _, _, _, _, _, _, _, rfl, rfl, IF.out.next⟩⟩⟩
          case measure => simp [intOf]; omega
        have HL0 : Kp (0 < lm) := ⟨by omega⟩
        have HNN : Kp (L ≠ []) := ⟨fun e => hl (by rw [HLL.out, e]; rfl)⟩
        have HGC : Kp (getC ⟨1, s, d, r⟩ L g = 0) := ⟨getC_ok I.out.good rfl (by rw [← HLL.out]; exact hl)⟩
        have HG := Kp.mk (get_one (g := g) HGC.out rfl)
        have HGD := Kp.mk (get_good HGC.out)
        rw [HG.out.1, HG.out.2.1] at HGD
        clear hl
        obtain ⟨w1, e1⟩ : ∃ w1, w1 = wr.alloc (.cells #[.int .i64 2, .string S] 35) := ⟨_, rfl⟩
        have b1 : Below wr.heap.size wr w1 := by rw [e1]; exact below_alloc _ _
        have O1 : Kp (Blk w1 wr.heap.size #[.int .i64 2, .string S] 35) := ⟨by rw [e1]; exact Blk.new _ _ _⟩
        have I1 := Kp.mk (I.out.later b1)
        have s1 : Kp (w1.heap.size = wr.heap.size + 1) := ⟨by rw [e1]; simp⟩
        have E1 := Kp.mk e1
        clear b1 e1
        obtain ⟨c0, c1, c2, c3⟩ := plan4 I.out.plan
        have q0 := I.out.q.cell 0 _ rfl
        have q1 := I.out.q.cell 1 _ rfl
        have lq := I.out.q.lt
        have lp : w.heap.size < wr.heap.size := Nat.lt_trans I.out.qlt lq
        have CP : Kp (Calls Tryd.prog 12 #[.agg (rowK 1 s d r), .agg (portA qa qm qc g)] w1 fun e w' => ∃ v, e = .returned (.tuple #[.agg #[v, .int .i64 (getG ⟨1, s, d, r⟩ L g)], .string (getT ⟨1, s, d, r⟩ L g), .bool (getB ⟨1, s, d, r⟩ L g), errOf A (getC ⟨1, s, d, r⟩ L g)]) ∧ OwnS w' w1.heap.size v (getL ⟨1, s, d, r⟩ L g) ∧ Below w1.heap.size w1 w') := ⟨port_get A ⟨1, s, d, r⟩ qa qm qc L g w1 I1.out.rd ((HE.out.later I1.out.below).sub (by decide))⟩
        rw [HGC.out, HG.out.1, HG.out.2.1, HG.out.2.2.1, HG.out.2.2.2] at CP
        obtain ⟨fb, hfb⟩ : ∃ fb, fb = decide (g < r) := ⟨_, rfl⟩
        have hfr : decide (ag < r) = fb := by rw [hfb]; exact fresh_same (p := ⟨1, s, d, r⟩) I.out.good rfl HNN.out I.out.ages
        rw [show decide (g < (PortP.mk 1 s d r).refresh) = fb from hfb.symm] at CP
        clear hfb
        obtain ⟨T, hT⟩ : ∃ T, T = L.getD 0 noS := ⟨_, rfl⟩
        rw [← hT] at CP
        have HTT := Kp.mk hT
        clear hT
        go_wp2_with fail
        rw [← E1.out]
        refine CP.out.mono ?_
        rintro e w2 ⟨v, rfl, ho, hb⟩
        obtain ⟨na, nc, nm, hnm, rfl⟩ := ho.shapeN
        have I2 := Kp.mk (I1.out.later hb)
        have NO := Kp.mk ho
        have NL : Kp (w1.heap.size ≤ w2.heap.size) := ⟨hb.size⟩
        clear c0 c1 c2 c3 q0 q1 lq lp hb ho
        obtain ⟨c0, c1, c2, c3⟩ := plan4 I2.out.plan
        have q0 := I2.out.q.cell 0 _ rfl
        have q1 := I2.out.q.cell 1 _ rfl
        have f0 := I2.out.q.free 0
        have f1 := I2.out.q.free 1
        have lq := I2.out.q.lt
        have lp : w.heap.size < w2.heap.size := Nat.lt_trans I2.out.qlt lq
        have ne1 : ¬ w.heap.size = qb := by have := I2.out.qlt; omega
        have ne2 : ¬ qb = w.heap.size := by have := I2.out.qlt; omega
        have HLW : Kp (∀ k, (Value.slice la lm lc).ownBlock = some k → k < w1.heap.size ∧ k ≠ qb) := ⟨fun k hk => by
          have h1 := I.out.line.lt hk
          have := s1.out
          exact ⟨by omega, fun e => I.out.lfar (by rw [hk, e])⟩⟩
        have HQB : Kp (qb < w1.heap.size ∧ w.heap.size + 1 ≤ w1.heap.size) := ⟨by have := I.out.q.lt; have := I.out.qlt; have := s1.out; omega⟩
        have hnil : errOf A 0 = Value.nilIface := rfl
        simp only [hnil]
        clear hnil
        have I5 : Kp (QI w ((w2.setCell ⟨qb, 0, none⟩ (.slice na nm nc)).setCell ⟨qb, 1, none⟩ (.int .i64 (g))) ⟨1, s, d, r⟩ qb la lm lc (ag) (i + 1) (L) (g) na nm nc) := ⟨by
          have he : (Value.slice la lm lc).ownBlock = (Value.slice la lm lc).ownBlock := rfl
          refine QI.store (x := #[]) I2.out.below I2.out.plan ⟨_, _, I2.out.q⟩ (NO.out.mono HQB.out.2) (fun e => by have := (ownS_in NO.out e).1; have := HQB.out.1; omega) I2.out.line (fun e => ?_) (fun b hb e => ?_) I2.out.qlt HGD.out I2.out.age0 (by have := I2.out.agei; omega) I2.out.ages
          · rw [he] at e; exact (HLW.out _ e).2 rfl
          · rw [he] at hb
            have h1 := (HLW.out _ hb).1
            have h2 := (ownS_in NO.out e).1
            omega⟩
        obtain ⟨w6, e6⟩ : ∃ w6, w6 = ((w2.setCell ⟨qb, 0, none⟩ (.slice na nm nc)).setCell ⟨qb, 1, none⟩ (.int .i64 (g))).alloc (.cells #[.slice na nm nc, .int .i64 (g)] 29) := ⟨_, rfl⟩
        have I6 := Kp.mk (I5.out.later (below_alloc _ (.cells #[.slice na nm nc, .int .i64 (g)] 29)))
        rw [← e6] at I6
        have E6 := Kp.mk e6
        have HCK := Kp.mk (check_good A I6.out ((HE.out.later I6.out.below).sub (by decide)))
        clear e6 I5
        obtain ⟨tb, to, hta, htc, hts⟩ := I2.out.rdl.at 0 (by have := HL0.out; omega)
        rw [← HTT.out, Nat.add_zero] at htc
        have hl0 : ((lm : Int) == 0) = false := by have := HL0.out; simp; omega
        have hi0 : (0 : Int) < (lm : Int) := by have := HL0.out; omega
        have ltb := World.block_lt_of_cell? w2 _ htc
        subst hta
        clear hts
        go_wp2_with fail
        rw [← E6.out]
        refine HCK.out.mono ?_
        rintro e w7 ⟨rfl, hb⟩
        have I7 := Kp.mk (I6.out.later hb)
        have hne := I7.out.lens.1
        clear hb c0 c1 c2 c3 q0 q1 f0 f1 lq lp HCK
        have q0 := I7.out.q.cell 0 _ rfl
        go_wp2_with fail
        go_roundw
        case rel => exact ⟨i + 1, by omega, by go_num, ⟨⟨_, _, _, _, _, _, _, _, _, rfl, rfl, I7.out⟩⟩⟩
        case measure => simp [intOf]; omega
      have hk2 : (κ == 2) = false := by simpa using h2
      by_cases h3 : κ = 3
      · subst h3
        clear h1 h2 hk1 hk2
        obtain ⟨w1, e1⟩ : ∃ w1, w1 = wr.alloc (.cells #[.int .i64 3, .string S] 35) := ⟨_, rfl⟩
        have b1 : Below wr.heap.size wr w1 := by rw [e1]; exact below_alloc _ _
        have O1 : Kp (Blk w1 wr.heap.size #[.int .i64 3, .string S] 35) := ⟨by rw [e1]; exact Blk.new _ _ _⟩
        have I1 := Kp.mk (I.out.later b1)
        have s1 : Kp (w1.heap.size = wr.heap.size + 1) := ⟨by rw [e1]; simp⟩
        have E1 := Kp.mk e1
        clear b1 e1
        obtain ⟨c0, c1, c2, c3⟩ := plan4 I.out.plan
        have q0 := I.out.q.cell 0 _ rfl
        have q1 := I.out.q.cell 1 _ rfl
        have lq := I.out.q.lt
        have lp : w.heap.size < wr.heap.size := Nat.lt_trans I.out.qlt lq
        have CP : Kp (Calls Tryd.prog 13 #[.agg (rowK 1 s d r), .agg (portA qa qm qc g)] w1 fun e w' => ∃ v, e = .returned (.tuple #[.agg #[v, .int .i64 (ageG ⟨1, s, d, r⟩ L g)], errOf A (portC ⟨1, s, d, r⟩ L g)]) ∧ OwnS w' w1.heap.size v (ageL ⟨1, s, d, r⟩ L g) ∧ Below w1.heap.size w1 w') := ⟨port_age A ⟨1, s, d, r⟩ qa qm qc L g w1 I1.out.rd ((HE.out.later I1.out.below).sub (by decide))⟩
        rw [I.out.good] at CP
        have HGD := Kp.mk (age_good I.out.good)
        have HST := Kp.mk (age_step I.out.good I.out.ages I.out.age0)
        have hal : ageL ⟨1, s, d, r⟩ L g = L := by unfold ageL; rw [decide_eq_true I.out.good]; rfl
        rw [hal] at CP HGD HST
        obtain ⟨gg, hgg⟩ : ∃ x, x = ageG ⟨1, s, d, r⟩ L g := ⟨_, rfl⟩
        rw [← hgg] at CP HGD HST
        have ha0 := I.out.age0
        have hai := I.out.agei
        clear hal hgg
        go_wp2_with fail
        rw [← E1.out]
        refine CP.out.mono ?_
        rintro e w2 ⟨v, rfl, ho, hb⟩
        obtain ⟨na, nc, nm, hnm, rfl⟩ := ho.shapeN
        have I2 := Kp.mk (I1.out.later hb)
        have NO := Kp.mk ho
        have NL : Kp (w1.heap.size ≤ w2.heap.size) := ⟨hb.size⟩
        clear c0 c1 c2 c3 q0 q1 lq lp hb ho
        obtain ⟨c0, c1, c2, c3⟩ := plan4 I2.out.plan
        have q0 := I2.out.q.cell 0 _ rfl
        have q1 := I2.out.q.cell 1 _ rfl
        have f0 := I2.out.q.free 0
        have f1 := I2.out.q.free 1
        have lq := I2.out.q.lt
        have lp : w.heap.size < w2.heap.size := Nat.lt_trans I2.out.qlt lq
        have ne1 : ¬ w.heap.size = qb := by have := I2.out.qlt; omega
        have ne2 : ¬ qb = w.heap.size := by have := I2.out.qlt; omega
        have HLW : Kp (∀ k, (Value.slice la lm lc).ownBlock = some k → k < w1.heap.size ∧ k ≠ qb) := ⟨fun k hk => by
          have h1 := I.out.line.lt hk
          have := s1.out
          exact ⟨by omega, fun e => I.out.lfar (by rw [hk, e])⟩⟩
        have HQB : Kp (qb < w1.heap.size ∧ w.heap.size + 1 ≤ w1.heap.size) := ⟨by have := I.out.q.lt; have := I.out.qlt; have := s1.out; omega⟩
        have hnil : errOf A 0 = Value.nilIface := rfl
        simp only [hnil]
        clear hnil
        have I5 : Kp (QI w ((w2.setCell ⟨qb, 0, none⟩ (.slice na nm nc)).setCell ⟨qb, 1, none⟩ (.int .i64 (gg))) ⟨1, s, d, r⟩ qb la lm lc (ag + 1) (i + 1) (L) (gg) na nm nc) := ⟨by
          have he : (Value.slice la lm lc).ownBlock = (Value.slice la lm lc).ownBlock := rfl
          refine QI.store (x := #[]) I2.out.below I2.out.plan ⟨_, _, I2.out.q⟩ (NO.out.mono HQB.out.2) (fun e => by have := (ownS_in NO.out e).1; have := HQB.out.1; omega) I2.out.line (fun e => ?_) (fun b hb e => ?_) I2.out.qlt HGD.out (by have := I2.out.age0; omega) (by have := I2.out.agei; omega) HST.out
          · rw [he] at e; exact (HLW.out _ e).2 rfl
          · rw [he] at hb
            have h1 := (HLW.out _ hb).1
            have h2 := (ownS_in NO.out e).1
            omega⟩
        obtain ⟨w6, e6⟩ : ∃ w6, w6 = ((w2.setCell ⟨qb, 0, none⟩ (.slice na nm nc)).setCell ⟨qb, 1, none⟩ (.int .i64 (gg))).alloc (.cells #[.slice na nm nc, .int .i64 (gg)] 29) := ⟨_, rfl⟩
        have I6 := Kp.mk (I5.out.later (below_alloc _ (.cells #[.slice na nm nc, .int .i64 (gg)] 29)))
        rw [← e6] at I6
        have E6 := Kp.mk e6
        have HCK := Kp.mk (check_good A I6.out ((HE.out.later I6.out.below).sub (by decide)))
        clear e6 I5
        go_wp2_with fail
        rw [← E6.out]
        refine HCK.out.mono ?_
        rintro e w7 ⟨rfl, hb⟩
        have I7 := Kp.mk (I6.out.later hb)
        have hne := I7.out.lens.1
        clear hb c0 c1 c2 c3 q0 q1 f0 f1 lq lp HCK
        have q0 := I7.out.q.cell 0 _ rfl
        go_wp2_with fail
        go_roundw
        case rel => exact ⟨i + 1, by omega, by go_num, ⟨⟨_, _, _, _, _, _, _, _, _, rfl, rfl, I7.out⟩⟩⟩
        case measure => simp [intOf]; omega
      have hk3 : (κ == 3) = false := by simpa using h3
      clear h1 h2 h3
      obtain ⟨w1, e1⟩ : ∃ w1, w1 = wr.alloc (.cells #[.int .i64 κ, .string S] 35) := ⟨_, rfl⟩
      have b1 : Below wr.heap.size wr w1 := by rw [e1]; exact below_alloc _ _
      have O1 : Kp (Blk w1 wr.heap.size #[.int .i64 κ, .string S] 35) := ⟨by rw [e1]; exact Blk.new _ _ _⟩
      have I1 := Kp.mk (I.out.later b1)
      have s1 : Kp (w1.heap.size = wr.heap.size + 1) := ⟨by rw [e1]; simp⟩
      have E1 := Kp.mk e1
      clear b1 e1
      obtain ⟨c0, c1, c2, c3⟩ := plan4 I.out.plan
      have q0 := I.out.q.cell 0 _ rfl
      have q1 := I.out.q.cell 1 _ rfl
      have lq := I.out.q.lt
      have lp : w.heap.size < wr.heap.size := Nat.lt_trans I.out.qlt lq
      have I6 : Kp (QI w w1 ⟨1, s, d, r⟩ qb la lm lc ag (i + 1) L g qa qm qc) := ⟨I1.out.next⟩
      have HCK := Kp.mk (check_good A I6.out ((HE.out.later I6.out.below).sub (by decide)))
      go_wp2_with fail
      rw [← E1.out]
      refine HCK.out.mono ?_
      rintro e w7 ⟨rfl, hb⟩
      have I7 := Kp.mk (I6.out.later hb)
      have hne := I7.out.lens.1
      clear hb c0 c1 c2 c3 q0 q1 lq lp HCK
      have q0 := I7.out.q.cell 0 _ rfl
      go_wp2_with fail
      go_roundw
      case rel => exact ⟨i + 1, by omega, by go_num, ⟨⟨_, _, _, _, _, _, _, _, _, rfl, rfl, I7.out⟩⟩⟩
      case measure => simp [intOf]; omega
    · have : i = n := by omega
      subst this
      have hb : decide ((i : Int) < i) = false := by simp
      go_wp2
      go_ret
      exact ⟨rfl, I.out.below⟩
set_option maxRecDepth 100000 in
set_option maxHeartbeats 32000000 in
theorem queues_3 (A : Nat → Addr) (s d r : Int) (a : Option Addr) (n cap : Nat) (C : Nat → StepV) (w : World) (h : RdT w a n cap C) (hE : Errs w allCodes A) (hpc : planC ⟨3, s, d, r⟩ = 0) :
    Calls Tryd.prog 3 #[.agg (rowK 3 s d r), .slice a n cap] w fun e w' => e = .returned (.bool true) ∧ Below w.heap.size w w' := by
  obtain ⟨w1, e1, p1, b1⟩ := plan_box w 3 s d r
  have hn := h.bound
  have HT0 := Kp.mk h
  have HE := Kp.mk hE
  have HPC := Kp.mk hpc
  have HF := Kp.mk (law_fixed A w1 (hE.later b1))
  have E1 := Kp.mk e1
  have P1 := Kp.mk p1
  have B1 := Kp.mk b1
  clear h hE hpc e1 p1 b1
  go_enter Tryd.func3, Tryd.ntmps3
  go_wp2_with fail
  rw [← E1.out]
  refine HF.out.mono ?_
  rintro e w2 ⟨rfl, hb⟩
  have P2 := Kp.mk (P1.out.later hb)
  have B2 := Kp.mk (B1.out.trans (hb.mono B1.out.size))
  have L2 : Kp (w.heap.size < w2.heap.size) := ⟨World.block_lt_of_cell? w2 ⟨w.heap.size, 0, none⟩ P2.out.c0⟩
  have HCP := Kp.mk (ref_checkPlan ⟨3, s, d, r⟩ w2)
  rw [HPC.out] at HCP
  clear hb HF E1 P1 B1
  obtain ⟨c0, c1, c2, c3⟩ := plan4 P2.out
  go_wp2_with fail
  refine HCP.out.mono ?_
  rintro e w3 ⟨rfl, hb⟩
  have P3 := Kp.mk (P2.out.later hb)
  have B3 := Kp.mk (B2.out.trans (hb.mono B2.out.size))
  have IQ := Kp.mk (qi_start B3.out P3.out HPC.out (Nat.lt_of_lt_of_le L2.out hb.size))
  obtain ⟨wq, eq⟩ : ∃ wq, wq = w3.alloc (.cells (portA none 0 0 0) 29) := ⟨_, rfl⟩
  rw [← eq] at IQ
  have EQ := Kp.mk eq
  clear hb c0 c1 c2 c3 HCP P2 B2 eq
  obtain ⟨c0, c1, c2, c3⟩ := plan4 P3.out
  have hzs := zvStep
  have hzp := zvPort
  go_wp2_with fail
  rw [← EQ.out]
  clear c0 c1 c2 c3 EQ
  generalize w3.heap.size = qb at IQ ⊢
  clear P3 B3
  go_loopw [8, 9, 10] (fun lv av iv wr => ∃ i : Nat, i ≤ n ∧ iv = .int .i64 (i : Int) ∧ Kp (LoopQ w wr ⟨3, s, d, r⟩ qb lv av i)) (fun _ _ iv _ => n - (intOf iv).toNat)
  case atStart => exact ⟨0, by omega, rfl, ⟨⟨0, [], 0, none, 0, 0, none, 0, 0, rfl, rfl, IQ.out⟩⟩⟩
  case round =>
    obtain ⟨i, hi, rfl, H⟩ := hrel
    obtain ⟨ag, L, g, qa, qm, qc, la, lm, lc, rfl, rfl, I0⟩ := H.out
    have I := Kp.mk I0
    clear H I0
    by_cases hlt : i < n
    · have hb : decide ((i : Int) < n) = true := decide_eq_true (by omega)
      have hb1 : (0 : Int) ≤ (i : Int) := by omega
      have hb2 : (i : Int) < (n : Int) := by omega
      obtain ⟨sb, so, hsa, hsc⟩ := (HT0.out.later I.out.below).cells (by omega)
      have hss := HT0.out.fits i hlt
      have hsr := hsc i hlt
      obtain ⟨κ, hκ⟩ : ∃ κ, κ = (C i).kind := ⟨_, rfl⟩
      obtain ⟨S, hS⟩ : ∃ S, S = (C i).s := ⟨_, rfl⟩
      have k0 := hsr 0 _ rfl
      have k1 := hsr 1 _ rfl
      rw [Nat.add_zero, ← hκ] at k0
      rw [← hS] at k1 hss
      have HSS := Kp.mk hss
      subst hsa
      clear hsc hss hsr hκ hS
      have hlen := I.out.lens.2.1
      have HLL := Kp.mk hlen
      clear hlen
      by_cases h1 : κ = 1
      · subst h1
        by_cases hfull : (lm : Int) = d
        · have hfu : ((lm : Int) == d) = true := by simpa using hfull
          have HADD : Kp (addC ⟨3, s, d, r⟩ L g S true ≠ 0) := ⟨by
            by_cases hs : s < (S.size : Int)
            · rw [addC_size I.out.good hs]; omega
            · rw [addC_full I.out.good hs (show ¬ (3 : Int) ≤ 2 by decide) (by rw [← HLL.out]; exact hfull)]; omega⟩
          clear hfull
          obtain ⟨w1, e1⟩ : ∃ w1, w1 = wr.alloc (.cells #[.int .i64 1, .string S] 35) := ⟨_, rfl⟩
          have b1 : Below wr.heap.size wr w1 := by rw [e1]; exact below_alloc _ _
          have O1 : Kp (Blk w1 wr.heap.size #[.int .i64 1, .string S] 35) := ⟨by rw [e1]; exact Blk.new _ _ _⟩
          have I1 := Kp.mk (I.out.later b1)
          have s1 : Kp (w1.heap.size = wr.heap.size + 1) := ⟨by rw [e1]; simp⟩
          have E1 := Kp.mk e1
          clear b1 e1
          obtain ⟨c0, c1, c2, c3⟩ := plan4 I.out.plan
          have q0 := I.out.q.cell 0 _ rfl
          have q1 := I.out.q.cell 1 _ rfl
          have lq := I.out.q.lt
          have lp : w.heap.size < wr.heap.size := Nat.lt_trans I.out.qlt lq
          have CP : Kp (Calls Tryd.prog 11 #[.agg (rowK 3 s d r), .agg (portA qa qm qc g), .string S] w1 fun e w' => ∃ v, e = .returned (.tuple #[.agg #[v, .int .i64 0], errOf A (addC ⟨3, s, d, r⟩ L g S true)]) ∧ OwnS w' w1.heap.size v (addL ⟨3, s, d, r⟩ L g S true) ∧ Below w1.heap.size w1 w') := ⟨port_put A ⟨3, s, d, r⟩ qa qm qc L g S w1 I1.out.rd HSS.out ((HE.out.later I1.out.below).sub (by decide))⟩
          obtain ⟨ec, hec⟩ : ∃ ec, addC ⟨3, s, d, r⟩ L g S true = ec + 1 := ⟨addC ⟨3, s, d, r⟩ L g S true - 1, by have := HADD.out; omega⟩
          rw [hec] at CP
          have hev : errOf A (ec + 1) = errv (A (ec + 1)) := rfl
          rw [hev] at CP
          clear hec hev
          go_wp2_with fail
          rw [← E1.out]
          refine CP.out.mono ?_
          rintro e w2 ⟨v, rfl, ho, hb⟩
          obtain ⟨na, nc, nm, hnm, rfl⟩ := ho.shapeN
          obtain ⟨w3, e3⟩ : ∃ w3, w3 = w2.alloc (.cells #[.slice na nm nc, .int .i64 (0)] 29) := ⟨_, rfl⟩
          have b3 : Below w2.heap.size w2 w3 := by rw [e3]; exact below_alloc _ _
          have hb3 := hb.trans (b3.mono hb.size)
          have I3 := Kp.mk (I1.out.later hb3)
          have O3 := Kp.mk (O1.out.later hb3)
          have N3 : Kp (Blk w3 w2.heap.size #[.slice na nm nc, .int .i64 (0)] 29) := ⟨by rw [e3]; exact Blk.new _ _ _⟩
          have NO := Kp.mk (ho.later b3)
          have NL : Kp (w1.heap.size ≤ w2.heap.size) := ⟨hb.size⟩
          have E3 := Kp.mk e3
          clear c0 c1 c2 c3 q0 q1 lq lp hb b3 hb3 ho e3
          obtain ⟨c0, c1, c2, c3⟩ := plan4 I3.out.plan
          have o0 := O3.out.cell 0 _ rfl
          have o1 := O3.out.cell 1 _ rfl
          have n0 := N3.out.cell 0 _ rfl
          have n1 := N3.out.cell 1 _ rfl
          go_wp2_with fail
          rw [← E3.out]
          go_quiet (fail)
          have IF := Kp.mk (I3.out.later (Drew.below ⟨nq, rfl⟩))
          clear c0 c1 c2 c3 o0 o1 n0 n1
          go_wp2_with fail
          go_roundw
          case rel => exact ⟨i + 1, by omega, by go_num, ⟨⟨_, _, _, _, _, _, _, _, _, rfl, rfl, IF.out.next⟩⟩⟩
          case measure => simp [intOf]; omega
        have hfu : ((lm : Int) == d) = false := by simpa using hfull

        by_cases hs : s < (S.size : Int)
        · have hsl : decide ((S.size : Int) > s) = true := decide_eq_true hs
          have HADD : Kp (addC ⟨3, s, d, r⟩ L g S true ≠ 0) := ⟨by rw [addC_size I.out.good hs]; omega⟩
          clear hs
          obtain ⟨w1, e1⟩ : ∃ w1, w1 = wr.alloc (.cells #[.int .i64 1, .string S] 35) := ⟨_, rfl⟩
          have b1 : Below wr.heap.size wr w1 := by rw [e1]; exact below_alloc _ _
          have O1 : Kp (Blk w1 wr.heap.size #[.int .i64 1, .string S] 35) := ⟨by rw [e1]; exact Blk.new _ _ _⟩
          have I1 := Kp.mk (I.out.later b1)
          have s1 : Kp (w1.heap.size = wr.heap.size + 1) := ⟨by rw [e1]; simp⟩
          have E1 := Kp.mk e1
          clear b1 e1
          obtain ⟨c0, c1, c2, c3⟩ := plan4 I.out.plan
          have q0 := I.out.q.cell 0 _ rfl
          have q1 := I.out.q.cell 1 _ rfl
          have lq := I.out.q.lt
          have lp : w.heap.size < wr.heap.size := Nat.lt_trans I.out.qlt lq
          have CP : Kp (Calls Tryd.prog 11 #[.agg (rowK 3 s d r), .agg (portA qa qm qc g), .string S] w1 fun e w' => ∃ v, e = .returned (.tuple #[.agg #[v, .int .i64 0], errOf A (addC ⟨3, s, d, r⟩ L g S true)]) ∧ OwnS w' w1.heap.size v (addL ⟨3, s, d, r⟩ L g S true) ∧ Below w1.heap.size w1 w') := ⟨port_put A ⟨3, s, d, r⟩ qa qm qc L g S w1 I1.out.rd HSS.out ((HE.out.later I1.out.below).sub (by decide))⟩
          obtain ⟨ec, hec⟩ : ∃ ec, addC ⟨3, s, d, r⟩ L g S true = ec + 1 := ⟨addC ⟨3, s, d, r⟩ L g S true - 1, by have := HADD.out; omega⟩
          rw [hec] at CP
          have hev : errOf A (ec + 1) = errv (A (ec + 1)) := rfl
          rw [hev] at CP
          clear hec hev
          go_wp2_with fail
          rw [← E1.out]
          refine CP.out.mono ?_
          rintro e w2 ⟨v, rfl, ho, hb⟩
          obtain ⟨na, nc, nm, hnm, rfl⟩ := ho.shapeN
          obtain ⟨w3, e3⟩ : ∃ w3, w3 = w2.alloc (.cells #[.slice na nm nc, .int .i64 (0)] 29) := ⟨_, rfl⟩
          have b3 : Below w2.heap.size w2 w3 := by rw [e3]; exact below_alloc _ _
          have hb3 := hb.trans (b3.mono hb.size)
          have I3 := Kp.mk (I1.out.later hb3)
          have O3 := Kp.mk (O1.out.later hb3)
          have N3 : Kp (Blk w3 w2.heap.size #[.slice na nm nc, .int .i64 (0)] 29) := ⟨by rw [e3]; exact Blk.new _ _ _⟩
          have NO := Kp.mk (ho.later b3)
          have NL : Kp (w1.heap.size ≤ w2.heap.size) := ⟨hb.size⟩
          have E3 := Kp.mk e3
          clear c0 c1 c2 c3 q0 q1 lq lp hb b3 hb3 ho e3
          obtain ⟨c0, c1, c2, c3⟩ := plan4 I3.out.plan
          have o0 := O3.out.cell 0 _ rfl
          have o1 := O3.out.cell 1 _ rfl
          have n0 := N3.out.cell 0 _ rfl
          have n1 := N3.out.cell 1 _ rfl
          go_wp2_with fail
          rw [← E3.out]
          go_quiet (fail)
          have IF := Kp.mk (I3.out.later (Drew.below ⟨nq, rfl⟩))
          clear c0 c1 c2 c3 o0 o1 n0 n1
          go_wp2_with fail
          go_roundw
          case rel => exact ⟨i + 1, by omega, by go_num, ⟨⟨_, _, _, _, _, _, _, _, _, rfl, rfl, IF.out.next⟩⟩⟩
          case measure => simp [intOf]; omega
        have hsl : decide ((S.size : Int) > s) = false := decide_eq_false hs
        have HADD : Kp (addC ⟨3, s, d, r⟩ L g S true = 0) := ⟨addC_more I.out.good hs (show ¬ (3 : Int) ≤ 2 by decide) (by rw [← HLL.out]; exact hfull)⟩
        have HAL : Kp (addL ⟨3, s, d, r⟩ L g S true = L ++ [S]) := ⟨addL_more HADD.out (show ¬ (3 : Int) ≤ 2 by decide)⟩
        have HGD : Kp (portC ⟨3, s, d, r⟩ (L ++ [S]) 0 = 0) := ⟨by rw [← HAL.out]; exact add_good HADD.out⟩
        clear hs hfull
        obtain ⟨w1, e1⟩ : ∃ w1, w1 = wr.alloc (.cells #[.int .i64 1, .string S] 35) := ⟨_, rfl⟩
        have b1 : Below wr.heap.size wr w1 := by rw [e1]; exact below_alloc _ _
        have O1 : Kp (Blk w1 wr.heap.size #[.int .i64 1, .string S] 35) := ⟨by rw [e1]; exact Blk.new _ _ _⟩
        have I1 := Kp.mk (I.out.later b1)
        have s1 : Kp (w1.heap.size = wr.heap.size + 1) := ⟨by rw [e1]; simp⟩
        have E1 := Kp.mk e1
        clear b1 e1
        obtain ⟨c0, c1, c2, c3⟩ := plan4 I.out.plan
        have q0 := I.out.q.cell 0 _ rfl
        have q1 := I.out.q.cell 1 _ rfl
        have lq := I.out.q.lt
        have lp : w.heap.size < wr.heap.size := Nat.lt_trans I.out.qlt lq
        have CP : Kp (Calls Tryd.prog 11 #[.agg (rowK 3 s d r), .agg (portA qa qm qc g), .string S] w1 fun e w' => ∃ v, e = .returned (.tuple #[.agg #[v, .int .i64 0], errOf A (addC ⟨3, s, d, r⟩ L g S true)]) ∧ OwnS w' w1.heap.size v (addL ⟨3, s, d, r⟩ L g S true) ∧ Below w1.heap.size w1 w') := ⟨port_put A ⟨3, s, d, r⟩ qa qm qc L g S w1 I1.out.rd HSS.out ((HE.out.later I1.out.below).sub (by decide))⟩
        rw [HADD.out] at CP
        go_wp2_with fail
        rw [← E1.out]
        refine CP.out.mono ?_
        rintro e w2 ⟨v, rfl, ho, hb⟩
        obtain ⟨na, nc, nm, hnm, rfl⟩ := ho.shapeN
        obtain ⟨w3, e3⟩ : ∃ w3, w3 = w2.alloc (.cells #[.slice na nm nc, .int .i64 (0)] 29) := ⟨_, rfl⟩
        have b3 : Below w2.heap.size w2 w3 := by rw [e3]; exact below_alloc _ _
        have hb3 := hb.trans (b3.mono hb.size)
        have I3 := Kp.mk (I1.out.later hb3)
        have O3 := Kp.mk (O1.out.later hb3)
        have N3 : Kp (Blk w3 w2.heap.size #[.slice na nm nc, .int .i64 (0)] 29) := ⟨by rw [e3]; exact Blk.new _ _ _⟩
        have NO := Kp.mk (ho.later b3)
        have NL : Kp (w1.heap.size ≤ w2.heap.size) := ⟨hb.size⟩
        have E3 := Kp.mk e3
        clear c0 c1 c2 c3 q0 q1 lq lp hb b3 hb3 ho e3
        obtain ⟨c0, c1, c2, c3⟩ := plan4 I3.out.plan
        have o0 := O3.out.cell 0 _ rfl
        have o1 := O3.out.cell 1 _ rfl
        have n0 := N3.out.cell 0 _ rfl
        have n1 := N3.out.cell 1 _ rfl
        have hnil : errOf A 0 = Value.nilIface := rfl
        simp only [hnil]
        clear hnil
        go_wp2_with fail
        rw [← E3.out]
        go_quiet (fail)
        obtain ⟨w4, e4⟩ : ∃ w4, w4 = w3.drewN nq := ⟨_, rfl⟩
        have b4 : Below w3.heap.size w3 w4 := by rw [e4]; exact Drew.below ⟨nq, rfl⟩
        have I4 := Kp.mk (I3.out.later b4)
        have O4 := Kp.mk (O3.out.later b4)
        have N4 := Kp.mk (N3.out.later b4)
        have NO4 := Kp.mk (NO.out.later b4)
        rw [← e4]
        clear c0 c1 c2 c3 o0 o1 n0 n1 b4 e4
        obtain ⟨c0, c1, c2, c3⟩ := plan4 I4.out.plan
        have o0 := O4.out.cell 0 _ rfl
        have o1 := O4.out.cell 1 _ rfl
        have n0 := N4.out.cell 0 _ rfl
        have n1 := N4.out.cell 1 _ rfl
        have HLV : Kp (∀ k, (Value.slice la lm lc).ownBlock = some k → w.heap.size < k ∧ k ≠ qb ∧ k ≠ wr.heap.size ∧ k ≠ w2.heap.size) := ⟨fun k hk => by
          have h1 := I.out.line.lt hk
          refine ⟨by omega, fun e => I.out.lfar (by rw [hk, e]), by omega, ?_⟩
          have := NL.out
          have := s1.out
          omega⟩
        have HLW : Kp (∀ k, (Value.slice la lm lc).ownBlock = some k → k < w1.heap.size ∧ k ≠ qb) := ⟨fun k hk => by
          have h1 := I.out.line.lt hk
          have := s1.out
          exact ⟨by omega, fun e => I.out.lfar (by rw [hk, e])⟩⟩
        have HQB : Kp (qb < w1.heap.size ∧ w.heap.size + 1 ≤ w1.heap.size) := ⟨by have := I.out.q.lt; have := I.out.qlt; have := s1.out; omega⟩
        have HNE : Kp (wr.heap.size ≠ qb ∧ w2.heap.size ≠ qb) := ⟨by have := I.out.q.lt; have := NL.out; have := s1.out; omega⟩
        have SQ : Kp (∀ v, Below w4.heap.size w4 v → v.cell? ⟨wr.heap.size, 1, none⟩ = some (.string S) ∧ v.cell? ⟨w2.heap.size, 0, none⟩ = some (.slice na nm nc) ∧ v.cell? ⟨w2.heap.size, 1, none⟩ = some (.int .i64 0)) := ⟨fun v hv => ⟨(O4.out.later hv).cell 1 _ rfl, (N4.out.later hv).cell 0 _ rfl, (N4.out.later hv).cell 1 _ rfl⟩⟩
        have HB4 : Kp (w.heap.size + 1 ≤ w4.heap.size) := ⟨Nat.lt_of_lt_of_le I4.out.qlt (Nat.le_of_lt I4.out.q.lt)⟩
        go_wp2_with fail
        go_region_held3 (fun v => v.cell? ⟨wr.heap.size, 1, none⟩ = some (.string S) ∧ v.cell? ⟨w2.heap.size, 0, none⟩ = some (.slice na nm nc) ∧ v.cell? ⟨w2.heap.size, 1, none⟩ = some (.int .i64 0)) (first | exact SQ.out _ (Drew.once _).below | exact SQ.out _ (bl1 _ _ _) | exact SQ.out _ (bl3 _ _ _) | exact HX.out.1 | exact HX.out.2)
          (first
            | ((refine step_append_line rfl (.tmp 93) (.tmp 96) rfl (w.heap.size + 1) (.slice la lm lc) L (by first | rfl | simp [Act.eval, Act.put]) (I4.out.line.later (bl1 w4 #[.string S] 9)) ⟨w4.heap.size, 0, none⟩ S (by first | rfl | simp [Act.eval, Act.put]) ((new1 w4 #[.string S] 9).cell 0 _ rfl) HSS.out (by have := (good_small I4.out.good).1; omega) (good_small I4.out.good).2 (Nat.le_trans HB4.out (bl1 w4 #[.string S] 9).size) ?_); intro v w5 hlo hgr hor; obtain ⟨la5, lc5, lm5, hlm5, rfl⟩ := hlo.shape; have G := Kp.mk (grew (lv := .slice la lm lc) I4.out.below I4.out.plan I4.out.q O4.out N4.out (bl1 w4 #[.string S] 9) hgr HLV.out I4.out.qlt); have QF := Kp.mk (grew_qi (i := i) (lv := .slice la lm lc) G.out (bl1 w4 #[.string S] 9) hgr hlo hor (fun k hk => ⟨(HLW.out k hk).1, (HLV.out k hk).2.1⟩) HQB.out.1 HQB.out.2 I4.out.q.lt (show OwnS w4 w1.heap.size (.slice na nm nc) (L ++ [S]) by have h := NO4.out; rw [HAL.out] at h; exact h) I4.out.qlt HGD.out); have HX := Kp.mk (And.intro (And.intro (G.out.o.cell 1 _ rfl) (And.intro (G.out.n.cell 0 _ rfl) (G.out.n.cell 1 _ rfl))) (And.intro ((G.out.o.other2 qb (.slice na nm nc) (.int .i64 0) HNE.out.1).cell 1 _ rfl) (And.intro ((G.out.n.other2 qb (.slice na nm nc) (.int .i64 0) HNE.out.2).cell 0 _ rfl) ((G.out.n.other2 qb (.slice na nm nc) (.int .i64 0) HNE.out.2).cell 1 _ rfl)))); have z0 := G.out.q.cell 0 _ rfl; have z1 := G.out.q.cell 1 _ rfl; have f0 := G.out.q.free 0; have f1 := G.out.q.free 1; clear hlo hgr hor)
            | ((refine step_append_line rfl (.tmp 93) (.tmp 96) rfl (w.heap.size + 1) (.slice la lm lc) L (by first | rfl | simp [Act.eval, Act.put]) (I4.out.line.later (bl3 w4 #[.string S] 9)) ⟨w4.heap.size, 0, none⟩ S (by first | rfl | simp [Act.eval, Act.put]) ((new3 w4 #[.string S] 9).cell 0 _ rfl) HSS.out (by have := (good_small I4.out.good).1; omega) (good_small I4.out.good).2 (Nat.le_trans HB4.out (bl3 w4 #[.string S] 9).size) ?_); intro v w5 hlo hgr hor; obtain ⟨la5, lc5, lm5, hlm5, rfl⟩ := hlo.shape; have G := Kp.mk (grew (lv := .slice la lm lc) I4.out.below I4.out.plan I4.out.q O4.out N4.out (bl3 w4 #[.string S] 9) hgr HLV.out I4.out.qlt); have QF := Kp.mk (grew_qi (i := i) (lv := .slice la lm lc) G.out (bl3 w4 #[.string S] 9) hgr hlo hor (fun k hk => ⟨(HLW.out k hk).1, (HLV.out k hk).2.1⟩) HQB.out.1 HQB.out.2 I4.out.q.lt (show OwnS w4 w1.heap.size (.slice na nm nc) (L ++ [S]) by have h := NO4.out; rw [HAL.out] at h; exact h) I4.out.qlt HGD.out); have HX := Kp.mk (And.intro (And.intro (G.out.o.cell 1 _ rfl) (And.intro (G.out.n.cell 0 _ rfl) (G.out.n.cell 1 _ rfl))) (And.intro ((G.out.o.other2 qb (.slice na nm nc) (.int .i64 0) HNE.out.1).cell 1 _ rfl) (And.intro ((G.out.n.other2 qb (.slice na nm nc) (.int .i64 0) HNE.out.2).cell 0 _ rfl) ((G.out.n.other2 qb (.slice na nm nc) (.int .i64 0) HNE.out.2).cell 1 _ rfl)))); have z0 := G.out.q.cell 0 _ rfl; have z1 := G.out.q.cell 1 _ rfl; have f0 := G.out.q.free 0; have f1 := G.out.q.free 1; clear hlo hgr hor))
        all_goals (
          refine block_gen (F := fun W => Kp (QI w W ⟨3, s, d, r⟩ qb la5 lm5 lc5 0 (i + 1) (L ++ [S]) 0 na nm nc)) ⟨QF.out⟩ ?_
          intro w6 I6
          clear G QF HX z0 z1 f0 f1 c0 c1 c2 c3 o0 o1 n0 n1 SQ
          obtain ⟨c0, c1, c2, c3⟩ := plan4 I6.out.plan
          have q0 := I6.out.q.cell 0 _ rfl
          have q1 := I6.out.q.cell 1 _ rfl
          have HCK := Kp.mk (check_good A I6.out ((HE.out.later I6.out.below).sub (by decide)))
          go_wp2_with fail
          refine HCK.out.mono ?_
          rintro e w7 ⟨rfl, hb⟩
          have I7 := Kp.mk (I6.out.later hb)
          have hne := I7.out.lens.1
          clear hb c0 c1 c2 c3 q0 q1 HCK
          have q0 := I7.out.q.cell 0 _ rfl
          go_wp2_with fail
          go_roundw
          case rel => exact ⟨i + 1, by omega, by go_num, ⟨⟨_, _, _, _, _, _, _, _, _, rfl, rfl, I7.out⟩⟩⟩
          case measure => simp [intOf]; omega)
      have hk1 : (κ == 1) = false := by simpa using h1
      by_cases h2 : κ = 2
      · subst h2
        clear h1 hk1
        by_cases hl : lm = 0
        · have HL0 := Kp.mk hl
          have HGC : Kp (getC ⟨3, s, d, r⟩ L g = 17) := ⟨getC_none I.out.good rfl (by rw [← HLL.out]; exact hl)⟩
          have HG := Kp.mk (get_not (p := ⟨3, s, d, r⟩) (l := L) (g := g) (by rw [HGC.out]; decide))
          clear hl
          obtain ⟨w1, e1⟩ : ∃ w1, w1 = wr.alloc (.cells #[.int .i64 2, .string S] 35) := ⟨_, rfl⟩
          have b1 : Below wr.heap.size wr w1 := by rw [e1]; exact below_alloc _ _
          have O1 : Kp (Blk w1 wr.heap.size #[.int .i64 2, .string S] 35) := ⟨by rw [e1]; exact Blk.new _ _ _⟩
          have I1 := Kp.mk (I.out.later b1)
          have s1 : Kp (w1.heap.size = wr.heap.size + 1) := ⟨by rw [e1]; simp⟩
          have E1 := Kp.mk e1
          clear b1 e1
          obtain ⟨c0, c1, c2, c3⟩ := plan4 I.out.plan
          have q0 := I.out.q.cell 0 _ rfl
          have q1 := I.out.q.cell 1 _ rfl
          have lq := I.out.q.lt
          have lp : w.heap.size < wr.heap.size := Nat.lt_trans I.out.qlt lq
          have CP : Kp (Calls Tryd.prog 12 #[.agg (rowK 3 s d r), .agg (portA qa qm qc g)] w1 fun e w' => ∃ v, e = .returned (.tuple #[.agg #[v, .int .i64 (getG ⟨3, s, d, r⟩ L g)], .string (getT ⟨3, s, d, r⟩ L g), .bool (getB ⟨3, s, d, r⟩ L g), errOf A (getC ⟨3, s, d, r⟩ L g)]) ∧ OwnS w' w1.heap.size v (getL ⟨3, s, d, r⟩ L g) ∧ Below w1.heap.size w1 w') := ⟨port_get A ⟨3, s, d, r⟩ qa qm qc L g w1 I1.out.rd ((HE.out.later I1.out.below).sub (by decide))⟩
          rw [HGC.out, HG.out.1, HG.out.2.1, HG.out.2.2.1, HG.out.2.2.2] at CP
          have hev : errOf A 17 = errv (A 17) := rfl
          rw [hev] at CP
          clear hev
          go_wp2_with fail
          rw [← E1.out]
          refine CP.out.mono ?_
          rintro e w2 ⟨v, rfl, ho, hb⟩
          obtain ⟨na, nc, nm, hnm, rfl⟩ := ho.shapeN
          obtain ⟨w3, e3⟩ : ∃ w3, w3 = w2.alloc (.cells #[.slice na nm nc, .int .i64 (0)] 29) := ⟨_, rfl⟩
          have b3 : Below w2.heap.size w2 w3 := by rw [e3]; exact below_alloc _ _
          have hb3 := hb.trans (b3.mono hb.size)
          have I3 := Kp.mk (I1.out.later hb3)
          have O3 := Kp.mk (O1.out.later hb3)
          have N3 : Kp (Blk w3 w2.heap.size #[.slice na nm nc, .int .i64 (0)] 29) := ⟨by rw [e3]; exact Blk.new _ _ _⟩
          have NO := Kp.mk (ho.later b3)
          have NL : Kp (w1.heap.size ≤ w2.heap.size) := ⟨hb.size⟩
          have E3 := Kp.mk e3
          clear c0 c1 c2 c3 q0 q1 lq lp hb b3 hb3 ho e3
          obtain ⟨c0, c1, c2, c3⟩ := plan4 I3.out.plan
          have o0 := O3.out.cell 0 _ rfl
          have o1 := O3.out.cell 1 _ rfl
          have n0 := N3.out.cell 0 _ rfl
          have n1 := N3.out.cell 1 _ rfl
          have hl0 : ((lm : Int) == 0) = true := by have := HL0.out; rw [this]; rfl
          have IF := I3
          clear c0 c1 c2 c3 o0 o1 n0 n1
          go_wp2_with fail
          rw [← E3.out]
          go_roundw
          case rel => exact ⟨i + 1, by omega, by go_num, ⟨⟨_, _, _, _, _, _, _, _, _, rfl, rfl, IF.out.next⟩⟩⟩
          case measure => simp [intOf]; omega
        have HL0 : Kp (0 < lm) := ⟨by omega⟩
        have HNN : Kp (L ≠ []) := ⟨fun e => hl (by rw [HLL.out, e]; rfl)⟩
        have HGC : Kp (getC ⟨3, s, d, r⟩ L g = 0) := ⟨getC_ok I.out.good rfl (by rw [← HLL.out]; exact hl)⟩
        have HG := Kp.mk (get_queue (g := g) HGC.out (show ¬ (3 : Int) = 1 by decide))
        have HGD := Kp.mk (get_good HGC.out)
        rw [HG.out.1, HG.out.2.1] at HGD
        clear hl
        obtain ⟨w1, e1⟩ : ∃ w1, w1 = wr.alloc (.cells #[.int .i64 2, .string S] 35) := ⟨_, rfl⟩
        have b1 : Below wr.heap.size wr w1 := by rw [e1]; exact below_alloc _ _
        have O1 : Kp (Blk w1 wr.heap.size #[.int .i64 2, .string S] 35) := ⟨by rw [e1]; exact Blk.new _ _ _⟩
        have I1 := Kp.mk (I.out.later b1)
        have s1 : Kp (w1.heap.size = wr.heap.size + 1) := ⟨by rw [e1]; simp⟩
        have E1 := Kp.mk e1
        clear b1 e1
        obtain ⟨c0, c1, c2, c3⟩ := plan4 I.out.plan
        have q0 := I.out.q.cell 0 _ rfl
        have q1 := I.out.q.cell 1 _ rfl
        have lq := I.out.q.lt
        have lp : w.heap.size < wr.heap.size := Nat.lt_trans I.out.qlt lq
        have CP : Kp (Calls Tryd.prog 12 #[.agg (rowK 3 s d r), .agg (portA qa qm qc g)] w1 fun e w' => ∃ v, e = .returned (.tuple #[.agg #[v, .int .i64 (getG ⟨3, s, d, r⟩ L g)], .string (getT ⟨3, s, d, r⟩ L g), .bool (getB ⟨3, s, d, r⟩ L g), errOf A (getC ⟨3, s, d, r⟩ L g)]) ∧ OwnS w' w1.heap.size v (getL ⟨3, s, d, r⟩ L g) ∧ Below w1.heap.size w1 w') := ⟨port_get A ⟨3, s, d, r⟩ qa qm qc L g w1 I1.out.rd ((HE.out.later I1.out.below).sub (by decide))⟩
        rw [HGC.out, HG.out.1, HG.out.2.1, HG.out.2.2.1, HG.out.2.2.2] at CP
        obtain ⟨T, hT⟩ : ∃ T, T = L.getD 0 noS := ⟨_, rfl⟩
        rw [← hT] at CP
        have HTT := Kp.mk hT
        clear hT
        go_wp2_with fail
        rw [← E1.out]
        refine CP.out.mono ?_
        rintro e w2 ⟨v, rfl, ho, hb⟩
        obtain ⟨na, nc, nm, hnm, rfl⟩ := ho.shapeN
        have I2 := Kp.mk (I1.out.later hb)
        have NO := Kp.mk ho
        have NL : Kp (w1.heap.size ≤ w2.heap.size) := ⟨hb.size⟩
        clear c0 c1 c2 c3 q0 q1 lq lp hb ho
        obtain ⟨c0, c1, c2, c3⟩ := plan4 I2.out.plan
        have q0 := I2.out.q.cell 0 _ rfl
        have q1 := I2.out.q.cell 1 _ rfl
        have f0 := I2.out.q.free 0
        have f1 := I2.out.q.free 1
        have lq := I2.out.q.lt
        have lp : w.heap.size < w2.heap.size := Nat.lt_trans I2.out.qlt lq
        have ne1 : ¬ w.heap.size = qb := by have := I2.out.qlt; omega
        have ne2 : ¬ qb = w.heap.size := by have := I2.out.qlt; omega
        have HLW : Kp (∀ k, (Value.slice la lm lc).ownBlock = some k → k < w1.heap.size ∧ k ≠ qb) := ⟨fun k hk => by
          have h1 := I.out.line.lt hk
          have := s1.out
          exact ⟨by omega, fun e => I.out.lfar (by rw [hk, e])⟩⟩
        have HQB : Kp (qb < w1.heap.size ∧ w.heap.size + 1 ≤ w1.heap.size) := ⟨by have := I.out.q.lt; have := I.out.qlt; have := s1.out; omega⟩
        have hnil : errOf A 0 = Value.nilIface := rfl
        simp only [hnil]
        clear hnil
        obtain ⟨ta, hto, htb, hsl⟩ := I2.out.line.tail (by have := HL0.out; omega)
        have HTO := Kp.mk (And.intro hto htb)
        clear hto htb
        have I5 : Kp (QI w ((w2.setCell ⟨qb, 0, none⟩ (.slice na nm nc)).setCell ⟨qb, 1, none⟩ (.int .i64 (0))) ⟨3, s, d, r⟩ qb ta (lm - 1) (lc - 1) (ag) (i + 1) (L.drop 1) (0) na nm nc) := ⟨by
          have he : (Value.slice ta (lm - 1) (lc - 1)).ownBlock = (Value.slice la lm lc).ownBlock := HTO.out.2
          refine QI.store (x := #[]) I2.out.below I2.out.plan ⟨_, _, I2.out.q⟩ (NO.out.mono HQB.out.2) (fun e => by have := (ownS_in NO.out e).1; have := HQB.out.1; omega) HTO.out.1 (fun e => ?_) (fun b hb e => ?_) I2.out.qlt HGD.out I2.out.age0 (by have := I2.out.agei; omega) (fun h => absurd h (show ¬ (3 : Int) = 1 by decide))
          · rw [he] at e; exact (HLW.out _ e).2 rfl
          · rw [he] at hb
            have h1 := (HLW.out _ hb).1
            have h2 := (ownS_in NO.out e).1
            omega⟩
        obtain ⟨w6, e6⟩ : ∃ w6, w6 = ((w2.setCell ⟨qb, 0, none⟩ (.slice na nm nc)).setCell ⟨qb, 1, none⟩ (.int .i64 (0))).alloc (.cells #[.slice na nm nc, .int .i64 (0)] 29) := ⟨_, rfl⟩
        have I6 := Kp.mk (I5.out.later (below_alloc _ (.cells #[.slice na nm nc, .int .i64 (0)] 29)))
        rw [← e6] at I6
        have E6 := Kp.mk e6
        have HCK := Kp.mk (check_good A I6.out ((HE.out.later I6.out.below).sub (by decide)))
        clear e6 I5
        obtain ⟨tb, to, hta, htc, hts⟩ := I2.out.rdl.at 0 (by have := HL0.out; omega)
        rw [← HTT.out, Nat.add_zero] at htc
        have hl0 : ((lm : Int) == 0) = false := by have := HL0.out; simp; omega
        have hi0 : (0 : Int) < (lm : Int) := by have := HL0.out; omega
        have ltb := World.block_lt_of_cell? w2 _ htc
        subst hta
        clear hts
        go_wp2_with fail
        rw [← E6.out]
        refine HCK.out.mono ?_
        rintro e w7 ⟨rfl, hb⟩
        have I7 := Kp.mk (I6.out.later hb)
        have hne := I7.out.lens.1
        clear hb c0 c1 c2 c3 q0 q1 f0 f1 lq lp HCK
        have q0 := I7.out.q.cell 0 _ rfl
        go_wp2_with fail
        go_roundw
        case rel => exact ⟨i + 1, by omega, by go_num, ⟨⟨_, _, _, _, _, _, _, _, _, rfl, rfl, I7.out⟩⟩⟩
        case measure => simp [intOf]; omega
      have hk2 : (κ == 2) = false := by simpa using h2
      by_cases h3 : κ = 3
      · subst h3
        clear h1 h2 hk1 hk2
        obtain ⟨w1, e1⟩ : ∃ w1, w1 = wr.alloc (.cells #[.int .i64 3, .string S] 35) := ⟨_, rfl⟩
        have b1 : Below wr.heap.size wr w1 := by rw [e1]; exact below_alloc _ _
        have O1 : Kp (Blk w1 wr.heap.size #[.int .i64 3, .string S] 35) := ⟨by rw [e1]; exact Blk.new _ _ _⟩
        have I1 := Kp.mk (I.out.later b1)
        have s1 : Kp (w1.heap.size = wr.heap.size + 1) := ⟨by rw [e1]; simp⟩
        have E1 := Kp.mk e1
        clear b1 e1
        obtain ⟨c0, c1, c2, c3⟩ := plan4 I.out.plan
        have q0 := I.out.q.cell 0 _ rfl
        have q1 := I.out.q.cell 1 _ rfl
        have lq := I.out.q.lt
        have lp : w.heap.size < wr.heap.size := Nat.lt_trans I.out.qlt lq
        have CP : Kp (Calls Tryd.prog 13 #[.agg (rowK 3 s d r), .agg (portA qa qm qc g)] w1 fun e w' => ∃ v, e = .returned (.tuple #[.agg #[v, .int .i64 (ageG ⟨3, s, d, r⟩ L g)], errOf A (portC ⟨3, s, d, r⟩ L g)]) ∧ OwnS w' w1.heap.size v (ageL ⟨3, s, d, r⟩ L g) ∧ Below w1.heap.size w1 w') := ⟨port_age A ⟨3, s, d, r⟩ qa qm qc L g w1 I1.out.rd ((HE.out.later I1.out.below).sub (by decide))⟩
        rw [I.out.good] at CP
        have HGD := Kp.mk (age_good I.out.good)
        have HST := Kp.mk (age_step I.out.good I.out.ages I.out.age0)
        have hal : ageL ⟨3, s, d, r⟩ L g = L := by unfold ageL; rw [decide_eq_true I.out.good]; rfl
        rw [hal] at CP HGD HST
        obtain ⟨gg, hgg⟩ : ∃ x, x = ageG ⟨3, s, d, r⟩ L g := ⟨_, rfl⟩
        rw [← hgg] at CP HGD HST
        have ha0 := I.out.age0
        have hai := I.out.agei
        clear hal hgg
        go_wp2_with fail
        rw [← E1.out]
        refine CP.out.mono ?_
        rintro e w2 ⟨v, rfl, ho, hb⟩
        obtain ⟨na, nc, nm, hnm, rfl⟩ := ho.shapeN
        have I2 := Kp.mk (I1.out.later hb)
        have NO := Kp.mk ho
        have NL : Kp (w1.heap.size ≤ w2.heap.size) := ⟨hb.size⟩
        clear c0 c1 c2 c3 q0 q1 lq lp hb ho
        obtain ⟨c0, c1, c2, c3⟩ := plan4 I2.out.plan
        have q0 := I2.out.q.cell 0 _ rfl
        have q1 := I2.out.q.cell 1 _ rfl
        have f0 := I2.out.q.free 0
        have f1 := I2.out.q.free 1
        have lq := I2.out.q.lt
        have lp : w.heap.size < w2.heap.size := Nat.lt_trans I2.out.qlt lq
        have ne1 : ¬ w.heap.size = qb := by have := I2.out.qlt; omega
        have ne2 : ¬ qb = w.heap.size := by have := I2.out.qlt; omega
        have HLW : Kp (∀ k, (Value.slice la lm lc).ownBlock = some k → k < w1.heap.size ∧ k ≠ qb) := ⟨fun k hk => by
          have h1 := I.out.line.lt hk
          have := s1.out
          exact ⟨by omega, fun e => I.out.lfar (by rw [hk, e])⟩⟩
        have HQB : Kp (qb < w1.heap.size ∧ w.heap.size + 1 ≤ w1.heap.size) := ⟨by have := I.out.q.lt; have := I.out.qlt; have := s1.out; omega⟩
        have hnil : errOf A 0 = Value.nilIface := rfl
        simp only [hnil]
        clear hnil
        have I5 : Kp (QI w ((w2.setCell ⟨qb, 0, none⟩ (.slice na nm nc)).setCell ⟨qb, 1, none⟩ (.int .i64 (gg))) ⟨3, s, d, r⟩ qb la lm lc (ag + 1) (i + 1) (L) (gg) na nm nc) := ⟨by
          have he : (Value.slice la lm lc).ownBlock = (Value.slice la lm lc).ownBlock := rfl
          refine QI.store (x := #[]) I2.out.below I2.out.plan ⟨_, _, I2.out.q⟩ (NO.out.mono HQB.out.2) (fun e => by have := (ownS_in NO.out e).1; have := HQB.out.1; omega) I2.out.line (fun e => ?_) (fun b hb e => ?_) I2.out.qlt HGD.out (by have := I2.out.age0; omega) (by have := I2.out.agei; omega) HST.out
          · rw [he] at e; exact (HLW.out _ e).2 rfl
          · rw [he] at hb
            have h1 := (HLW.out _ hb).1
            have h2 := (ownS_in NO.out e).1
            omega⟩
        obtain ⟨w6, e6⟩ : ∃ w6, w6 = ((w2.setCell ⟨qb, 0, none⟩ (.slice na nm nc)).setCell ⟨qb, 1, none⟩ (.int .i64 (gg))).alloc (.cells #[.slice na nm nc, .int .i64 (gg)] 29) := ⟨_, rfl⟩
        have I6 := Kp.mk (I5.out.later (below_alloc _ (.cells #[.slice na nm nc, .int .i64 (gg)] 29)))
        rw [← e6] at I6
        have E6 := Kp.mk e6
        have HCK := Kp.mk (check_good A I6.out ((HE.out.later I6.out.below).sub (by decide)))
        clear e6 I5
        go_wp2_with fail
        rw [← E6.out]
        refine HCK.out.mono ?_
        rintro e w7 ⟨rfl, hb⟩
        have I7 := Kp.mk (I6.out.later hb)
        have hne := I7.out.lens.1
        clear hb c0 c1 c2 c3 q0 q1 f0 f1 lq lp HCK
        have q0 := I7.out.q.cell 0 _ rfl
        go_wp2_with fail
        go_roundw
        case rel => exact ⟨i + 1, by omega, by go_num, ⟨⟨_, _, _, _, _, _, _, _, _, rfl, rfl, I7.out⟩⟩⟩
        case measure => simp [intOf]; omega
      have hk3 : (κ == 3) = false := by simpa using h3
      clear h1 h2 h3
      obtain ⟨w1, e1⟩ : ∃ w1, w1 = wr.alloc (.cells #[.int .i64 κ, .string S] 35) := ⟨_, rfl⟩
      have b1 : Below wr.heap.size wr w1 := by rw [e1]; exact below_alloc _ _
      have O1 : Kp (Blk w1 wr.heap.size #[.int .i64 κ, .string S] 35) := ⟨by rw [e1]; exact Blk.new _ _ _⟩
      have I1 := Kp.mk (I.out.later b1)
      have s1 : Kp (w1.heap.size = wr.heap.size + 1) := ⟨by rw [e1]; simp⟩
      have E1 := Kp.mk e1
      clear b1 e1
      obtain ⟨c0, c1, c2, c3⟩ := plan4 I.out.plan
      have q0 := I.out.q.cell 0 _ rfl
      have q1 := I.out.q.cell 1 _ rfl
      have lq := I.out.q.lt
      have lp : w.heap.size < wr.heap.size := Nat.lt_trans I.out.qlt lq
      have I6 : Kp (QI w w1 ⟨3, s, d, r⟩ qb la lm lc ag (i + 1) L g qa qm qc) := ⟨I1.out.next⟩
      have HCK := Kp.mk (check_good A I6.out ((HE.out.later I6.out.below).sub (by decide)))
      go_wp2_with fail
      rw [← E1.out]
      refine HCK.out.mono ?_
      rintro e w7 ⟨rfl, hb⟩
      have I7 := Kp.mk (I6.out.later hb)
      have hne := I7.out.lens.1
      clear hb c0 c1 c2 c3 q0 q1 lq lp HCK
      have q0 := I7.out.q.cell 0 _ rfl
      go_wp2_with fail
      go_roundw
      case rel => exact ⟨i + 1, by omega, by go_num, ⟨⟨_, _, _, _, _, _, _, _, _, rfl, rfl, I7.out⟩⟩⟩
      case measure => simp [intOf]; omega
    · have : i = n := by omega
      subst this
      have hb : decide ((i : Int) < i) = false := by simp
      go_wp2
      go_ret
      exact ⟨rfl, I.out.below⟩
set_option maxRecDepth 100000 in
set_option maxHeartbeats 8000000 in
theorem queues_bad (A : Nat → Addr) (k s d r : Int) (a : Option Addr) (n cap : Nat) (w : World) (hE : Errs w allCodes A) (hbad : planC ⟨k, s, d, r⟩ ≠ 0 ∨ inK k = false) :
    Calls Tryd.prog 3 #[.agg (rowK k s d r), .slice a n cap] w fun e w' => e = .returned (.bool true) ∧ Below w.heap.size w w' := by
  obtain ⟨w1, e1, p1, b1⟩ := plan_box w k s d r
  have HE := Kp.mk hE
  have HF := Kp.mk (law_fixed A w1 (hE.later b1))
  have E1 := Kp.mk e1
  have P1 := Kp.mk p1
  have B1 := Kp.mk b1
  obtain ⟨ec, hec⟩ : ∃ ec, addC ⟨k, s, d, r⟩ [] 0 noS (inK (PortP.mk k s d r).kind) = ec + 1 := ⟨addC ⟨k, s, d, r⟩ [] 0 noS (inK (PortP.mk k s d r).kind) - 1, by have := put_fails ⟨k, s, d, r⟩ noS hbad; omega⟩
  have HEC := Kp.mk hec
  obtain ⟨pc, hpc⟩ : ∃ pc, pc = planC ⟨k, s, d, r⟩ := ⟨_, rfl⟩
  rw [← hpc] at hbad
  have HPC := Kp.mk hpc
  clear hE e1 p1 b1 hec hpc
  have step : ∀ (_ : ((pc : Int) != 0) = true ∨ (((pc : Int) != 0) = false ∧ (k != 1) = true ∧ (k != 3) = true)),
      Calls Tryd.prog 3 #[.agg (rowK k s d r), .slice a n cap] w fun e w' => e = .returned (.bool true) ∧ Below w.heap.size w w' := by
    intro hcase
    clear hbad
    rcases hcase with hz | ⟨hz, hk1, hk3⟩
    all_goals (
      go_enter Tryd.func3, Tryd.ntmps3
      go_wp2_with fail
      rw [← E1.out]
      refine HF.out.mono ?_
      rintro e w2 ⟨rfl, hb⟩
      have P2 := Kp.mk (P1.out.later hb)
      have B2 := Kp.mk (B1.out.trans (hb.mono B1.out.size))
      have HCP := Kp.mk (ref_checkPlan ⟨k, s, d, r⟩ w2)
      rw [← HPC.out] at HCP
      clear hb
      obtain ⟨c0, c1, c2, c3⟩ := plan4 P2.out
      go_wp2_with fail
      refine HCP.out.mono ?_
      rintro e w3 ⟨rfl, hb⟩
      have P3 := Kp.mk (P2.out.later hb)
      have B3 := Kp.mk (B2.out.trans (hb.mono B2.out.size))
      have HP := Kp.mk (port_put A ⟨k, s, d, r⟩ none 0 0 [] 0 noS w3 (rdNil _) (by decide) ((HE.out.later B3.out).sub (by decide)))
      rw [HEC.out] at HP
      have hev : errOf A (ec + 1) = errv (A (ec + 1)) := rfl
      rw [hev] at HP
      clear hb c0 c1 c2 c3 hev
      obtain ⟨c0, c1, c2, c3⟩ := plan4 P3.out
      have hzp := zvPort
      go_wp2_with fail
      refine HP.out.mono ?_
      rintro e w4 ⟨v, rfl, ho, hb⟩
      obtain ⟨na, nc, nm, hnm, rfl⟩ := ho.shapeN
      have B4 := Kp.mk ((B3.out.trans (hb.mono B3.out.size)).alloc (B3.out.trans (hb.mono B3.out.size)).size (.cells #[.slice na nm nc, .int .i64 0] 29))
      clear hb ho c0 c1 c2 c3
      go_wp2_with fail
      go_ret
      exact ⟨rfl, B4.out⟩)
  by_cases hz : pc = 0
  · refine step (.inr ⟨by rw [hz]; rfl, ?_, ?_⟩)
    · rcases hbad with h | h
      · exact absurd hz h
      · have : ¬ (k = 1 ∨ k = 3) := of_decide_eq_false h
        simp; omega
    · rcases hbad with h | h
      · exact absurd hz h
      · have : ¬ (k = 1 ∨ k = 3) := of_decide_eq_false h
        simp; omega
  · exact step (.inl (by simpa using hz))
theorem law_PortQueues (A : Nat → Addr) (k s d r : Int) (a : Option Addr) (n cap : Nat) (C : Nat → StepV) (w : World) (h : RdT w a n cap C) (hE : Errs w allCodes A) :
    Calls Tryd.prog 3 #[.agg (rowK k s d r), .slice a n cap] w fun e w' => e = .returned (.bool true) ∧ Below w.heap.size w w' := by
  by_cases hp : planC ⟨k, s, d, r⟩ = 0
  · by_cases h1 : k = 1
    · subst h1; exact queues_1 A s d r a n cap C w h hE hp
    by_cases h3 : k = 3
    · subst h3; exact queues_3 A s d r a n cap C w h hE hp
    exact queues_bad A k s d r a n cap w hE (.inr (decide_eq_false (by omega)))
  · exact queues_bad A k s d r a n cap w hE (.inl hp)
end Go.Proofs.YtjlgnbjfgeppcaaDoor
