/- The law's told; the document's SamePorts at equals: walked. -/
import Derived.Test.YtjlgnbjfgeppcaaDoorPortEach
namespace Go.Proofs.YtjlgnbjfgeppcaaDoor
open Go Go.RowKit
set_option linter.unusedVariables false
attribute [local go_sem ↓] Go.wp_at_zero Go.wp_at_succ

set_option maxRecDepth 100000 in
set_option maxHeartbeats 4000000 in
theorem law_told {A : Nat → Addr} (w : World) (hE : Errs w allCodes A) (hT : TypeVar w) (c : Nat) (pl : Int) (v : Value) (hv : ErrP w A c pl v) :
    Calls Tryd.prog 43 #[v, .agg (errA c pl)] w fun e w' => e = .returned (.bool true) ∧ Below w.heap.size w w' := by
  obtain ⟨w2, e2⟩ : ∃ w2, w2 = w.alloc (.cells (errA c pl) 89) := ⟨_, rfl⟩
  have b2 : Below w.heap.size w w2 := by rw [e2]; exact below_alloc _ _
  have z2 : Blk w2 w.heap.size (errA c pl) 89 := by rw [e2]; exact Blk.new _ _ _
  have E2 := Kp.mk e2
  have B2 := Kp.mk b2
  have Z2 := Kp.mk z2
  have HC : Kp (∀ x, Below w2.heap.size w2 x → Calls Tryd.prog 49 #[v] x fun e w' => e = .returned (.int .i64 (c : Int)) ∧ x = w') := ⟨fun x hx => ((hv.later (b2.trans (hx.mono b2.size))).code (hE.later (b2.trans (hx.mono b2.size)))).mono fun e w' ⟨h1, h2⟩ => ⟨h1, h2.symm⟩⟩
  have HP : Kp (∀ x, Below w2.heap.size w2 x → Calls Tryd.prog 58 #[v] x fun e w' => e = .returned (.int .i64 pl) ∧ Below w2.heap.size w2 w') := ⟨fun x hx => ((hv.later (b2.trans (hx.mono b2.size))).place (hT.later (b2.trans (hx.mono b2.size)))).mono fun e w' ⟨h1, h2⟩ => ⟨h1, hx.trans (h2.mono hx.size)⟩⟩
  have SQ : Kp (∀ x, Below w2.heap.size w2 x → x.cell? ⟨w.heap.size, 0, none⟩ = some (.int .i64 (c : Int)) ∧ x.cell? ⟨w.heap.size, 1, none⟩ = some (.int .i64 pl)) := ⟨fun x hx => ⟨(z2.later hx).cell 0 _ rfl, (z2.later hx).cell 1 _ rfl⟩⟩
  have z0 := z2.cell 0 _ rfl
  have z1 := z2.cell 1 _ rfl
  have hcc : ((c : Int) == (c : Int)) = true := by simp
  have hpp : (pl == pl) = true := by simp
  clear hE hT hv b2 z2 e2
  go_enter Tryd.func43, Tryd.ntmps43
  go_wp2_with fail
  rw [← E2.out]
  go_region_held3 (fun x => x.cell? ⟨w.heap.size, 0, none⟩ = some (.int .i64 (c : Int)) ∧ x.cell? ⟨w.heap.size, 1, none⟩ = some (.int .i64 pl)) (first | exact SQ.out _ (Drew.once _).below | exact SQ.out _ HX2.out)
    (first
      | (go_at_call 49; (with_reducible refine (HC.out _ (Drew.once _).below).mono ?_); rintro e x1 ⟨rfl, rfl⟩)
      | (go_at_call 58; (with_reducible refine (HP.out _ (Drew.once _).below).mono ?_); rintro e x2 ⟨rfl, hb⟩; have HX2 := Kp.mk hb; clear hb))
  all_goals (
    go_wp2_with fail
    go_ret
    exact ⟨rfl, B2.out.trans (HX2.out.mono B2.out.size)⟩)
set_option maxRecDepth 100000 in
set_option maxHeartbeats 4000000 in
theorem ref_samePorts (a : Option Addr) (n cap : Nat) (V : Nat → PortV) (b : Option Addr) (m cap2 : Nat) (U : Nat → PortV) (w : World) (h : RdPo w a n cap V) (h2 : RdPo w b m cap2 U) (hnm : n = m) (he : ∀ i, i < n → (V i).l = (U i).l ∧ (V i).g = (U i).g) :
    Calls Tryd.prog 44 #[.slice a n cap, .slice b m cap2] w fun e w' => e = .returned (.bool true) ∧ Below w.heap.size w w' := by
  have H := Kp.mk h
  have G := Kp.mk h2
  have HE := Kp.mk he
  have hn := h.bound
  subst hnm
  clear h h2 he
  go_enter Tryd.func44, Tryd.ntmps44
  go_wp2
  go_loopw [5] (fun iv wr => ∃ i : Nat, i ≤ n ∧ iv = .int .i64 (i : Int) ∧ Kp (Below w.heap.size w wr)) (fun iv _ => n - (intOf iv).toNat)
  case atStart => exact ⟨0, by omega, rfl, ⟨Below.refl _ _⟩⟩
  case round =>
    obtain ⟨i, hi, rfl, HB⟩ := hrel
    by_cases hlt : i < n
    · have hb : decide ((i : Int) < n) = true := decide_eq_true (by omega)
      have hb1 : (0 : Int) ≤ (i : Int) := by omega
      have hb2 : (i : Int) < (n : Int) := by omega
      obtain ⟨b1, o1, ha1, q0, q1⟩ := (H.out.later HB.out).at i hlt
      obtain ⟨b2, o2, ha2, u0, u1⟩ := (G.out.later HB.out).at i hlt
      have r1 := (H.out.later HB.out).rd i hlt
      have r2 := (G.out.later HB.out).rd i hlt
      obtain ⟨hl, hg⟩ := HE.out i hlt
      obtain ⟨⟨va, vm, vc, vg, vl⟩, hv⟩ : ∃ v, v = V i := ⟨_, rfl⟩
      obtain ⟨⟨ua, um, uc, ug, ul⟩, hu⟩ : ∃ v, v = U i := ⟨_, rfl⟩
      rw [← hv] at q0 q1 r1 hl hg
      rw [← hu] at u0 u1 r2 hl hg
      obtain rfl : vl = ul := hl
      obtain rfl : vg = ug := hg
      have q0 : wr.cell? ⟨b1, o1 + i * 2, none⟩ = some (.slice va vm vc) := q0
      have q1 : wr.cell? ⟨b1, o1 + i * 2 + 1, none⟩ = some (.int .i64 vg) := q1
      have u0 : wr.cell? ⟨b2, o2 + i * 2, none⟩ = some (.slice ua um uc) := u0
      have u1 : wr.cell? ⟨b2, o2 + i * 2 + 1, none⟩ = some (.int .i64 vg) := u1
      have R1 : Kp (RdS wr va vm vc vl) := ⟨r1⟩
      have R2 : Kp (RdS wr ua um uc vl) := ⟨r2⟩
      have Q0 := Kp.mk q0
      have Q1 := Kp.mk q1
      have U0 := Kp.mk u0
      have U1 := Kp.mk u1
      have HC : Kp (∀ v, Below wr.heap.size wr v → Calls Tryd.prog 26 #[.agg (portA va vm vc vg), .agg (portA ua um uc vg)] v fun e w' => e = .returned (.bool true) ∧ Below wr.heap.size wr w') := ⟨fun v hv => (ref_same va vm vc ua um uc vl vg v (R1.out.later hv) (R2.out.later hv)).mono fun e w' ⟨h1, h2⟩ => ⟨h1, hv.trans (h2.mono hv.size)⟩⟩
      have SQ : Kp (∀ v, Below wr.heap.size wr v → v.cell? ⟨b1, o1 + i * 2, none⟩ = some (.slice va vm vc) ∧ v.cell? ⟨b1, o1 + i * 2 + 1, none⟩ = some (.int .i64 vg) ∧ v.cell? ⟨b2, o2 + i * 2, none⟩ = some (.slice ua um uc) ∧ v.cell? ⟨b2, o2 + i * 2 + 1, none⟩ = some (.int .i64 vg)) := ⟨fun v hv => ⟨scell_later hv Q0.out, scell_later hv Q1.out, scell_later hv U0.out, scell_later hv U1.out⟩⟩
      subst ha1
      subst ha2
      clear hv hu r1 r2
      go_wp2_with fail
      go_region_held3 (fun v => v.cell? ⟨b1, o1 + i * 2, none⟩ = some (.slice va vm vc) ∧ v.cell? ⟨b1, o1 + i * 2 + 1, none⟩ = some (.int .i64 vg) ∧ v.cell? ⟨b2, o2 + i * 2, none⟩ = some (.slice ua um uc) ∧ v.cell? ⟨b2, o2 + i * 2 + 1, none⟩ = some (.int .i64 vg)) (first | exact SQ.out _ (Drew.once _).below | exact SQ.out _ HX1.out)
        ((go_at_call 26; (with_reducible refine (HC.out _ (Drew.once _).below).mono ?_); rintro e x1 ⟨rfl, hb⟩; have HX1 := Kp.mk hb; clear hb))
      have HB3 := Kp.mk (HB.out.trans (HX1.out.mono HB.out.size))
      clear q0 q1 u0 u1 SQ HC
      go_wp2_with fail
      go_roundw
      case rel => exact ⟨i + 1, by omega, by go_num, HB3⟩
      case measure => simp [intOf]; omega
    · have : i = n := by omega
      subst this
      have hb : decide ((i : Int) < i) = false := by simp
      go_wp2
      go_ret
      exact ⟨rfl, HB.out⟩
end Go.Proofs.YtjlgnbjfgeppcaaDoor
