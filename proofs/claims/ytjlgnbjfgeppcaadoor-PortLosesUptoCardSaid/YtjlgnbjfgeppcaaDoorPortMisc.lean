/- Free, Most of both sides; Same, SameTexts at equals; the law's same: walked. -/
import Derived.Test.YtjlgnbjfgeppcaaDoorRefAge
namespace Go.Proofs.YtjlgnbjfgeppcaaDoor
open Go Go.RowKit
set_option linter.unusedVariables false

theorem ret2_int {k : IntKind} {a b : Int} {v : Value} (h : a = b) : Ending.returned (.tuple #[.int k a, v]) = .returned (.tuple #[.int k b, v]) := by rw [h]
theorem planC_zero {p : PortP} (h : planC p = 0) : 1 ≤ p.kind ∧ p.kind ≤ 4 ∧ 1 ≤ p.size ∧ p.size ≤ 32 ∧ 1 ≤ p.depth ∧ p.depth ≤ depthM p.kind ∧ 0 ≤ p.refresh ∧ p.refresh ≤ refrM p.kind := by
  by_cases h0 : p.kind < 1 ∨ 4 < p.kind
  · rw [planC_kind h0] at h; omega
  by_cases h1 : p.size < 1 ∨ 32 < p.size
  · rw [planC_size h0 h1] at h; omega
  by_cases h2 : p.depth < 1 ∨ depthM p.kind < p.depth ∨ p.refresh < 0 ∨ refrM p.kind < p.refresh
  · rw [planC_range h0 h1 h2] at h; omega
  omega
theorem depthM_le (k : Int) : depthM k ≤ 8 := by unfold depthM; cases decide (3 ≤ k) <;> simp
theorem depthM_low {k : Int} (h : k < 3) : depthM k = 1 := by unfold depthM; rw [decide_eq_false (by omega)]; rfl
theorem portC_plan0 {p : PortP} {l : List ByteArray} {g : Int} (h : portC p l g = 0) : planC p = 0 := (portC_zero h).1
theorem portC_or (p : PortP) (l : List ByteArray) (g : Int) : portC p l g = 0 ∨ portC p l g = 8 ∨ portC p l g = 9 := by
  unfold portC
  cases decide (planC p = 0) <;> simp
  cases fitsP p l g <;> simp
theorem planC_or (p : PortP) : planC p = 0 ∨ planC p = 4 ∨ planC p = 7 ∨ planC p = 11 := by
  by_cases h0 : p.kind < 1 ∨ 4 < p.kind
  · rw [planC_kind h0]; omega
  by_cases h1 : p.size < 1 ∨ 32 < p.size
  · rw [planC_size h0 h1]; omega
  by_cases h2 : p.depth < 1 ∨ depthM p.kind < p.depth ∨ p.refresh < 0 ∨ refrM p.kind < p.refresh
  · rw [planC_range h0 h1 h2]; omega
  rw [planC_ok h0 h1 h2]; omega
/-- Free: the answer, the code. -/
def freeC (p : PortP) (l : List ByteArray) (g : Int) : Nat := bif decide (portC p l g = 0) then (bif decide (p.kind < 3) then 7 else 0) else portC p l g
def freeB (p : PortP) (l : List ByteArray) (g : Int) : Bool := bif decide (portC p l g = 0) then (bif decide (p.kind = 3) then decide (0 < l.length) else bif decide (p.kind = 4) then decide ((l.length : Int) < p.depth) else false) else false
/-- Most: the number, the code. -/
def mostC (p : PortP) : Nat := bif decide (planC p = 0) then 0 else 8
def mostN (p : PortP) : Int := bif decide (planC p = 0) then (bif decide (p.kind = 1) then 3 + p.size else bif decide (p.kind = 3) then 2 + p.depth * (1 + p.size) else 2) else 0
set_option maxRecDepth 100000 in
set_option maxHeartbeats 8000000 in
theorem port_free (A : Nat → Addr) (p : PortP) (a : Option Addr) (n cap : Nat) (l : List ByteArray) (g : Int) (w : World) (h : RdS w a n cap l) (hE : Errs w [4, 7, 8, 9, 11] A) :
    Calls Tryd.prog 36 #[.agg p.row.toArray, .agg (portA a n cap g)] w fun e w' => e = .returned (.tuple #[.bool (freeB p l g), errOf A (freeC p l g)]) ∧ Below w.heap.size w w' := by
  obtain ⟨k, s, d, r⟩ := p
  obtain ⟨w2, e2, p2, q2, b2⟩ := both_box w k s d r a n cap g
  have E2 := Kp.mk e2
  have B2 := Kp.mk b2
  have PQ := Kp.mk (And.intro q2 p2)
  have hln := h.len
  have hnb := h.bound
  have HE := Kp.mk (hE.later b2)
  have HC := Kp.mk (port_check A ⟨k, s, d, r⟩ a n cap l g w2 (h.later b2) HE.out)
  clear h e2 p2 q2 b2 hE
  by_cases hc : portC ⟨k, s, d, r⟩ l g = 0
  · have hpl := planC_zero (portC_plan0 hc)
    have hk1 : 1 ≤ k := hpl.1
    have hk4 : k ≤ 4 := hpl.2.1
    clear hpl
    rcases (by omega : k = 1 ∨ k = 2 ∨ k = 3 ∨ k = 4) with rfl | rfl | rfl | rfl
    · clear hk1 hk4
      have e1 : freeC ⟨1, s, d, r⟩ l g = 7 := by unfold freeC; rw [decide_eq_true hc]; rfl
      have e2 : freeB ⟨1, s, d, r⟩ l g = (false) := by unfold freeB; rw [decide_eq_true hc]; rfl
      rw [e1, e2]
      rw [hc] at HC
      clear e1 e2 hc
      show Calls Tryd.prog 36 #[.agg (rowK 1 s d r), .agg (portA a n cap g)] w fun e w' => e = .returned (.tuple #[.bool (false), errv (A 7)]) ∧ Below w.heap.size w w'
      go_enter Tryd.func36, Tryd.ntmps36
      go_wp2_with fail
      rw [← E2.out]
      refine HC.out.mono ?_
      rintro e w3 ⟨rfl, hb⟩
      have q0 := (PQ.out.1.later hb).c0
      have c0 := (PQ.out.2.later hb).c0
      have c2 := (PQ.out.2.later hb).c2
      have B3 := Kp.mk (B2.out.trans (hb.mono B2.out.size))
      have hnil : (errOf A 0) = Value.nilIface := rfl
      simp only [hnil]
      clear hnil
      have x7 : w3.cell? ⟨0, 0, none⟩ = some (errv (A 7)) := (HE.out.later hb).cell 7 (by decide)
      clear hb
      go_wp2_with fail
      go_quiet (fail)
      go_wp2
      go_ret2
      exact ⟨rfl, B3.out.trans ((Drew.below ⟨nq, rfl⟩).mono B3.out.size)⟩
    · clear hk1 hk4
      have e1 : freeC ⟨2, s, d, r⟩ l g = 7 := by unfold freeC; rw [decide_eq_true hc]; rfl
      have e2 : freeB ⟨2, s, d, r⟩ l g = (false) := by unfold freeB; rw [decide_eq_true hc]; rfl
      rw [e1, e2]
      rw [hc] at HC
      clear e1 e2 hc
      show Calls Tryd.prog 36 #[.agg (rowK 2 s d r), .agg (portA a n cap g)] w fun e w' => e = .returned (.tuple #[.bool (false), errv (A 7)]) ∧ Below w.heap.size w w'
      go_enter Tryd.func36, Tryd.ntmps36
      go_wp2_with fail
      rw [← E2.out]
      refine HC.out.mono ?_
      rintro e w3 ⟨rfl, hb⟩
      have q0 := (PQ.out.1.later hb).c0
      have c0 := (PQ.out.2.later hb).c0
      have c2 := (PQ.out.2.later hb).c2
      have B3 := Kp.mk (B2.out.trans (hb.mono B2.out.size))
      have hnil : (errOf A 0) = Value.nilIface := rfl
      simp only [hnil]
      clear hnil
      have x7 : w3.cell? ⟨0, 0, none⟩ = some (errv (A 7)) := (HE.out.later hb).cell 7 (by decide)
      clear hb
      go_wp2_with fail
      go_quiet (fail)
      go_wp2
      go_ret2
      exact ⟨rfl, B3.out.trans ((Drew.below ⟨nq, rfl⟩).mono B3.out.size)⟩
    · clear hk1 hk4
      have e1 : freeC ⟨3, s, d, r⟩ l g = 0 := by unfold freeC; rw [decide_eq_true hc]; rfl
      have e2 : freeB ⟨3, s, d, r⟩ l g = (decide (0 < n)) := by unfold freeB; rw [decide_eq_true hc]; rw [hln]; rfl
      rw [e1, e2]
      rw [hc] at HC
      clear e1 e2 hc
      show Calls Tryd.prog 36 #[.agg (rowK 3 s d r), .agg (portA a n cap g)] w fun e w' => e = .returned (.tuple #[.bool (decide (0 < n)), .nilIface]) ∧ Below w.heap.size w w'
      go_enter Tryd.func36, Tryd.ntmps36
      go_wp2_with fail
      rw [← E2.out]
      refine HC.out.mono ?_
      rintro e w3 ⟨rfl, hb⟩
      have q0 := (PQ.out.1.later hb).c0
      have c0 := (PQ.out.2.later hb).c0
      have c2 := (PQ.out.2.later hb).c2
      have B3 := Kp.mk (B2.out.trans (hb.mono B2.out.size))
      have hnil : (errOf A 0) = Value.nilIface := rfl
      simp only [hnil]
      clear hnil
      clear hb
      go_wp2_with fail
      go_ret2
      exact ⟨by first | rfl | simp, B3.out⟩
    · clear hk1 hk4
      have e1 : freeC ⟨4, s, d, r⟩ l g = 0 := by unfold freeC; rw [decide_eq_true hc]; rfl
      have e2 : freeB ⟨4, s, d, r⟩ l g = (decide ((n : Int) < d)) := by unfold freeB; rw [decide_eq_true hc]; rw [hln]; rfl
      rw [e1, e2]
      rw [hc] at HC
      clear e1 e2 hc
      show Calls Tryd.prog 36 #[.agg (rowK 4 s d r), .agg (portA a n cap g)] w fun e w' => e = .returned (.tuple #[.bool (decide ((n : Int) < d)), .nilIface]) ∧ Below w.heap.size w w'
      go_enter Tryd.func36, Tryd.ntmps36
      go_wp2_with fail
      rw [← E2.out]
      refine HC.out.mono ?_
      rintro e w3 ⟨rfl, hb⟩
      have q0 := (PQ.out.1.later hb).c0
      have c0 := (PQ.out.2.later hb).c0
      have c2 := (PQ.out.2.later hb).c2
      have B3 := Kp.mk (B2.out.trans (hb.mono B2.out.size))
      have hnil : (errOf A 0) = Value.nilIface := rfl
      simp only [hnil]
      clear hnil
      clear hb
      go_wp2_with fail
      go_ret2
      exact ⟨by first | rfl | simp, B3.out⟩
  · have e1 : freeB ⟨k, s, d, r⟩ l g = false := by unfold freeB; rw [decide_eq_false hc]; rfl
    have e2 : freeC ⟨k, s, d, r⟩ l g = portC ⟨k, s, d, r⟩ l g := by unfold freeC; rw [decide_eq_false hc]; rfl
    rw [e1, e2]
    obtain ⟨c, ec⟩ : ∃ c, portC ⟨k, s, d, r⟩ l g = c + 1 := ⟨portC ⟨k, s, d, r⟩ l g - 1, by omega⟩
    rw [ec] at HC ⊢
    clear e1 e2 hc ec hln
    show Calls Tryd.prog 36 #[.agg (rowK k s d r), .agg (portA a n cap g)] w fun e w' => e = .returned (.tuple #[.bool false, errv (A (c + 1))]) ∧ Below w.heap.size w w'
    have hx : errOf A (c + 1) = errv (A (c + 1)) := rfl
    rw [hx] at HC
    clear hx
    go_enter Tryd.func36, Tryd.ntmps36
    go_wp2_with fail
    rw [← E2.out]
    refine HC.out.mono ?_
    rintro e w3 ⟨rfl, hb⟩
    have q0 := (PQ.out.1.later hb).c0
    have c0 := (PQ.out.2.later hb).c0
    have c2 := (PQ.out.2.later hb).c2
    have B3 := Kp.mk (B2.out.trans (hb.mono B2.out.size))
    clear hb
    go_wp2_with fail
    go_ret2
    exact ⟨rfl, B3.out⟩
set_option maxRecDepth 100000 in
set_option maxHeartbeats 8000000 in
theorem ref_free (p : PortP) (a : Option Addr) (n cap : Nat) (l : List ByteArray) (g : Int) (w : World) (h : RdS w a n cap l) :
    Calls Tryd.prog 37 #[.agg p.row.toArray, .agg (portA a n cap g)] w fun e w' => e = .returned (.tuple #[.bool (freeB p l g), .int .i64 (freeC p l g : Nat)]) ∧ Below w.heap.size w w' := by
  obtain ⟨k, s, d, r⟩ := p
  obtain ⟨w2, e2, p2, q2, b2⟩ := both_box w k s d r a n cap g
  have E2 := Kp.mk e2
  have B2 := Kp.mk b2
  have PQ := Kp.mk (And.intro q2 p2)
  have hln := h.len
  have hnb := h.bound
  have HC := Kp.mk (ref_check ⟨k, s, d, r⟩ a n cap l g w2 (h.later b2))
  clear h e2 p2 q2 b2
  by_cases hc : portC ⟨k, s, d, r⟩ l g = 0
  · have hpl := planC_zero (portC_plan0 hc)
    have hk1 : 1 ≤ k := hpl.1
    have hk4 : k ≤ 4 := hpl.2.1
    clear hpl
    rcases (by omega : k = 1 ∨ k = 2 ∨ k = 3 ∨ k = 4) with rfl | rfl | rfl | rfl
    · clear hk1 hk4
      have e1 : freeC ⟨1, s, d, r⟩ l g = 7 := by unfold freeC; rw [decide_eq_true hc]; rfl
      have e2 : freeB ⟨1, s, d, r⟩ l g = (false) := by unfold freeB; rw [decide_eq_true hc]; rfl
      rw [e1, e2]
      rw [hc] at HC
      clear e1 e2 hc
      show Calls Tryd.prog 37 #[.agg (rowK 1 s d r), .agg (portA a n cap g)] w fun e w' => e = .returned (.tuple #[.bool (false), .int .i64 7]) ∧ Below w.heap.size w w'
      go_enter Tryd.func37, Tryd.ntmps37
      go_wp2_with fail
      rw [← E2.out]
      refine HC.out.mono ?_
      rintro e w3 ⟨rfl, hb⟩
      have q0 := (PQ.out.1.later hb).c0
      have c0 := (PQ.out.2.later hb).c0
      have c2 := (PQ.out.2.later hb).c2
      have B3 := Kp.mk (B2.out.trans (hb.mono B2.out.size))
      clear hb
      go_wp2_with fail
      go_ret2
      exact ⟨rfl, B3.out⟩
    · clear hk1 hk4
      have e1 : freeC ⟨2, s, d, r⟩ l g = 7 := by unfold freeC; rw [decide_eq_true hc]; rfl
      have e2 : freeB ⟨2, s, d, r⟩ l g = (false) := by unfold freeB; rw [decide_eq_true hc]; rfl
      rw [e1, e2]
      rw [hc] at HC
      clear e1 e2 hc
      show Calls Tryd.prog 37 #[.agg (rowK 2 s d r), .agg (portA a n cap g)] w fun e w' => e = .returned (.tuple #[.bool (false), .int .i64 7]) ∧ Below w.heap.size w w'
      go_enter Tryd.func37, Tryd.ntmps37
      go_wp2_with fail
      rw [← E2.out]
      refine HC.out.mono ?_
      rintro e w3 ⟨rfl, hb⟩
      have q0 := (PQ.out.1.later hb).c0
      have c0 := (PQ.out.2.later hb).c0
      have c2 := (PQ.out.2.later hb).c2
      have B3 := Kp.mk (B2.out.trans (hb.mono B2.out.size))
      clear hb
      go_wp2_with fail
      go_ret2
      exact ⟨rfl, B3.out⟩
    · clear hk1 hk4
      have e1 : freeC ⟨3, s, d, r⟩ l g = 0 := by unfold freeC; rw [decide_eq_true hc]; rfl
      have e2 : freeB ⟨3, s, d, r⟩ l g = (decide (0 < n)) := by unfold freeB; rw [decide_eq_true hc]; rw [hln]; rfl
      rw [e1, e2]
      rw [hc] at HC
      clear e1 e2 hc
      show Calls Tryd.prog 37 #[.agg (rowK 3 s d r), .agg (portA a n cap g)] w fun e w' => e = .returned (.tuple #[.bool (decide (0 < n)), .int .i64 0]) ∧ Below w.heap.size w w'
      go_enter Tryd.func37, Tryd.ntmps37
      go_wp2_with fail
      rw [← E2.out]
      refine HC.out.mono ?_
      rintro e w3 ⟨rfl, hb⟩
      have q0 := (PQ.out.1.later hb).c0
      have c0 := (PQ.out.2.later hb).c0
      have c2 := (PQ.out.2.later hb).c2
      have B3 := Kp.mk (B2.out.trans (hb.mono B2.out.size))
      clear hb
      go_wp2_with fail
      go_ret2
      exact ⟨by first | rfl | simp, B3.out⟩
    · clear hk1 hk4
      have e1 : freeC ⟨4, s, d, r⟩ l g = 0 := by unfold freeC; rw [decide_eq_true hc]; rfl
      have e2 : freeB ⟨4, s, d, r⟩ l g = (decide ((n : Int) < d)) := by unfold freeB; rw [decide_eq_true hc]; rw [hln]; rfl
      rw [e1, e2]
      rw [hc] at HC
      clear e1 e2 hc
      show Calls Tryd.prog 37 #[.agg (rowK 4 s d r), .agg (portA a n cap g)] w fun e w' => e = .returned (.tuple #[.bool (decide ((n : Int) < d)), .int .i64 0]) ∧ Below w.heap.size w w'
      go_enter Tryd.func37, Tryd.ntmps37
      go_wp2_with fail
      rw [← E2.out]
      refine HC.out.mono ?_
      rintro e w3 ⟨rfl, hb⟩
      have q0 := (PQ.out.1.later hb).c0
      have c0 := (PQ.out.2.later hb).c0
      have c2 := (PQ.out.2.later hb).c2
      have B3 := Kp.mk (B2.out.trans (hb.mono B2.out.size))
      clear hb
      go_wp2_with fail
      go_ret2
      exact ⟨by first | rfl | simp, B3.out⟩
  · have e1 : freeB ⟨k, s, d, r⟩ l g = false := by unfold freeB; rw [decide_eq_false hc]; rfl
    have e2 : freeC ⟨k, s, d, r⟩ l g = portC ⟨k, s, d, r⟩ l g := by unfold freeC; rw [decide_eq_false hc]; rfl
    rw [e1, e2]
    have hz : (((portC ⟨k, s, d, r⟩ l g : Nat) : Int) != 0) = true := by simpa using hc
    obtain ⟨c, ec⟩ : ∃ c, c = portC ⟨k, s, d, r⟩ l g := ⟨_, rfl⟩
    rw [← ec] at HC hz ⊢
    clear e1 e2 hc ec hln
    show Calls Tryd.prog 37 #[.agg (rowK k s d r), .agg (portA a n cap g)] w fun e w' => e = .returned (.tuple #[.bool false, .int .i64 (c : Int)]) ∧ Below w.heap.size w w'
    go_enter Tryd.func37, Tryd.ntmps37
    go_wp2_with fail
    rw [← E2.out]
    refine HC.out.mono ?_
    rintro e w3 ⟨rfl, hb⟩
    have q0 := (PQ.out.1.later hb).c0
    have c0 := (PQ.out.2.later hb).c0
    have c2 := (PQ.out.2.later hb).c2
    have B3 := Kp.mk (B2.out.trans (hb.mono B2.out.size))
    clear hb
    go_wp2_with fail
    go_ret2
    exact ⟨rfl, B3.out⟩
set_option maxRecDepth 100000 in
set_option maxHeartbeats 8000000 in
theorem port_most (A : Nat → Addr) (p : PortP) (w : World) (hE : Errs w [4, 7, 8, 9, 11] A) :
    Calls Tryd.prog 38 #[.agg p.row.toArray] w fun e w' => e = .returned (.tuple #[.int .i64 (mostN p), errOf A (mostC p)]) ∧ Below w.heap.size w w' := by
  obtain ⟨k, s, d, r⟩ := p
  obtain ⟨w1, e1, p1, b1⟩ := plan_box w k s d r
  have E1 := Kp.mk e1
  have B1 := Kp.mk b1
  have P1 := Kp.mk p1
  have HE := Kp.mk (hE.later b1)
  have HC := Kp.mk (port_checkPlan A ⟨k, s, d, r⟩ w1 (HE.out.sub (by decide)))
  clear e1 p1 b1 hE
  by_cases hc : planC ⟨k, s, d, r⟩ = 0
  · obtain ⟨hk1, hk4, hs1, hs2, hd1, hd2, _, _⟩ := planC_zero hc
    have hd3 := depthM_le k
    have hk1 : 1 ≤ k := hk1
    have hk4 : k ≤ 4 := hk4
    have hs1 : 1 ≤ s := hs1
    have hs2 : s ≤ 32 := hs2
    have hd1 : 1 ≤ d := hd1
    have hd2 : d ≤ 8 := Int.le_trans hd2 hd3
    have hd4 : k < 3 → d = 1 := fun h => by have h5 := depthM_low h; have h6 : d ≤ depthM k := by assumption
                                            omega
    clear hd3
    have hm1 : 0 ≤ d * (1 + s) := Int.mul_nonneg (by omega) (by omega)
    have hm2 : d * (1 + s) ≤ 8 * 33 := Int.mul_le_mul hd2 (by omega) (by omega) (by omega)
    rcases (by omega : k = 1 ∨ k = 2 ∨ k = 3 ∨ k = 4) with rfl | rfl | rfl | rfl
    · have e1 : mostC ⟨1, s, d, r⟩ = 0 := by unfold mostC; rw [decide_eq_true hc]; rfl
      have e2 : mostN ⟨1, s, d, r⟩ = 3 + s := by unfold mostN; rw [decide_eq_true hc]; rfl
      rw [e1, e2]
      rw [hc] at HC
      clear e1 e2 hc
      obtain rfl : d = 1 := hd4 (by omega)
      clear hd4 hk1 hk4
      show Calls Tryd.prog 38 #[.agg (rowK 1 s 1 r)] w fun e w' => e = .returned (.tuple #[.int .i64 (3 + s), .nilIface]) ∧ Below w.heap.size w w'
      have HO : Kp (∀ w, Calls Tryd.prog 59 #[.agg (rowK 1 s 1 r)] w fun e w' => e = .returned (.bool false) ∧ Below w.heap.size w w') := ⟨fun w => port_isOut ⟨1, s, 1, r⟩ w⟩
      go_enter Tryd.func38, Tryd.ntmps38
      go_wp2_with fail
      rw [← E1.out]
      refine HC.out.mono ?_
      rintro e w3 ⟨rfl, hb⟩
      have P3 := Kp.mk (P1.out.later hb)
      have B3 := Kp.mk (B1.out.trans (hb.mono B1.out.size))
      clear hb
      have c0 := P3.out.c0
      have c1 := P3.out.c1
      have c2 := P3.out.c2
      have c3 := P3.out.c3
      have hnil : (errOf A 0) = Value.nilIface := rfl
      simp only [hnil]
      clear hnil
      go_wp2_with fail
      refine (HO.out _).mono ?_
      rintro e w4 ⟨rfl, hb⟩
      have P4 := Kp.mk (P3.out.later hb)
      have B4 := Kp.mk (B3.out.trans (hb.mono B3.out.size))
      clear hb c0 c1 c2 c3
      have c0 := P4.out.c0
      have c1 := P4.out.c1
      have c2 := P4.out.c2
      have c3 := P4.out.c3
      go_wp2_with fail
      go_ret2
      exact ⟨ret2_int (by omega), B4.out⟩
    · have e1 : mostC ⟨2, s, d, r⟩ = 0 := by unfold mostC; rw [decide_eq_true hc]; rfl
      have e2 : mostN ⟨2, s, d, r⟩ = 2 := by unfold mostN; rw [decide_eq_true hc]; rfl
      rw [e1, e2]
      rw [hc] at HC
      clear e1 e2 hc
      clear hd4 hk1 hk4
      show Calls Tryd.prog 38 #[.agg (rowK 2 s d r)] w fun e w' => e = .returned (.tuple #[.int .i64 (2), .nilIface]) ∧ Below w.heap.size w w'
      have HO : Kp (∀ w, Calls Tryd.prog 59 #[.agg (rowK 2 s d r)] w fun e w' => e = .returned (.bool true) ∧ Below w.heap.size w w') := ⟨fun w => port_isOut ⟨2, s, d, r⟩ w⟩
      go_enter Tryd.func38, Tryd.ntmps38
      go_wp2_with fail
      rw [← E1.out]
      refine HC.out.mono ?_
      rintro e w3 ⟨rfl, hb⟩
      have P3 := Kp.mk (P1.out.later hb)
      have B3 := Kp.mk (B1.out.trans (hb.mono B1.out.size))
      clear hb
      have c0 := P3.out.c0
      have c1 := P3.out.c1
      have c2 := P3.out.c2
      have c3 := P3.out.c3
      have hnil : (errOf A 0) = Value.nilIface := rfl
      simp only [hnil]
      clear hnil
      go_wp2_with fail
      refine (HO.out _).mono ?_
      rintro e w4 ⟨rfl, hb⟩
      have P4 := Kp.mk (P3.out.later hb)
      have B4 := Kp.mk (B3.out.trans (hb.mono B3.out.size))
      clear hb c0 c1 c2 c3
      have c0 := P4.out.c0
      have c1 := P4.out.c1
      have c2 := P4.out.c2
      have c3 := P4.out.c3
      go_wp2_with fail
      go_ret2
      exact ⟨rfl, B4.out⟩
    · have e1 : mostC ⟨3, s, d, r⟩ = 0 := by unfold mostC; rw [decide_eq_true hc]; rfl
      have e2 : mostN ⟨3, s, d, r⟩ = 2 + d * (1 + s) := by unfold mostN; rw [decide_eq_true hc]; rfl
      rw [e1, e2]
      rw [hc] at HC
      clear e1 e2 hc
      clear hd4 hk1 hk4
      show Calls Tryd.prog 38 #[.agg (rowK 3 s d r)] w fun e w' => e = .returned (.tuple #[.int .i64 (2 + d * (1 + s)), .nilIface]) ∧ Below w.heap.size w w'
      have HO : Kp (∀ w, Calls Tryd.prog 59 #[.agg (rowK 3 s d r)] w fun e w' => e = .returned (.bool false) ∧ Below w.heap.size w w') := ⟨fun w => port_isOut ⟨3, s, d, r⟩ w⟩
      go_enter Tryd.func38, Tryd.ntmps38
      go_wp2_with fail
      rw [← E1.out]
      refine HC.out.mono ?_
      rintro e w3 ⟨rfl, hb⟩
      have P3 := Kp.mk (P1.out.later hb)
      have B3 := Kp.mk (B1.out.trans (hb.mono B1.out.size))
      clear hb
      have c0 := P3.out.c0
      have c1 := P3.out.c1
      have c2 := P3.out.c2
      have c3 := P3.out.c3
      have hnil : (errOf A 0) = Value.nilIface := rfl
      simp only [hnil]
      clear hnil
      go_wp2_with fail
      refine (HO.out _).mono ?_
      rintro e w4 ⟨rfl, hb⟩
      have P4 := Kp.mk (P3.out.later hb)
      have B4 := Kp.mk (B3.out.trans (hb.mono B3.out.size))
      clear hb c0 c1 c2 c3
      have c0 := P4.out.c0
      have c1 := P4.out.c1
      have c2 := P4.out.c2
      have c3 := P4.out.c3
      go_wp2_with fail
      go_ret2
      exact ⟨rfl, B4.out⟩
    · have e1 : mostC ⟨4, s, d, r⟩ = 0 := by unfold mostC; rw [decide_eq_true hc]; rfl
      have e2 : mostN ⟨4, s, d, r⟩ = 2 := by unfold mostN; rw [decide_eq_true hc]; rfl
      rw [e1, e2]
      rw [hc] at HC
      clear e1 e2 hc
      clear hd4 hk1 hk4
      show Calls Tryd.prog 38 #[.agg (rowK 4 s d r)] w fun e w' => e = .returned (.tuple #[.int .i64 (2), .nilIface]) ∧ Below w.heap.size w w'
      have HO : Kp (∀ w, Calls Tryd.prog 59 #[.agg (rowK 4 s d r)] w fun e w' => e = .returned (.bool true) ∧ Below w.heap.size w w') := ⟨fun w => port_isOut ⟨4, s, d, r⟩ w⟩
      go_enter Tryd.func38, Tryd.ntmps38
      go_wp2_with fail
      rw [← E1.out]
      refine HC.out.mono ?_
      rintro e w3 ⟨rfl, hb⟩
      have P3 := Kp.mk (P1.out.later hb)
      have B3 := Kp.mk (B1.out.trans (hb.mono B1.out.size))
      clear hb
      have c0 := P3.out.c0
      have c1 := P3.out.c1
      have c2 := P3.out.c2
      have c3 := P3.out.c3
      have hnil : (errOf A 0) = Value.nilIface := rfl
      simp only [hnil]
      clear hnil
      go_wp2_with fail
      refine (HO.out _).mono ?_
      rintro e w4 ⟨rfl, hb⟩
      have P4 := Kp.mk (P3.out.later hb)
      have B4 := Kp.mk (B3.out.trans (hb.mono B3.out.size))
      clear hb c0 c1 c2 c3
      have c0 := P4.out.c0
      have c1 := P4.out.c1
      have c2 := P4.out.c2
      have c3 := P4.out.c3
      go_wp2_with fail
      go_ret2
      exact ⟨rfl, B4.out⟩
  · have e1 : mostC ⟨k, s, d, r⟩ = 8 := by unfold mostC; rw [decide_eq_false hc]; rfl
    have e2 : mostN ⟨k, s, d, r⟩ = 0 := by unfold mostN; rw [decide_eq_false hc]; rfl
    rw [e1, e2]
    clear e1 e2
    obtain ⟨c, ec⟩ : ∃ c, planC ⟨k, s, d, r⟩ = c + 1 := ⟨planC ⟨k, s, d, r⟩ - 1, by omega⟩
    rw [ec] at HC
    clear hc ec
    have hx : errOf A (c + 1) = errv (A (c + 1)) := rfl
    rw [hx] at HC
    clear hx
    show Calls Tryd.prog 38 #[.agg (rowK k s d r)] w fun e w' => e = .returned (.tuple #[.int .i64 0, errv (A 8)]) ∧ Below w.heap.size w w'
    go_enter Tryd.func38, Tryd.ntmps38
    go_wp2_with fail
    rw [← E1.out]
    refine HC.out.mono ?_
    rintro e w3 ⟨rfl, hb⟩
    have B3 := Kp.mk (B1.out.trans (hb.mono B1.out.size))
    have x8 : w3.cell? ⟨2, 0, none⟩ = some (errv (A 8)) := (HE.out.later hb).cell 8 (by decide)
    clear hb
    go_wp2_with fail
    go_quiet (fail)
    go_wp2
    go_ret2
    exact ⟨rfl, B3.out.trans ((Drew.below ⟨nq, rfl⟩).mono B3.out.size)⟩
set_option maxRecDepth 100000 in
set_option maxHeartbeats 8000000 in
theorem ref_most (p : PortP) (w : World) :
    Calls Tryd.prog 39 #[.agg p.row.toArray] w fun e w' => e = .returned (.tuple #[.int .i64 (mostN p), .int .i64 (mostC p : Nat)]) ∧ Below w.heap.size w w' := by
  obtain ⟨k, s, d, r⟩ := p
  obtain ⟨w1, e1, p1, b1⟩ := plan_box w k s d r
  have E1 := Kp.mk e1
  have B1 := Kp.mk b1
  have P1 := Kp.mk p1
  have HC := Kp.mk (ref_checkPlan ⟨k, s, d, r⟩ w1)
  clear e1 p1 b1
  by_cases hc : planC ⟨k, s, d, r⟩ = 0
  · obtain ⟨hk1, hk4, hs1, hs2, hd1, hd2, _, _⟩ := planC_zero hc
    have hd3 := depthM_le k
    have hk1 : 1 ≤ k := hk1
    have hk4 : k ≤ 4 := hk4
    have hs1 : 1 ≤ s := hs1
    have hs2 : s ≤ 32 := hs2
    have hd1 : 1 ≤ d := hd1
    have hd2 : d ≤ 8 := Int.le_trans hd2 hd3
    have hd4 : k < 3 → d = 1 := fun h => by have h5 := depthM_low h; have h6 : d ≤ depthM k := by assumption
                                            omega
    clear hd3
    have hm1 : 0 ≤ d * (1 + s) := Int.mul_nonneg (by omega) (by omega)
    have hm2 : d * (1 + s) ≤ 8 * 33 := Int.mul_le_mul hd2 (by omega) (by omega) (by omega)
    rcases (by omega : k = 1 ∨ k = 2 ∨ k = 3 ∨ k = 4) with rfl | rfl | rfl | rfl
    · have e1 : mostC ⟨1, s, d, r⟩ = 0 := by unfold mostC; rw [decide_eq_true hc]; rfl
      have e2 : mostN ⟨1, s, d, r⟩ = 3 + s := by unfold mostN; rw [decide_eq_true hc]; rfl
      rw [e1, e2]
      rw [hc] at HC
      clear e1 e2 hc
      clear hd4 hk1 hk4
      show Calls Tryd.prog 39 #[.agg (rowK 1 s d r)] w fun e w' => e = .returned (.tuple #[.int .i64 (3 + s), .int .i64 0]) ∧ Below w.heap.size w w'
      go_enter Tryd.func39, Tryd.ntmps39
      go_wp2_with fail
      rw [← E1.out]
      refine HC.out.mono ?_
      rintro e w3 ⟨rfl, hb⟩
      have P3 := Kp.mk (P1.out.later hb)
      have B3 := Kp.mk (B1.out.trans (hb.mono B1.out.size))
      clear hb
      have c0 := P3.out.c0
      have c1 := P3.out.c1
      have c2 := P3.out.c2
      have c3 := P3.out.c3
      go_wp2_with fail
      go_ret2
      exact ⟨rfl, B3.out⟩
    · have e1 : mostC ⟨2, s, d, r⟩ = 0 := by unfold mostC; rw [decide_eq_true hc]; rfl
      have e2 : mostN ⟨2, s, d, r⟩ = 2 := by unfold mostN; rw [decide_eq_true hc]; rfl
      rw [e1, e2]
      rw [hc] at HC
      clear e1 e2 hc
      clear hd4 hk1 hk4
      show Calls Tryd.prog 39 #[.agg (rowK 2 s d r)] w fun e w' => e = .returned (.tuple #[.int .i64 (2), .int .i64 0]) ∧ Below w.heap.size w w'
      go_enter Tryd.func39, Tryd.ntmps39
      go_wp2_with fail
      rw [← E1.out]
      refine HC.out.mono ?_
      rintro e w3 ⟨rfl, hb⟩
      have P3 := Kp.mk (P1.out.later hb)
      have B3 := Kp.mk (B1.out.trans (hb.mono B1.out.size))
      clear hb
      have c0 := P3.out.c0
      have c1 := P3.out.c1
      have c2 := P3.out.c2
      have c3 := P3.out.c3
      go_wp2_with fail
      go_ret2
      exact ⟨rfl, B3.out⟩
    · have e1 : mostC ⟨3, s, d, r⟩ = 0 := by unfold mostC; rw [decide_eq_true hc]; rfl
      have e2 : mostN ⟨3, s, d, r⟩ = 2 + d * (1 + s) := by unfold mostN; rw [decide_eq_true hc]; rfl
      rw [e1, e2]
      rw [hc] at HC
      clear e1 e2 hc
      clear hd4 hk1 hk4
      show Calls Tryd.prog 39 #[.agg (rowK 3 s d r)] w fun e w' => e = .returned (.tuple #[.int .i64 (2 + d * (1 + s)), .int .i64 0]) ∧ Below w.heap.size w w'
      go_enter Tryd.func39, Tryd.ntmps39
      go_wp2_with fail
      rw [← E1.out]
      refine HC.out.mono ?_
      rintro e w3 ⟨rfl, hb⟩
      have P3 := Kp.mk (P1.out.later hb)
      have B3 := Kp.mk (B1.out.trans (hb.mono B1.out.size))
      clear hb
      have c0 := P3.out.c0
      have c1 := P3.out.c1
      have c2 := P3.out.c2
      have c3 := P3.out.c3
      go_wp2_with fail
      go_ret2
      exact ⟨rfl, B3.out⟩
    · have e1 : mostC ⟨4, s, d, r⟩ = 0 := by unfold mostC; rw [decide_eq_true hc]; rfl
      have e2 : mostN ⟨4, s, d, r⟩ = 2 := by unfold mostN; rw [decide_eq_true hc]; rfl
      rw [e1, e2]
      rw [hc] at HC
      clear e1 e2 hc
      clear hd4 hk1 hk4
      show Calls Tryd.prog 39 #[.agg (rowK 4 s d r)] w fun e w' => e = .returned (.tuple #[.int .i64 (2), .int .i64 0]) ∧ Below w.heap.size w w'
      go_enter Tryd.func39, Tryd.ntmps39
      go_wp2_with fail
      rw [← E1.out]
      refine HC.out.mono ?_
      rintro e w3 ⟨rfl, hb⟩
      have P3 := Kp.mk (P1.out.later hb)
      have B3 := Kp.mk (B1.out.trans (hb.mono B1.out.size))
      clear hb
      have c0 := P3.out.c0
      have c1 := P3.out.c1
      have c2 := P3.out.c2
      have c3 := P3.out.c3
      go_wp2_with fail
      go_ret2
      exact ⟨rfl, B3.out⟩
  · have e1 : mostC ⟨k, s, d, r⟩ = 8 := by unfold mostC; rw [decide_eq_false hc]; rfl
    have e2 : mostN ⟨k, s, d, r⟩ = 0 := by unfold mostN; rw [decide_eq_false hc]; rfl
    rw [e1, e2]
    clear e1 e2
    have hz : (((planC ⟨k, s, d, r⟩ : Nat) : Int) != 0) = true := by simpa using hc
    obtain ⟨c, ec⟩ : ∃ c, c = planC ⟨k, s, d, r⟩ := ⟨_, rfl⟩
    rw [← ec] at HC hz
    clear hc ec
    show Calls Tryd.prog 39 #[.agg (rowK k s d r)] w fun e w' => e = .returned (.tuple #[.int .i64 0, .int .i64 8]) ∧ Below w.heap.size w w'
    go_enter Tryd.func39, Tryd.ntmps39
    go_wp2_with fail
    rw [← E1.out]
    refine HC.out.mono ?_
    rintro e w3 ⟨rfl, hb⟩
    have B3 := Kp.mk (B1.out.trans (hb.mono B1.out.size))
    clear hb
    go_wp2_with fail
    go_ret2
    exact ⟨rfl, B3.out⟩
set_option maxRecDepth 100000 in
theorem ref_sameTexts (a : Option Addr) (n cap : Nat) (b : Option Addr) (m cap2 : Nat) (l : List ByteArray) (w : World) (h : RdS w a n cap l) (h2 : RdS w b m cap2 l) :
    Calls Tryd.prog 32 #[.slice a n cap, .slice b m cap2] w fun e w' => e = .returned (.bool true) ∧ Drew w w' := by
  have hnm : n = m := h.len.symm.trans h2.len
  have H := Kp.mk h
  have G := Kp.mk h2
  have hn := h.bound
  subst hnm
  clear h h2
  go_enter Tryd.func32, Tryd.ntmps32
  go_wp2
  go_loopw [5] (fun iv wr => ∃ k : Nat, k ≤ n ∧ iv = .int .i64 (k : Int) ∧ Kp (Drew w wr)) (fun iv _ => n - (intOf iv).toNat)
  case atStart => exact ⟨0, by omega, rfl, ⟨Drew.refl _⟩⟩
  case round =>
    obtain ⟨k, hk, rfl, HD⟩ := hrel
    by_cases hlt : k < n
    · have hb : decide ((k : Int) < n) = true := decide_eq_true (by omega)
      obtain ⟨b1, o1, ha1, hc1, _⟩ := (H.out.later HD.out.below).at k hlt
      obtain ⟨b2, o2, ha2, hc2, _⟩ := (G.out.later HD.out.below).at k hlt
      obtain ⟨D, hD⟩ : ∃ D, D = l.getD k noS := ⟨_, rfl⟩
      rw [← hD] at hc1 hc2
      subst ha1
      subst ha2
      clear hD
      have hb1 : (0 : Int) ≤ (k : Int) := by omega
      have hb2 : (k : Int) < (n : Int) := by omega
      go_wp2
      go_quiet (fail)
      have HD2 := Kp.mk (HD.out.trans ⟨nq, rfl⟩)
      go_wp2
      go_roundw
      case rel => exact ⟨k + 1, by omega, by go_num, HD2⟩
      case measure => simp [intOf]; omega
    · have : k = n := by omega
      subst this
      have hb : decide ((k : Int) < k) = false := by simp
      go_wp2
      go_ret
      exact ⟨rfl, HD.out⟩
set_option maxRecDepth 100000 in
theorem ref_same (a : Option Addr) (n cap : Nat) (b : Option Addr) (m cap2 : Nat) (l : List ByteArray) (g : Int) (w : World) (h : RdS w a n cap l) (h2 : RdS w b m cap2 l) :
    Calls Tryd.prog 26 #[.agg (portA a n cap g), .agg (portA b m cap2 g)] w fun e w' => e = .returned (.bool true) ∧ Below w.heap.size w w' := by
  obtain ⟨w2, e2⟩ : ∃ w2, w2 = (w.alloc (.cells (portA a n cap g) 29)).alloc (.cells (portA b m cap2 g) 29) := ⟨_, rfl⟩
  have b1 : Below w.heap.size w (w.alloc (.cells (portA a n cap g) 29)) := (Below.refl _ _).alloc (Nat.le_refl _) _
  have b2 : Below w.heap.size w w2 := by rw [e2]; exact b1.alloc b1.size _
  have HC := Kp.mk (ref_sameTexts a n cap b m cap2 l w2 (h.later b2) (h2.later b2))
  have B2 := Kp.mk b2
  have E2 := Kp.mk e2
  clear h h2 b1 b2 e2
  go_enter Tryd.func26, Tryd.ntmps26
  go_wp2_with fail
  rw [← E2.out]
  refine HC.out.mono ?_
  rintro e w3 ⟨rfl, hd⟩
  have B3 := Kp.mk (B2.out.trans (hd.below.mono B2.out.size))
  clear hd
  go_wp2_with fail
  go_ret
  exact ⟨rfl, B3.out⟩
theorem err_code {A : Nat → Addr} (w : World) (hE : Errs w allCodes A) (c : Nat) (hc : c ≤ 20) :
    Calls Tryd.prog 49 #[errOf A c] w fun e w' => e = .returned (.int .i64 (c : Int)) ∧ w = w' := by
  cases c with
  | zero => exact (api_code_nil w).mono fun e w' ⟨h1, h2⟩ => ⟨h1, h2.symm⟩
  | succ c => exact (api_code w hE (c + 1) (by omega) hc).mono fun e w' ⟨h1, h2⟩ => ⟨h1, h2.symm⟩
theorem err_place {A : Nat → Addr} (w : World) (hT : TypeVar w) (c : Nat) :
    Calls Tryd.prog 58 #[errOf A c] w fun e w' => e = .returned (.int .i64 (-1)) ∧ Below w.heap.size w w' := by
  cases c with
  | zero => exact (api_place_nil w).mono fun e w' ⟨h1, h2⟩ => ⟨h1, h2⟩
  | succ c => exact (api_place _ w hT).mono fun e w' ⟨h1, h2⟩ => ⟨h1, h2⟩
set_option maxRecDepth 100000 in
theorem law_same {A : Nat → Addr} (w : World) (hE : Errs w allCodes A) (hT : TypeVar w) (c : Nat) (hc : c ≤ 20) :
    Calls Tryd.prog 25 #[errOf A c, .int .i64 (c : Int)] w fun e w' => e = .returned (.bool true) ∧ Below w.heap.size w w' := by
  have HC := Kp.mk (err_code w hE c hc)
  have HP := Kp.mk (err_place (A := A) w hT c)
  obtain ⟨v, hv⟩ : ∃ v, v = errOf A c := ⟨_, rfl⟩
  rw [← hv] at HC HP ⊢
  have hcc : ((c : Int) == (c : Int)) = true := by simp
  clear hE hT hc hv
  go_enter Tryd.func25, Tryd.ntmps25
  go_wp2_with fail
  refine HC.out.mono ?_
  rintro e w1 ⟨rfl, rfl⟩
  go_wp2_with fail
  refine HP.out.mono ?_
  rintro e w2 ⟨rfl, hb⟩
  have B := Kp.mk hb
  clear hb
  go_wp2_with fail
  go_ret
  exact ⟨rfl, B.out⟩
end Go.Proofs.YtjlgnbjfgeppcaaDoor
