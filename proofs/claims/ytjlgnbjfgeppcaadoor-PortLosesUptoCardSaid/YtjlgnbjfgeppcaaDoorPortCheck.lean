/- Check of both sides, walked. -/
import Derived.Test.YtjlgnbjfgeppcaaDoorRefFits
namespace Go.Proofs.YtjlgnbjfgeppcaaDoor
open Go Go.RowKit
set_option linter.unusedVariables false

theorem portC_plan {p : PortP} {l : List ByteArray} {g : Int} (h : planC p ≠ 0) : portC p l g = 8 := by
  unfold portC; rw [decide_eq_false h]; rfl
theorem portC_fit {p : PortP} {l : List ByteArray} {g : Int} (h : planC p = 0) (h2 : fitsP p l g = true) : portC p l g = 0 := by
  unfold portC; rw [decide_eq_true h, h2]; rfl
theorem portC_bad {p : PortP} {l : List ByteArray} {g : Int} (h : planC p = 0) (h2 : fitsP p l g = false) : portC p l g = 9 := by
  unfold portC; rw [decide_eq_true h, h2]; rfl
set_option maxRecDepth 100000 in
set_option maxHeartbeats 8000000 in
theorem port_check (A : Nat → Addr) (p : PortP) (a : Option Addr) (n cap : Nat) (l : List ByteArray) (g : Int) (w : World) (h : RdS w a n cap l) (hE : Errs w [4, 7, 8, 9, 11] A) :
    Calls Tryd.prog 14 #[.agg p.row.toArray, .agg (portA a n cap g)] w fun e w' => e = .returned (errOf A (portC p l g)) ∧ Below w.heap.size w w' := by
  obtain ⟨k, s, d, r⟩ := p
  obtain ⟨w2, e2, p2, q2, b2⟩ := both_box w k s d r a n cap g
  have E2 := Kp.mk e2
  have B2 := Kp.mk b2
  have H2 := Kp.mk (h.later b2)
  have PQ := Kp.mk (And.intro q2 p2)
  have HE := Kp.mk (hE.later b2)
  have HP := Kp.mk (port_checkPlan A ⟨k, s, d, r⟩ w2 (HE.out.sub (by decide)))
  clear h p2 q2 b2 e2 hE
  by_cases hp : planC ⟨k, s, d, r⟩ = 0
  · rw [hp] at HP
    have HF := Kp.mk (fun w3 (hb : Below w2.heap.size w2 w3) => port_fits ⟨k, s, d, r⟩ a n cap l g w3 (H2.out.later hb))
    by_cases hf : fitsP ⟨k, s, d, r⟩ l g = true
    · rw [portC_fit hp hf]
      rw [hf] at HF
      clear hf hp
      show Calls Tryd.prog 14 #[.agg (rowK k s d r), .agg (portA a n cap g)] w fun e w' => e = .returned (.nilIface) ∧ Below w.heap.size w w'
      go_enter Tryd.func14, Tryd.ntmps14
      go_wp2_with fail
      rw [← E2.out]
      refine HP.out.mono ?_
      rintro e w3 ⟨rfl, hb⟩
      have q0 := (PQ.out.1.later hb).c0
      have q1 := (PQ.out.1.later hb).c1
      have c0 := (PQ.out.2.later hb).c0
      have c1 := (PQ.out.2.later hb).c1
      have c2 := (PQ.out.2.later hb).c2
      have c3 := (PQ.out.2.later hb).c3
      have B3 := Kp.mk (B2.out.trans (hb.mono B2.out.size))
      have HF3 := Kp.mk (HF.out w3 hb)
      have x9 : Kp (∀ w4, Below w3.heap.size w3 w4 → w4.cell? ⟨3, 0, none⟩ = some (errv (A 9))) := ⟨fun w4 h4 => ((HE.out.later hb).later h4).cell 9 (by decide)⟩
      clear hb
      have hnil : (errOf A 0) = Value.nilIface := rfl
      simp only [hnil]
      clear hnil
      go_wp2_with fail
      refine HF3.out.mono ?_
      rintro e w4 ⟨rfl, hb⟩
      have x := x9.out w4 hb
      have B4 := Kp.mk (B3.out.trans (hb.mono B3.out.size))
      clear hb
      go_wp2_with fail
      go_ret
      exact ⟨rfl, B4.out⟩
    · have hf' : fitsP ⟨k, s, d, r⟩ l g = false := by simpa using hf
      rw [portC_bad hp hf']
      rw [hf'] at HF
      clear hf hf' hp
      show Calls Tryd.prog 14 #[.agg (rowK k s d r), .agg (portA a n cap g)] w fun e w' => e = .returned (errv (A 9)) ∧ Below w.heap.size w w'
      go_enter Tryd.func14, Tryd.ntmps14
      go_wp2_with fail
      rw [← E2.out]
      refine HP.out.mono ?_
      rintro e w3 ⟨rfl, hb⟩
      have q0 := (PQ.out.1.later hb).c0
      have q1 := (PQ.out.1.later hb).c1
      have c0 := (PQ.out.2.later hb).c0
      have c1 := (PQ.out.2.later hb).c1
      have c2 := (PQ.out.2.later hb).c2
      have c3 := (PQ.out.2.later hb).c3
      have B3 := Kp.mk (B2.out.trans (hb.mono B2.out.size))
      have HF3 := Kp.mk (HF.out w3 hb)
      have x9 : Kp (∀ w4, Below w3.heap.size w3 w4 → w4.cell? ⟨3, 0, none⟩ = some (errv (A 9))) := ⟨fun w4 h4 => ((HE.out.later hb).later h4).cell 9 (by decide)⟩
      clear hb
      have hnil : (errOf A 0) = Value.nilIface := rfl
      simp only [hnil]
      clear hnil
      go_wp2_with fail
      refine HF3.out.mono ?_
      rintro e w4 ⟨rfl, hb⟩
      have x := x9.out w4 hb
      have B4 := Kp.mk (B3.out.trans (hb.mono B3.out.size))
      clear hb
      go_wp2_with fail
      go_ret
      exact ⟨rfl, B4.out⟩
  · rw [portC_plan hp]
    show Calls Tryd.prog 14 #[.agg (rowK k s d r), .agg (portA a n cap g)] w fun e w' => e = .returned (errv (A 8)) ∧ Below w.heap.size w w'
    obtain ⟨c, hc⟩ : ∃ c, planC ⟨k, s, d, r⟩ = c + 1 := ⟨planC ⟨k, s, d, r⟩ - 1, by omega⟩
    rw [hc] at HP
    clear hp hc
    go_enter Tryd.func14, Tryd.ntmps14
    go_wp2_with fail
    rw [← E2.out]
    refine HP.out.mono ?_
    rintro e w3 ⟨rfl, hb⟩
    have B3 := Kp.mk (B2.out.trans (hb.mono B2.out.size))
    have x : w3.cell? ⟨2, 0, none⟩ = some (errv (A 8)) := (HE.out.later hb).cell 8 (by decide)
    clear hb
    have hx : errOf A (c + 1) = errv (A (c + 1)) := rfl
    simp only [hx]
    clear hx
    go_wp2_with fail
    go_ret
    exact ⟨rfl, B3.out⟩
set_option maxRecDepth 100000 in
set_option maxHeartbeats 8000000 in
theorem ref_check (p : PortP) (a : Option Addr) (n cap : Nat) (l : List ByteArray) (g : Int) (w : World) (h : RdS w a n cap l) :
    Calls Tryd.prog 34 #[.agg p.row.toArray, .agg (portA a n cap g)] w fun e w' => e = .returned (.int .i64 (portC p l g : Nat)) ∧ Below w.heap.size w w' := by
  obtain ⟨k, s, d, r⟩ := p
  obtain ⟨w2, e2, p2, q2, b2⟩ := both_box w k s d r a n cap g
  have E2 := Kp.mk e2
  have B2 := Kp.mk b2
  have H2 := Kp.mk (h.later b2)
  have PQ := Kp.mk (And.intro q2 p2)
  have HP := Kp.mk (ref_checkPlan ⟨k, s, d, r⟩ w2)
  clear h p2 q2 b2 e2
  by_cases hp : planC ⟨k, s, d, r⟩ = 0
  · rw [hp] at HP
    have HF := Kp.mk (fun w3 (hb : Below w2.heap.size w2 w3) => ref_fits ⟨k, s, d, r⟩ a n cap l g w3 (H2.out.later hb))
    by_cases hf : fitsP ⟨k, s, d, r⟩ l g = true
    · rw [portC_fit hp hf]
      rw [hf] at HF
      clear hf hp
      show Calls Tryd.prog 34 #[.agg (rowK k s d r), .agg (portA a n cap g)] w fun e w' => e = .returned (.int .i64 0) ∧ Below w.heap.size w w'
      go_enter Tryd.func34, Tryd.ntmps34
      go_wp2_with fail
      rw [← E2.out]
      refine HP.out.mono ?_
      rintro e w3 ⟨rfl, hb⟩
      have q0 := (PQ.out.1.later hb).c0
      have q1 := (PQ.out.1.later hb).c1
      have c0 := (PQ.out.2.later hb).c0
      have c1 := (PQ.out.2.later hb).c1
      have c2 := (PQ.out.2.later hb).c2
      have c3 := (PQ.out.2.later hb).c3
      have B3 := Kp.mk (B2.out.trans (hb.mono B2.out.size))
      have HF3 := Kp.mk (HF.out w3 hb)
      clear hb
      go_wp2_with fail
      refine HF3.out.mono ?_
      rintro e w4 ⟨rfl, hb⟩
      have B4 := Kp.mk (B3.out.trans (hb.mono B3.out.size))
      clear hb
      go_wp2_with fail
      go_ret
      exact ⟨rfl, B4.out⟩
    · have hf' : fitsP ⟨k, s, d, r⟩ l g = false := by simpa using hf
      rw [portC_bad hp hf']
      rw [hf'] at HF
      clear hf hf' hp
      show Calls Tryd.prog 34 #[.agg (rowK k s d r), .agg (portA a n cap g)] w fun e w' => e = .returned (.int .i64 9) ∧ Below w.heap.size w w'
      go_enter Tryd.func34, Tryd.ntmps34
      go_wp2_with fail
      rw [← E2.out]
      refine HP.out.mono ?_
      rintro e w3 ⟨rfl, hb⟩
      have q0 := (PQ.out.1.later hb).c0
      have q1 := (PQ.out.1.later hb).c1
      have c0 := (PQ.out.2.later hb).c0
      have c1 := (PQ.out.2.later hb).c1
      have c2 := (PQ.out.2.later hb).c2
      have c3 := (PQ.out.2.later hb).c3
      have B3 := Kp.mk (B2.out.trans (hb.mono B2.out.size))
      have HF3 := Kp.mk (HF.out w3 hb)
      clear hb
      go_wp2_with fail
      refine HF3.out.mono ?_
      rintro e w4 ⟨rfl, hb⟩
      have B4 := Kp.mk (B3.out.trans (hb.mono B3.out.size))
      clear hb
      go_wp2_with fail
      go_ret
      exact ⟨rfl, B4.out⟩
  · rw [portC_plan hp]
    show Calls Tryd.prog 34 #[.agg (rowK k s d r), .agg (portA a n cap g)] w fun e w' => e = .returned (.int .i64 8) ∧ Below w.heap.size w w'
    have hz : (((planC ⟨k, s, d, r⟩ : Nat) : Int) != 0) = true := by simpa using hp
    obtain ⟨c, hc⟩ : ∃ c, c = planC ⟨k, s, d, r⟩ := ⟨_, rfl⟩
    rw [← hc] at HP hz
    clear hp hc
    go_enter Tryd.func34, Tryd.ntmps34
    go_wp2_with fail
    rw [← E2.out]
    refine HP.out.mono ?_
    rintro e w3 ⟨rfl, hb⟩
    have B3 := Kp.mk (B2.out.trans (hb.mono B2.out.size))
    clear hb
    go_wp2_with fail
    go_ret
    exact ⟨rfl, B3.out⟩
end Go.Proofs.YtjlgnbjfgeppcaaDoor
