/- The program's CheckPlan, walked. -/
import Derived.Test.YtjlgnbjfgeppcaaDoorPortPlan
namespace Go.Proofs.YtjlgnbjfgeppcaaDoor
open Go Go.RowKit
set_option linter.unusedVariables false

abbrev rowK (k s d r : Int) : Array Value := #[.int .i64 k, .int .i64 s, .int .i64 d, .int .i64 r]
theorem plan_box (w : World) (k s d r : Int) : ∃ w1, w1 = w.alloc (.cells (rowK k s d r) 23) ∧ PlanAt w1 w.heap.size ⟨k, s, d, r⟩ ∧ Below w.heap.size w w1 := plan_made w ⟨k, s, d, r⟩
set_option maxRecDepth 100000 in
set_option maxHeartbeats 8000000 in
theorem port_checkPlan_in1 (A : Nat → Addr) (s d r : Int) (w : World) (hE : Errs w [4, 7, 11] A) :
    Calls Tryd.prog 33 #[.agg (rowK 1 s d r)] w fun e w' => e = .returned (errOf A (planC ⟨1, s, d, r⟩)) ∧ Below w.heap.size w w' := by
  obtain ⟨w1, e1, hp1, b1⟩ := plan_box w 1 s d r
  have E1 := Kp.mk e1
  have HE := Kp.mk hE
  have P1 := Kp.mk hp1
  have B1 := Kp.mk b1
  have c0 := hp1.c0
  have c1 := hp1.c1
  have c2 := hp1.c2
  have c3 := hp1.c3
  have HQ : Kp (∀ w, Calls Tryd.prog 52 #[.agg (rowK 1 s d r)] w fun e w' => e = .returned (.bool false) ∧ Below w.heap.size w w') := ⟨fun w => by have h := port_isQueue ⟨1, s, d, r⟩ w; skip; exact h⟩
  have HI : Kp (∀ w, Calls Tryd.prog 51 #[.agg (rowK 1 s d r)] w fun e w' => e = .returned (.bool true) ∧ Below w.heap.size w w') := ⟨fun w => by have h := port_isIn ⟨1, s, d, r⟩ w; skip; exact h⟩
  clear hE hp1 b1 e1
  by_cases h0 : s < 1
  · have f0 : decide (s < 1) = true := decide_eq_true (by omega)
    have hc : planC ⟨1, s, d, r⟩ = 11 := planC_size (p := ⟨1, s, d, r⟩) (by show ¬ ((1 : Int) < 1 ∨ 4 < (1 : Int)); omega) (by show s < 1 ∨ 32 < s; omega)
    rw [hc]
    clear hc h0
    go_enter Tryd.func33, Tryd.ntmps33
    go_wp2_with (refine Great.wpList_boxTo rfl 23 (.tmp 0) rfl _ rfl w.heap.size rfl (rowK 1 s d r) rfl ?_; rw [← E1.out])
    refine (HQ.out _).mono ?_
    rintro e w2 ⟨rfl, hb⟩
    have P2 := Kp.mk (P1.out.later hb)
    have B2 := Kp.mk (B1.out.trans (hb.mono B1.out.size))
    clear c0 c1 c2 c3 hb
    have c0 := P2.out.c0
    have c1 := P2.out.c1
    have c2 := P2.out.c2
    have c3 := P2.out.c3
    go_wp2_with fail
    refine (HI.out _).mono ?_
    rintro e w3 ⟨rfl, hb⟩
    have P3 := Kp.mk (P2.out.later hb)
    have B3 := Kp.mk (B2.out.trans (hb.mono B2.out.size))
    clear c0 c1 c2 c3 hb
    have c0 := P3.out.c0
    have c1 := P3.out.c1
    have c2 := P3.out.c2
    have c3 := P3.out.c3
    have x : w3.cell? ⟨4, 0, none⟩ = some (errv (A 11)) := (HE.out.later B3.out).cell 11 (by decide)
    go_wp2_with fail
    go_ret
    exact ⟨rfl, B3.out⟩
  · have f0 : decide (s < 1) = false := decide_eq_false (by omega)
    by_cases h1 : 32 < s
    · have f1 : decide (s > 32) = true := decide_eq_true (by omega)
      have hc : planC ⟨1, s, d, r⟩ = 11 := planC_size (p := ⟨1, s, d, r⟩) (by show ¬ ((1 : Int) < 1 ∨ 4 < (1 : Int)); omega) (by show s < 1 ∨ 32 < s; omega)
      rw [hc]
      clear hc h0 h1
      go_enter Tryd.func33, Tryd.ntmps33
      go_wp2_with (refine Great.wpList_boxTo rfl 23 (.tmp 0) rfl _ rfl w.heap.size rfl (rowK 1 s d r) rfl ?_; rw [← E1.out])
      refine (HQ.out _).mono ?_
      rintro e w2 ⟨rfl, hb⟩
      have P2 := Kp.mk (P1.out.later hb)
      have B2 := Kp.mk (B1.out.trans (hb.mono B1.out.size))
      clear c0 c1 c2 c3 hb
      have c0 := P2.out.c0
      have c1 := P2.out.c1
      have c2 := P2.out.c2
      have c3 := P2.out.c3
      go_wp2_with fail
      refine (HI.out _).mono ?_
      rintro e w3 ⟨rfl, hb⟩
      have P3 := Kp.mk (P2.out.later hb)
      have B3 := Kp.mk (B2.out.trans (hb.mono B2.out.size))
      clear c0 c1 c2 c3 hb
      have c0 := P3.out.c0
      have c1 := P3.out.c1
      have c2 := P3.out.c2
      have c3 := P3.out.c3
      have x : w3.cell? ⟨4, 0, none⟩ = some (errv (A 11)) := (HE.out.later B3.out).cell 11 (by decide)
      go_wp2_with fail
      go_ret
      exact ⟨rfl, B3.out⟩
    · have f1 : decide (s > 32) = false := decide_eq_false (by omega)
      by_cases h2 : d < 1
      · have f2 : decide (d < 1) = true := decide_eq_true (by omega)
        have hc : planC ⟨1, s, d, r⟩ = 4 := planC_range (p := ⟨1, s, d, r⟩) (by show ¬ ((1 : Int) < 1 ∨ 4 < (1 : Int)); omega) (by show ¬ (s < 1 ∨ 32 < s); omega) (by show d < 1 ∨ (1 : Int) < d ∨ r < 0 ∨ (255 : Int) < r; omega)
        rw [hc]
        clear hc h0 h1 h2
        go_enter Tryd.func33, Tryd.ntmps33
        go_wp2_with (refine Great.wpList_boxTo rfl 23 (.tmp 0) rfl _ rfl w.heap.size rfl (rowK 1 s d r) rfl ?_; rw [← E1.out])
        refine (HQ.out _).mono ?_
        rintro e w2 ⟨rfl, hb⟩
        have P2 := Kp.mk (P1.out.later hb)
        have B2 := Kp.mk (B1.out.trans (hb.mono B1.out.size))
        clear c0 c1 c2 c3 hb
        have c0 := P2.out.c0
        have c1 := P2.out.c1
        have c2 := P2.out.c2
        have c3 := P2.out.c3
        go_wp2_with fail
        refine (HI.out _).mono ?_
        rintro e w3 ⟨rfl, hb⟩
        have P3 := Kp.mk (P2.out.later hb)
        have B3 := Kp.mk (B2.out.trans (hb.mono B2.out.size))
        clear c0 c1 c2 c3 hb
        have c0 := P3.out.c0
        have c1 := P3.out.c1
        have c2 := P3.out.c2
        have c3 := P3.out.c3
        have x : w3.cell? ⟨5, 0, none⟩ = some (errv (A 4)) := (HE.out.later B3.out).cell 4 (by decide)
        go_wp2_with fail
        go_ret
        exact ⟨rfl, B3.out⟩
      · have f2 : decide (d < 1) = false := decide_eq_false (by omega)
        by_cases h3 : 1 < d
        · have f3 : decide (d > 1) = true := decide_eq_true (by omega)
          have hc : planC ⟨1, s, d, r⟩ = 4 := planC_range (p := ⟨1, s, d, r⟩) (by show ¬ ((1 : Int) < 1 ∨ 4 < (1 : Int)); omega) (by show ¬ (s < 1 ∨ 32 < s); omega) (by show d < 1 ∨ (1 : Int) < d ∨ r < 0 ∨ (255 : Int) < r; omega)
          rw [hc]
          clear hc h0 h1 h2 h3
          go_enter Tryd.func33, Tryd.ntmps33
          go_wp2_with (refine Great.wpList_boxTo rfl 23 (.tmp 0) rfl _ rfl w.heap.size rfl (rowK 1 s d r) rfl ?_; rw [← E1.out])
          refine (HQ.out _).mono ?_
          rintro e w2 ⟨rfl, hb⟩
          have P2 := Kp.mk (P1.out.later hb)
          have B2 := Kp.mk (B1.out.trans (hb.mono B1.out.size))
          clear c0 c1 c2 c3 hb
          have c0 := P2.out.c0
          have c1 := P2.out.c1
          have c2 := P2.out.c2
          have c3 := P2.out.c3
          go_wp2_with fail
          refine (HI.out _).mono ?_
          rintro e w3 ⟨rfl, hb⟩
          have P3 := Kp.mk (P2.out.later hb)
          have B3 := Kp.mk (B2.out.trans (hb.mono B2.out.size))
          clear c0 c1 c2 c3 hb
          have c0 := P3.out.c0
          have c1 := P3.out.c1
          have c2 := P3.out.c2
          have c3 := P3.out.c3
          have x : w3.cell? ⟨5, 0, none⟩ = some (errv (A 4)) := (HE.out.later B3.out).cell 4 (by decide)
          go_wp2_with fail
          go_ret
          exact ⟨rfl, B3.out⟩
        · have f3 : decide (d > 1) = false := decide_eq_false (by omega)
          by_cases h4 : r < 0
          · have f4 : decide (r < 0) = true := decide_eq_true (by omega)
            have hc : planC ⟨1, s, d, r⟩ = 4 := planC_range (p := ⟨1, s, d, r⟩) (by show ¬ ((1 : Int) < 1 ∨ 4 < (1 : Int)); omega) (by show ¬ (s < 1 ∨ 32 < s); omega) (by show d < 1 ∨ (1 : Int) < d ∨ r < 0 ∨ (255 : Int) < r; omega)
            rw [hc]
            clear hc h0 h1 h2 h3 h4
            go_enter Tryd.func33, Tryd.ntmps33
            go_wp2_with (refine Great.wpList_boxTo rfl 23 (.tmp 0) rfl _ rfl w.heap.size rfl (rowK 1 s d r) rfl ?_; rw [← E1.out])
            refine (HQ.out _).mono ?_
            rintro e w2 ⟨rfl, hb⟩
            have P2 := Kp.mk (P1.out.later hb)
            have B2 := Kp.mk (B1.out.trans (hb.mono B1.out.size))
            clear c0 c1 c2 c3 hb
            have c0 := P2.out.c0
            have c1 := P2.out.c1
            have c2 := P2.out.c2
            have c3 := P2.out.c3
            go_wp2_with fail
            refine (HI.out _).mono ?_
            rintro e w3 ⟨rfl, hb⟩
            have P3 := Kp.mk (P2.out.later hb)
            have B3 := Kp.mk (B2.out.trans (hb.mono B2.out.size))
            clear c0 c1 c2 c3 hb
            have c0 := P3.out.c0
            have c1 := P3.out.c1
            have c2 := P3.out.c2
            have c3 := P3.out.c3
            have x : w3.cell? ⟨5, 0, none⟩ = some (errv (A 4)) := (HE.out.later B3.out).cell 4 (by decide)
            go_wp2_with fail
            go_ret
            exact ⟨rfl, B3.out⟩
          · have f4 : decide (r < 0) = false := decide_eq_false (by omega)
            by_cases h5 : 255 < r
            · have f5 : decide (r > 255) = true := decide_eq_true (by omega)
              have hc : planC ⟨1, s, d, r⟩ = 4 := planC_range (p := ⟨1, s, d, r⟩) (by show ¬ ((1 : Int) < 1 ∨ 4 < (1 : Int)); omega) (by show ¬ (s < 1 ∨ 32 < s); omega) (by show d < 1 ∨ (1 : Int) < d ∨ r < 0 ∨ (255 : Int) < r; omega)
              rw [hc]
              clear hc h0 h1 h2 h3 h4 h5
              go_enter Tryd.func33, Tryd.ntmps33
              go_wp2_with (refine Great.wpList_boxTo rfl 23 (.tmp 0) rfl _ rfl w.heap.size rfl (rowK 1 s d r) rfl ?_; rw [← E1.out])
              refine (HQ.out _).mono ?_
              rintro e w2 ⟨rfl, hb⟩
              have P2 := Kp.mk (P1.out.later hb)
              have B2 := Kp.mk (B1.out.trans (hb.mono B1.out.size))
              clear c0 c1 c2 c3 hb
              have c0 := P2.out.c0
              have c1 := P2.out.c1
              have c2 := P2.out.c2
              have c3 := P2.out.c3
              go_wp2_with fail
              refine (HI.out _).mono ?_
              rintro e w3 ⟨rfl, hb⟩
              have P3 := Kp.mk (P2.out.later hb)
              have B3 := Kp.mk (B2.out.trans (hb.mono B2.out.size))
              clear c0 c1 c2 c3 hb
              have c0 := P3.out.c0
              have c1 := P3.out.c1
              have c2 := P3.out.c2
              have c3 := P3.out.c3
              have x : w3.cell? ⟨5, 0, none⟩ = some (errv (A 4)) := (HE.out.later B3.out).cell 4 (by decide)
              go_wp2_with fail
              go_ret
              exact ⟨rfl, B3.out⟩
            · have f5 : decide (r > 255) = false := decide_eq_false (by omega)
              have hc : planC ⟨1, s, d, r⟩ = 0 := planC_ok (p := ⟨1, s, d, r⟩) (by show ¬ ((1 : Int) < 1 ∨ 4 < (1 : Int)); omega) (by show ¬ (s < 1 ∨ 32 < s); omega) (by show ¬ (d < 1 ∨ (1 : Int) < d ∨ r < 0 ∨ (255 : Int) < r); omega)
              rw [hc]
              clear hc h0 h1 h2 h3 h4 h5
              go_enter Tryd.func33, Tryd.ntmps33
              go_wp2_with (refine Great.wpList_boxTo rfl 23 (.tmp 0) rfl _ rfl w.heap.size rfl (rowK 1 s d r) rfl ?_; rw [← E1.out])
              refine (HQ.out _).mono ?_
              rintro e w2 ⟨rfl, hb⟩
              have P2 := Kp.mk (P1.out.later hb)
              have B2 := Kp.mk (B1.out.trans (hb.mono B1.out.size))
              clear c0 c1 c2 c3 hb
              have c0 := P2.out.c0
              have c1 := P2.out.c1
              have c2 := P2.out.c2
              have c3 := P2.out.c3
              go_wp2_with fail
              refine (HI.out _).mono ?_
              rintro e w3 ⟨rfl, hb⟩
              have P3 := Kp.mk (P2.out.later hb)
              have B3 := Kp.mk (B2.out.trans (hb.mono B2.out.size))
              clear c0 c1 c2 c3 hb
              have c0 := P3.out.c0
              have c1 := P3.out.c1
              have c2 := P3.out.c2
              have c3 := P3.out.c3
              go_wp2_with fail
              go_ret
              exact ⟨rfl, B3.out⟩
set_option maxRecDepth 100000 in
set_option maxHeartbeats 8000000 in
theorem port_checkPlan_in2 (A : Nat → Addr) (s d r : Int) (w : World) (hE : Errs w [4, 7, 11] A) :
    Calls Tryd.prog 33 #[.agg (rowK 2 s d r)] w fun e w' => e = .returned (errOf A (planC ⟨2, s, d, r⟩)) ∧ Below w.heap.size w w' := by
  obtain ⟨w1, e1, hp1, b1⟩ := plan_box w 2 s d r
  have E1 := Kp.mk e1
  have HE := Kp.mk hE
  have P1 := Kp.mk hp1
  have B1 := Kp.mk b1
  have c0 := hp1.c0
  have c1 := hp1.c1
  have c2 := hp1.c2
  have c3 := hp1.c3
  have HQ : Kp (∀ w, Calls Tryd.prog 52 #[.agg (rowK 2 s d r)] w fun e w' => e = .returned (.bool false) ∧ Below w.heap.size w w') := ⟨fun w => by have h := port_isQueue ⟨2, s, d, r⟩ w; skip; exact h⟩
  have HI : Kp (∀ w, Calls Tryd.prog 51 #[.agg (rowK 2 s d r)] w fun e w' => e = .returned (.bool false) ∧ Below w.heap.size w w') := ⟨fun w => by have h := port_isIn ⟨2, s, d, r⟩ w; skip; exact h⟩
  have HO : Kp (∀ w, Calls Tryd.prog 59 #[.agg (rowK 2 s d r)] w fun e w' => e = .returned (.bool true) ∧ Below w.heap.size w w') := ⟨fun w => by have h := port_isOut ⟨2, s, d, r⟩ w; skip; exact h⟩
  clear hE hp1 b1 e1
  by_cases h0 : s < 1
  · have f0 : decide (s < 1) = true := decide_eq_true (by omega)
    have hc : planC ⟨2, s, d, r⟩ = 11 := planC_size (p := ⟨2, s, d, r⟩) (by show ¬ ((2 : Int) < 1 ∨ 4 < (2 : Int)); omega) (by show s < 1 ∨ 32 < s; omega)
    rw [hc]
    clear hc h0
    go_enter Tryd.func33, Tryd.ntmps33
    go_wp2_with (refine Great.wpList_boxTo rfl 23 (.tmp 0) rfl _ rfl w.heap.size rfl (rowK 2 s d r) rfl ?_; rw [← E1.out])
    refine (HQ.out _).mono ?_
    rintro e w2 ⟨rfl, hb⟩
    have P2 := Kp.mk (P1.out.later hb)
    have B2 := Kp.mk (B1.out.trans (hb.mono B1.out.size))
    clear c0 c1 c2 c3 hb
    have c0 := P2.out.c0
    have c1 := P2.out.c1
    have c2 := P2.out.c2
    have c3 := P2.out.c3
    go_wp2_with fail
    refine (HI.out _).mono ?_
    rintro e w3 ⟨rfl, hb⟩
    have P3 := Kp.mk (P2.out.later hb)
    have B3 := Kp.mk (B2.out.trans (hb.mono B2.out.size))
    clear c0 c1 c2 c3 hb
    have c0 := P3.out.c0
    have c1 := P3.out.c1
    have c2 := P3.out.c2
    have c3 := P3.out.c3
    go_wp2_with fail
    refine (HO.out _).mono ?_
    rintro e w4 ⟨rfl, hb⟩
    have P4 := Kp.mk (P3.out.later hb)
    have B4 := Kp.mk (B3.out.trans (hb.mono B3.out.size))
    clear c0 c1 c2 c3 hb
    have c0 := P4.out.c0
    have c1 := P4.out.c1
    have c2 := P4.out.c2
    have c3 := P4.out.c3
    have x : w4.cell? ⟨4, 0, none⟩ = some (errv (A 11)) := (HE.out.later B4.out).cell 11 (by decide)
    go_wp2_with fail
    go_ret
    exact ⟨rfl, B4.out⟩
  · have f0 : decide (s < 1) = false := decide_eq_false (by omega)
    by_cases h1 : 32 < s
    · have f1 : decide (s > 32) = true := decide_eq_true (by omega)
      have hc : planC ⟨2, s, d, r⟩ = 11 := planC_size (p := ⟨2, s, d, r⟩) (by show ¬ ((2 : Int) < 1 ∨ 4 < (2 : Int)); omega) (by show s < 1 ∨ 32 < s; omega)
      rw [hc]
      clear hc h0 h1
      go_enter Tryd.func33, Tryd.ntmps33
      go_wp2_with (refine Great.wpList_boxTo rfl 23 (.tmp 0) rfl _ rfl w.heap.size rfl (rowK 2 s d r) rfl ?_; rw [← E1.out])
      refine (HQ.out _).mono ?_
      rintro e w2 ⟨rfl, hb⟩
      have P2 := Kp.mk (P1.out.later hb)
      have B2 := Kp.mk (B1.out.trans (hb.mono B1.out.size))
      clear c0 c1 c2 c3 hb
      have c0 := P2.out.c0
      have c1 := P2.out.c1
      have c2 := P2.out.c2
      have c3 := P2.out.c3
      go_wp2_with fail
      refine (HI.out _).mono ?_
      rintro e w3 ⟨rfl, hb⟩
      have P3 := Kp.mk (P2.out.later hb)
      have B3 := Kp.mk (B2.out.trans (hb.mono B2.out.size))
      clear c0 c1 c2 c3 hb
      have c0 := P3.out.c0
      have c1 := P3.out.c1
      have c2 := P3.out.c2
      have c3 := P3.out.c3
      go_wp2_with fail
      refine (HO.out _).mono ?_
      rintro e w4 ⟨rfl, hb⟩
      have P4 := Kp.mk (P3.out.later hb)
      have B4 := Kp.mk (B3.out.trans (hb.mono B3.out.size))
      clear c0 c1 c2 c3 hb
      have c0 := P4.out.c0
      have c1 := P4.out.c1
      have c2 := P4.out.c2
      have c3 := P4.out.c3
      have x : w4.cell? ⟨4, 0, none⟩ = some (errv (A 11)) := (HE.out.later B4.out).cell 11 (by decide)
      go_wp2_with fail
      go_ret
      exact ⟨rfl, B4.out⟩
    · have f1 : decide (s > 32) = false := decide_eq_false (by omega)
      by_cases h2 : d < 1
      · have f2 : decide (d < 1) = true := decide_eq_true (by omega)
        have hc : planC ⟨2, s, d, r⟩ = 4 := planC_range (p := ⟨2, s, d, r⟩) (by show ¬ ((2 : Int) < 1 ∨ 4 < (2 : Int)); omega) (by show ¬ (s < 1 ∨ 32 < s); omega) (by show d < 1 ∨ (1 : Int) < d ∨ r < 0 ∨ (0 : Int) < r; omega)
        rw [hc]
        clear hc h0 h1 h2
        go_enter Tryd.func33, Tryd.ntmps33
        go_wp2_with (refine Great.wpList_boxTo rfl 23 (.tmp 0) rfl _ rfl w.heap.size rfl (rowK 2 s d r) rfl ?_; rw [← E1.out])
        refine (HQ.out _).mono ?_
        rintro e w2 ⟨rfl, hb⟩
        have P2 := Kp.mk (P1.out.later hb)
        have B2 := Kp.mk (B1.out.trans (hb.mono B1.out.size))
        clear c0 c1 c2 c3 hb
        have c0 := P2.out.c0
        have c1 := P2.out.c1
        have c2 := P2.out.c2
        have c3 := P2.out.c3
        go_wp2_with fail
        refine (HI.out _).mono ?_
        rintro e w3 ⟨rfl, hb⟩
        have P3 := Kp.mk (P2.out.later hb)
        have B3 := Kp.mk (B2.out.trans (hb.mono B2.out.size))
        clear c0 c1 c2 c3 hb
        have c0 := P3.out.c0
        have c1 := P3.out.c1
        have c2 := P3.out.c2
        have c3 := P3.out.c3
        go_wp2_with fail
        refine (HO.out _).mono ?_
        rintro e w4 ⟨rfl, hb⟩
        have P4 := Kp.mk (P3.out.later hb)
        have B4 := Kp.mk (B3.out.trans (hb.mono B3.out.size))
        clear c0 c1 c2 c3 hb
        have c0 := P4.out.c0
        have c1 := P4.out.c1
        have c2 := P4.out.c2
        have c3 := P4.out.c3
        have x : w4.cell? ⟨5, 0, none⟩ = some (errv (A 4)) := (HE.out.later B4.out).cell 4 (by decide)
        go_wp2_with fail
        go_ret
        exact ⟨rfl, B4.out⟩
      · have f2 : decide (d < 1) = false := decide_eq_false (by omega)
        by_cases h3 : 1 < d
        · have f3 : decide (d > 1) = true := decide_eq_true (by omega)
          have hc : planC ⟨2, s, d, r⟩ = 4 := planC_range (p := ⟨2, s, d, r⟩) (by show ¬ ((2 : Int) < 1 ∨ 4 < (2 : Int)); omega) (by show ¬ (s < 1 ∨ 32 < s); omega) (by show d < 1 ∨ (1 : Int) < d ∨ r < 0 ∨ (0 : Int) < r; omega)
          rw [hc]
          clear hc h0 h1 h2 h3
          go_enter Tryd.func33, Tryd.ntmps33
          go_wp2_with (refine Great.wpList_boxTo rfl 23 (.tmp 0) rfl _ rfl w.heap.size rfl (rowK 2 s d r) rfl ?_; rw [← E1.out])
          refine (HQ.out _).mono ?_
          rintro e w2 ⟨rfl, hb⟩
          have P2 := Kp.mk (P1.out.later hb)
          have B2 := Kp.mk (B1.out.trans (hb.mono B1.out.size))
          clear c0 c1 c2 c3 hb
          have c0 := P2.out.c0
          have c1 := P2.out.c1
          have c2 := P2.out.c2
          have c3 := P2.out.c3
          go_wp2_with fail
          refine (HI.out _).mono ?_
          rintro e w3 ⟨rfl, hb⟩
          have P3 := Kp.mk (P2.out.later hb)
          have B3 := Kp.mk (B2.out.trans (hb.mono B2.out.size))
          clear c0 c1 c2 c3 hb
          have c0 := P3.out.c0
          have c1 := P3.out.c1
          have c2 := P3.out.c2
          have c3 := P3.out.c3
          go_wp2_with fail
          refine (HO.out _).mono ?_
          rintro e w4 ⟨rfl, hb⟩
          have P4 := Kp.mk (P3.out.later hb)
          have B4 := Kp.mk (B3.out.trans (hb.mono B3.out.size))
          clear c0 c1 c2 c3 hb
          have c0 := P4.out.c0
          have c1 := P4.out.c1
          have c2 := P4.out.c2
          have c3 := P4.out.c3
          have x : w4.cell? ⟨5, 0, none⟩ = some (errv (A 4)) := (HE.out.later B4.out).cell 4 (by decide)
          go_wp2_with fail
          go_ret
          exact ⟨rfl, B4.out⟩
        · have f3 : decide (d > 1) = false := decide_eq_false (by omega)
          by_cases h4 : r < 0
          · have f4 : decide (r < 0) = true := decide_eq_true (by omega)
            have hc : planC ⟨2, s, d, r⟩ = 4 := planC_range (p := ⟨2, s, d, r⟩) (by show ¬ ((2 : Int) < 1 ∨ 4 < (2 : Int)); omega) (by show ¬ (s < 1 ∨ 32 < s); omega) (by show d < 1 ∨ (1 : Int) < d ∨ r < 0 ∨ (0 : Int) < r; omega)
            rw [hc]
            clear hc h0 h1 h2 h3 h4
            go_enter Tryd.func33, Tryd.ntmps33
            go_wp2_with (refine Great.wpList_boxTo rfl 23 (.tmp 0) rfl _ rfl w.heap.size rfl (rowK 2 s d r) rfl ?_; rw [← E1.out])
            refine (HQ.out _).mono ?_
            rintro e w2 ⟨rfl, hb⟩
            have P2 := Kp.mk (P1.out.later hb)
            have B2 := Kp.mk (B1.out.trans (hb.mono B1.out.size))
            clear c0 c1 c2 c3 hb
            have c0 := P2.out.c0
            have c1 := P2.out.c1
            have c2 := P2.out.c2
            have c3 := P2.out.c3
            go_wp2_with fail
            refine (HI.out _).mono ?_
            rintro e w3 ⟨rfl, hb⟩
            have P3 := Kp.mk (P2.out.later hb)
            have B3 := Kp.mk (B2.out.trans (hb.mono B2.out.size))
            clear c0 c1 c2 c3 hb
            have c0 := P3.out.c0
            have c1 := P3.out.c1
            have c2 := P3.out.c2
            have c3 := P3.out.c3
            go_wp2_with fail
            refine (HO.out _).mono ?_
            rintro e w4 ⟨rfl, hb⟩
            have P4 := Kp.mk (P3.out.later hb)
            have B4 := Kp.mk (B3.out.trans (hb.mono B3.out.size))
            clear c0 c1 c2 c3 hb
            have c0 := P4.out.c0
            have c1 := P4.out.c1
            have c2 := P4.out.c2
            have c3 := P4.out.c3
            have x : w4.cell? ⟨5, 0, none⟩ = some (errv (A 4)) := (HE.out.later B4.out).cell 4 (by decide)
            go_wp2_with fail
            go_ret
            exact ⟨rfl, B4.out⟩
          · have f4 : decide (r < 0) = false := decide_eq_false (by omega)
            by_cases h5 : 0 < r
            · have f5 : decide (r > 0) = true := decide_eq_true (by omega)
              have hc : planC ⟨2, s, d, r⟩ = 4 := planC_range (p := ⟨2, s, d, r⟩) (by show ¬ ((2 : Int) < 1 ∨ 4 < (2 : Int)); omega) (by show ¬ (s < 1 ∨ 32 < s); omega) (by show d < 1 ∨ (1 : Int) < d ∨ r < 0 ∨ (0 : Int) < r; omega)
              rw [hc]
              clear hc h0 h1 h2 h3 h4 h5
              go_enter Tryd.func33, Tryd.ntmps33
              go_wp2_with (refine Great.wpList_boxTo rfl 23 (.tmp 0) rfl _ rfl w.heap.size rfl (rowK 2 s d r) rfl ?_; rw [← E1.out])
              refine (HQ.out _).mono ?_
              rintro e w2 ⟨rfl, hb⟩
              have P2 := Kp.mk (P1.out.later hb)
              have B2 := Kp.mk (B1.out.trans (hb.mono B1.out.size))
              clear c0 c1 c2 c3 hb
              have c0 := P2.out.c0
              have c1 := P2.out.c1
              have c2 := P2.out.c2
              have c3 := P2.out.c3
              go_wp2_with fail
              refine (HI.out _).mono ?_
              rintro e w3 ⟨rfl, hb⟩
              have P3 := Kp.mk (P2.out.later hb)
              have B3 := Kp.mk (B2.out.trans (hb.mono B2.out.size))
              clear c0 c1 c2 c3 hb
              have c0 := P3.out.c0
              have c1 := P3.out.c1
              have c2 := P3.out.c2
              have c3 := P3.out.c3
              go_wp2_with fail
              refine (HO.out _).mono ?_
              rintro e w4 ⟨rfl, hb⟩
              have P4 := Kp.mk (P3.out.later hb)
              have B4 := Kp.mk (B3.out.trans (hb.mono B3.out.size))
              clear c0 c1 c2 c3 hb
              have c0 := P4.out.c0
              have c1 := P4.out.c1
              have c2 := P4.out.c2
              have c3 := P4.out.c3
              have x : w4.cell? ⟨5, 0, none⟩ = some (errv (A 4)) := (HE.out.later B4.out).cell 4 (by decide)
              go_wp2_with fail
              go_ret
              exact ⟨rfl, B4.out⟩
            · have f5 : decide (r > 0) = false := decide_eq_false (by omega)
              have hc : planC ⟨2, s, d, r⟩ = 0 := planC_ok (p := ⟨2, s, d, r⟩) (by show ¬ ((2 : Int) < 1 ∨ 4 < (2 : Int)); omega) (by show ¬ (s < 1 ∨ 32 < s); omega) (by show ¬ (d < 1 ∨ (1 : Int) < d ∨ r < 0 ∨ (0 : Int) < r); omega)
              rw [hc]
              clear hc h0 h1 h2 h3 h4 h5
              go_enter Tryd.func33, Tryd.ntmps33
              go_wp2_with (refine Great.wpList_boxTo rfl 23 (.tmp 0) rfl _ rfl w.heap.size rfl (rowK 2 s d r) rfl ?_; rw [← E1.out])
              refine (HQ.out _).mono ?_
              rintro e w2 ⟨rfl, hb⟩
              have P2 := Kp.mk (P1.out.later hb)
              have B2 := Kp.mk (B1.out.trans (hb.mono B1.out.size))
              clear c0 c1 c2 c3 hb
              have c0 := P2.out.c0
              have c1 := P2.out.c1
              have c2 := P2.out.c2
              have c3 := P2.out.c3
              go_wp2_with fail
              refine (HI.out _).mono ?_
              rintro e w3 ⟨rfl, hb⟩
              have P3 := Kp.mk (P2.out.later hb)
              have B3 := Kp.mk (B2.out.trans (hb.mono B2.out.size))
              clear c0 c1 c2 c3 hb
              have c0 := P3.out.c0
              have c1 := P3.out.c1
              have c2 := P3.out.c2
              have c3 := P3.out.c3
              go_wp2_with fail
              refine (HO.out _).mono ?_
              rintro e w4 ⟨rfl, hb⟩
              have P4 := Kp.mk (P3.out.later hb)
              have B4 := Kp.mk (B3.out.trans (hb.mono B3.out.size))
              clear c0 c1 c2 c3 hb
              have c0 := P4.out.c0
              have c1 := P4.out.c1
              have c2 := P4.out.c2
              have c3 := P4.out.c3
              go_wp2_with fail
              go_ret
              exact ⟨rfl, B4.out⟩
set_option maxRecDepth 100000 in
set_option maxHeartbeats 8000000 in
theorem port_checkPlan_in3 (A : Nat → Addr) (s d r : Int) (w : World) (hE : Errs w [4, 7, 11] A) :
    Calls Tryd.prog 33 #[.agg (rowK 3 s d r)] w fun e w' => e = .returned (errOf A (planC ⟨3, s, d, r⟩)) ∧ Below w.heap.size w w' := by
  obtain ⟨w1, e1, hp1, b1⟩ := plan_box w 3 s d r
  have E1 := Kp.mk e1
  have HE := Kp.mk hE
  have P1 := Kp.mk hp1
  have B1 := Kp.mk b1
  have c0 := hp1.c0
  have c1 := hp1.c1
  have c2 := hp1.c2
  have c3 := hp1.c3
  have HQ : Kp (∀ w, Calls Tryd.prog 52 #[.agg (rowK 3 s d r)] w fun e w' => e = .returned (.bool true) ∧ Below w.heap.size w w') := ⟨fun w => by have h := port_isQueue ⟨3, s, d, r⟩ w; skip; exact h⟩
  have HI : Kp (∀ w, Calls Tryd.prog 51 #[.agg (rowK 3 s d r)] w fun e w' => e = .returned (.bool true) ∧ Below w.heap.size w w') := ⟨fun w => by have h := port_isIn ⟨3, s, d, r⟩ w; skip; exact h⟩
  clear hE hp1 b1 e1
  by_cases h0 : s < 1
  · have f0 : decide (s < 1) = true := decide_eq_true (by omega)
    have hc : planC ⟨3, s, d, r⟩ = 11 := planC_size (p := ⟨3, s, d, r⟩) (by show ¬ ((3 : Int) < 1 ∨ 4 < (3 : Int)); omega) (by show s < 1 ∨ 32 < s; omega)
    rw [hc]
    clear hc h0
    go_enter Tryd.func33, Tryd.ntmps33
    go_wp2_with (refine Great.wpList_boxTo rfl 23 (.tmp 0) rfl _ rfl w.heap.size rfl (rowK 3 s d r) rfl ?_; rw [← E1.out])
    refine (HQ.out _).mono ?_
    rintro e w2 ⟨rfl, hb⟩
    have P2 := Kp.mk (P1.out.later hb)
    have B2 := Kp.mk (B1.out.trans (hb.mono B1.out.size))
    clear c0 c1 c2 c3 hb
    have c0 := P2.out.c0
    have c1 := P2.out.c1
    have c2 := P2.out.c2
    have c3 := P2.out.c3
    go_wp2_with fail
    refine (HI.out _).mono ?_
    rintro e w3 ⟨rfl, hb⟩
    have P3 := Kp.mk (P2.out.later hb)
    have B3 := Kp.mk (B2.out.trans (hb.mono B2.out.size))
    clear c0 c1 c2 c3 hb
    have c0 := P3.out.c0
    have c1 := P3.out.c1
    have c2 := P3.out.c2
    have c3 := P3.out.c3
    have x : w3.cell? ⟨4, 0, none⟩ = some (errv (A 11)) := (HE.out.later B3.out).cell 11 (by decide)
    go_wp2_with fail
    go_ret
    exact ⟨rfl, B3.out⟩
  · have f0 : decide (s < 1) = false := decide_eq_false (by omega)
    by_cases h1 : 32 < s
    · have f1 : decide (s > 32) = true := decide_eq_true (by omega)
      have hc : planC ⟨3, s, d, r⟩ = 11 := planC_size (p := ⟨3, s, d, r⟩) (by show ¬ ((3 : Int) < 1 ∨ 4 < (3 : Int)); omega) (by show s < 1 ∨ 32 < s; omega)
      rw [hc]
      clear hc h0 h1
      go_enter Tryd.func33, Tryd.ntmps33
      go_wp2_with (refine Great.wpList_boxTo rfl 23 (.tmp 0) rfl _ rfl w.heap.size rfl (rowK 3 s d r) rfl ?_; rw [← E1.out])
      refine (HQ.out _).mono ?_
      rintro e w2 ⟨rfl, hb⟩
      have P2 := Kp.mk (P1.out.later hb)
      have B2 := Kp.mk (B1.out.trans (hb.mono B1.out.size))
      clear c0 c1 c2 c3 hb
      have c0 := P2.out.c0
      have c1 := P2.out.c1
      have c2 := P2.out.c2
      have c3 := P2.out.c3
      go_wp2_with fail
      refine (HI.out _).mono ?_
      rintro e w3 ⟨rfl, hb⟩
      have P3 := Kp.mk (P2.out.later hb)
      have B3 := Kp.mk (B2.out.trans (hb.mono B2.out.size))
      clear c0 c1 c2 c3 hb
      have c0 := P3.out.c0
      have c1 := P3.out.c1
      have c2 := P3.out.c2
      have c3 := P3.out.c3
      have x : w3.cell? ⟨4, 0, none⟩ = some (errv (A 11)) := (HE.out.later B3.out).cell 11 (by decide)
      go_wp2_with fail
      go_ret
      exact ⟨rfl, B3.out⟩
    · have f1 : decide (s > 32) = false := decide_eq_false (by omega)
      by_cases h2 : d < 1
      · have f2 : decide (d < 1) = true := decide_eq_true (by omega)
        have hc : planC ⟨3, s, d, r⟩ = 4 := planC_range (p := ⟨3, s, d, r⟩) (by show ¬ ((3 : Int) < 1 ∨ 4 < (3 : Int)); omega) (by show ¬ (s < 1 ∨ 32 < s); omega) (by show d < 1 ∨ (8 : Int) < d ∨ r < 0 ∨ (0 : Int) < r; omega)
        rw [hc]
        clear hc h0 h1 h2
        go_enter Tryd.func33, Tryd.ntmps33
        go_wp2_with (refine Great.wpList_boxTo rfl 23 (.tmp 0) rfl _ rfl w.heap.size rfl (rowK 3 s d r) rfl ?_; rw [← E1.out])
        refine (HQ.out _).mono ?_
        rintro e w2 ⟨rfl, hb⟩
        have P2 := Kp.mk (P1.out.later hb)
        have B2 := Kp.mk (B1.out.trans (hb.mono B1.out.size))
        clear c0 c1 c2 c3 hb
        have c0 := P2.out.c0
        have c1 := P2.out.c1
        have c2 := P2.out.c2
        have c3 := P2.out.c3
        go_wp2_with fail
        refine (HI.out _).mono ?_
        rintro e w3 ⟨rfl, hb⟩
        have P3 := Kp.mk (P2.out.later hb)
        have B3 := Kp.mk (B2.out.trans (hb.mono B2.out.size))
        clear c0 c1 c2 c3 hb
        have c0 := P3.out.c0
        have c1 := P3.out.c1
        have c2 := P3.out.c2
        have c3 := P3.out.c3
        have x : w3.cell? ⟨5, 0, none⟩ = some (errv (A 4)) := (HE.out.later B3.out).cell 4 (by decide)
        go_wp2_with fail
        go_ret
        exact ⟨rfl, B3.out⟩
      · have f2 : decide (d < 1) = false := decide_eq_false (by omega)
        by_cases h3 : 8 < d
        · have f3 : decide (d > 8) = true := decide_eq_true (by omega)
          have hc : planC ⟨3, s, d, r⟩ = 4 := planC_range (p := ⟨3, s, d, r⟩) (by show ¬ ((3 : Int) < 1 ∨ 4 < (3 : Int)); omega) (by show ¬ (s < 1 ∨ 32 < s); omega) (by show d < 1 ∨ (8 : Int) < d ∨ r < 0 ∨ (0 : Int) < r; omega)
          rw [hc]
          clear hc h0 h1 h2 h3
          go_enter Tryd.func33, Tryd.ntmps33
          go_wp2_with (refine Great.wpList_boxTo rfl 23 (.tmp 0) rfl _ rfl w.heap.size rfl (rowK 3 s d r) rfl ?_; rw [← E1.out])
          refine (HQ.out _).mono ?_
          rintro e w2 ⟨rfl, hb⟩
          have P2 := Kp.mk (P1.out.later hb)
          have B2 := Kp.mk (B1.out.trans (hb.mono B1.out.size))
          clear c0 c1 c2 c3 hb
          have c0 := P2.out.c0
          have c1 := P2.out.c1
          have c2 := P2.out.c2
          have c3 := P2.out.c3
          go_wp2_with fail
          refine (HI.out _).mono ?_
          rintro e w3 ⟨rfl, hb⟩
          have P3 := Kp.mk (P2.out.later hb)
          have B3 := Kp.mk (B2.out.trans (hb.mono B2.out.size))
          clear c0 c1 c2 c3 hb
          have c0 := P3.out.c0
          have c1 := P3.out.c1
          have c2 := P3.out.c2
          have c3 := P3.out.c3
          have x : w3.cell? ⟨5, 0, none⟩ = some (errv (A 4)) := (HE.out.later B3.out).cell 4 (by decide)
          go_wp2_with fail
          go_ret
          exact ⟨rfl, B3.out⟩
        · have f3 : decide (d > 8) = false := decide_eq_false (by omega)
          by_cases h4 : r < 0
          · have f4 : decide (r < 0) = true := decide_eq_true (by omega)
            have hc : planC ⟨3, s, d, r⟩ = 4 := planC_range (p := ⟨3, s, d, r⟩) (by show ¬ ((3 : Int) < 1 ∨ 4 < (3 : Int)); omega) (by show ¬ (s < 1 ∨ 32 < s); omega) (by show d < 1 ∨ (8 : Int) < d ∨ r < 0 ∨ (0 : Int) < r; omega)
            rw [hc]
            clear hc h0 h1 h2 h3 h4
            go_enter Tryd.func33, Tryd.ntmps33
            go_wp2_with (refine Great.wpList_boxTo rfl 23 (.tmp 0) rfl _ rfl w.heap.size rfl (rowK 3 s d r) rfl ?_; rw [← E1.out])
            refine (HQ.out _).mono ?_
            rintro e w2 ⟨rfl, hb⟩
            have P2 := Kp.mk (P1.out.later hb)
            have B2 := Kp.mk (B1.out.trans (hb.mono B1.out.size))
            clear c0 c1 c2 c3 hb
            have c0 := P2.out.c0
            have c1 := P2.out.c1
            have c2 := P2.out.c2
            have c3 := P2.out.c3
            go_wp2_with fail
            refine (HI.out _).mono ?_
            rintro e w3 ⟨rfl, hb⟩
            have P3 := Kp.mk (P2.out.later hb)
            have B3 := Kp.mk (B2.out.trans (hb.mono B2.out.size))
            clear c0 c1 c2 c3 hb
            have c0 := P3.out.c0
            have c1 := P3.out.c1
            have c2 := P3.out.c2
            have c3 := P3.out.c3
            have x : w3.cell? ⟨5, 0, none⟩ = some (errv (A 4)) := (HE.out.later B3.out).cell 4 (by decide)
            go_wp2_with fail
            go_ret
            exact ⟨rfl, B3.out⟩
          · have f4 : decide (r < 0) = false := decide_eq_false (by omega)
            by_cases h5 : 0 < r
            · have f5 : decide (r > 0) = true := decide_eq_true (by omega)
              have hc : planC ⟨3, s, d, r⟩ = 4 := planC_range (p := ⟨3, s, d, r⟩) (by show ¬ ((3 : Int) < 1 ∨ 4 < (3 : Int)); omega) (by show ¬ (s < 1 ∨ 32 < s); omega) (by show d < 1 ∨ (8 : Int) < d ∨ r < 0 ∨ (0 : Int) < r; omega)
              rw [hc]
              clear hc h0 h1 h2 h3 h4 h5
              go_enter Tryd.func33, Tryd.ntmps33
              go_wp2_with (refine Great.wpList_boxTo rfl 23 (.tmp 0) rfl _ rfl w.heap.size rfl (rowK 3 s d r) rfl ?_; rw [← E1.out])
              refine (HQ.out _).mono ?_
              rintro e w2 ⟨rfl, hb⟩
              have P2 := Kp.mk (P1.out.later hb)
              have B2 := Kp.mk (B1.out.trans (hb.mono B1.out.size))
              clear c0 c1 c2 c3 hb
              have c0 := P2.out.c0
              have c1 := P2.out.c1
              have c2 := P2.out.c2
              have c3 := P2.out.c3
              go_wp2_with fail
              refine (HI.out _).mono ?_
              rintro e w3 ⟨rfl, hb⟩
              have P3 := Kp.mk (P2.out.later hb)
              have B3 := Kp.mk (B2.out.trans (hb.mono B2.out.size))
              clear c0 c1 c2 c3 hb
              have c0 := P3.out.c0
              have c1 := P3.out.c1
              have c2 := P3.out.c2
              have c3 := P3.out.c3
              have x : w3.cell? ⟨5, 0, none⟩ = some (errv (A 4)) := (HE.out.later B3.out).cell 4 (by decide)
              go_wp2_with fail
              go_ret
              exact ⟨rfl, B3.out⟩
            · have f5 : decide (r > 0) = false := decide_eq_false (by omega)
              have hc : planC ⟨3, s, d, r⟩ = 0 := planC_ok (p := ⟨3, s, d, r⟩) (by show ¬ ((3 : Int) < 1 ∨ 4 < (3 : Int)); omega) (by show ¬ (s < 1 ∨ 32 < s); omega) (by show ¬ (d < 1 ∨ (8 : Int) < d ∨ r < 0 ∨ (0 : Int) < r); omega)
              rw [hc]
              clear hc h0 h1 h2 h3 h4 h5
              go_enter Tryd.func33, Tryd.ntmps33
              go_wp2_with (refine Great.wpList_boxTo rfl 23 (.tmp 0) rfl _ rfl w.heap.size rfl (rowK 3 s d r) rfl ?_; rw [← E1.out])
              refine (HQ.out _).mono ?_
              rintro e w2 ⟨rfl, hb⟩
              have P2 := Kp.mk (P1.out.later hb)
              have B2 := Kp.mk (B1.out.trans (hb.mono B1.out.size))
              clear c0 c1 c2 c3 hb
              have c0 := P2.out.c0
              have c1 := P2.out.c1
              have c2 := P2.out.c2
              have c3 := P2.out.c3
              go_wp2_with fail
              refine (HI.out _).mono ?_
              rintro e w3 ⟨rfl, hb⟩
              have P3 := Kp.mk (P2.out.later hb)
              have B3 := Kp.mk (B2.out.trans (hb.mono B2.out.size))
              clear c0 c1 c2 c3 hb
              have c0 := P3.out.c0
              have c1 := P3.out.c1
              have c2 := P3.out.c2
              have c3 := P3.out.c3
              go_wp2_with fail
              go_ret
              exact ⟨rfl, B3.out⟩
set_option maxRecDepth 100000 in
set_option maxHeartbeats 8000000 in
theorem port_checkPlan_in4 (A : Nat → Addr) (s d r : Int) (w : World) (hE : Errs w [4, 7, 11] A) :
    Calls Tryd.prog 33 #[.agg (rowK 4 s d r)] w fun e w' => e = .returned (errOf A (planC ⟨4, s, d, r⟩)) ∧ Below w.heap.size w w' := by
  obtain ⟨w1, e1, hp1, b1⟩ := plan_box w 4 s d r
  have E1 := Kp.mk e1
  have HE := Kp.mk hE
  have P1 := Kp.mk hp1
  have B1 := Kp.mk b1
  have c0 := hp1.c0
  have c1 := hp1.c1
  have c2 := hp1.c2
  have c3 := hp1.c3
  have HQ : Kp (∀ w, Calls Tryd.prog 52 #[.agg (rowK 4 s d r)] w fun e w' => e = .returned (.bool true) ∧ Below w.heap.size w w') := ⟨fun w => by have h := port_isQueue ⟨4, s, d, r⟩ w; skip; exact h⟩
  have HI : Kp (∀ w, Calls Tryd.prog 51 #[.agg (rowK 4 s d r)] w fun e w' => e = .returned (.bool false) ∧ Below w.heap.size w w') := ⟨fun w => by have h := port_isIn ⟨4, s, d, r⟩ w; skip; exact h⟩
  have HO : Kp (∀ w, Calls Tryd.prog 59 #[.agg (rowK 4 s d r)] w fun e w' => e = .returned (.bool true) ∧ Below w.heap.size w w') := ⟨fun w => by have h := port_isOut ⟨4, s, d, r⟩ w; skip; exact h⟩
  clear hE hp1 b1 e1
  by_cases h0 : s < 1
  · have f0 : decide (s < 1) = true := decide_eq_true (by omega)
    have hc : planC ⟨4, s, d, r⟩ = 11 := planC_size (p := ⟨4, s, d, r⟩) (by show ¬ ((4 : Int) < 1 ∨ 4 < (4 : Int)); omega) (by show s < 1 ∨ 32 < s; omega)
    rw [hc]
    clear hc h0
    go_enter Tryd.func33, Tryd.ntmps33
    go_wp2_with (refine Great.wpList_boxTo rfl 23 (.tmp 0) rfl _ rfl w.heap.size rfl (rowK 4 s d r) rfl ?_; rw [← E1.out])
    refine (HQ.out _).mono ?_
    rintro e w2 ⟨rfl, hb⟩
    have P2 := Kp.mk (P1.out.later hb)
    have B2 := Kp.mk (B1.out.trans (hb.mono B1.out.size))
    clear c0 c1 c2 c3 hb
    have c0 := P2.out.c0
    have c1 := P2.out.c1
    have c2 := P2.out.c2
    have c3 := P2.out.c3
    go_wp2_with fail
    refine (HI.out _).mono ?_
    rintro e w3 ⟨rfl, hb⟩
    have P3 := Kp.mk (P2.out.later hb)
    have B3 := Kp.mk (B2.out.trans (hb.mono B2.out.size))
    clear c0 c1 c2 c3 hb
    have c0 := P3.out.c0
    have c1 := P3.out.c1
    have c2 := P3.out.c2
    have c3 := P3.out.c3
    go_wp2_with fail
    refine (HO.out _).mono ?_
    rintro e w4 ⟨rfl, hb⟩
    have P4 := Kp.mk (P3.out.later hb)
    have B4 := Kp.mk (B3.out.trans (hb.mono B3.out.size))
    clear c0 c1 c2 c3 hb
    have c0 := P4.out.c0
    have c1 := P4.out.c1
    have c2 := P4.out.c2
    have c3 := P4.out.c3
    have x : w4.cell? ⟨4, 0, none⟩ = some (errv (A 11)) := (HE.out.later B4.out).cell 11 (by decide)
    go_wp2_with fail
    go_ret
    exact ⟨rfl, B4.out⟩
  · have f0 : decide (s < 1) = false := decide_eq_false (by omega)
    by_cases h1 : 32 < s
    · have f1 : decide (s > 32) = true := decide_eq_true (by omega)
      have hc : planC ⟨4, s, d, r⟩ = 11 := planC_size (p := ⟨4, s, d, r⟩) (by show ¬ ((4 : Int) < 1 ∨ 4 < (4 : Int)); omega) (by show s < 1 ∨ 32 < s; omega)
      rw [hc]
      clear hc h0 h1
      go_enter Tryd.func33, Tryd.ntmps33
      go_wp2_with (refine Great.wpList_boxTo rfl 23 (.tmp 0) rfl _ rfl w.heap.size rfl (rowK 4 s d r) rfl ?_; rw [← E1.out])
      refine (HQ.out _).mono ?_
      rintro e w2 ⟨rfl, hb⟩
      have P2 := Kp.mk (P1.out.later hb)
      have B2 := Kp.mk (B1.out.trans (hb.mono B1.out.size))
      clear c0 c1 c2 c3 hb
      have c0 := P2.out.c0
      have c1 := P2.out.c1
      have c2 := P2.out.c2
      have c3 := P2.out.c3
      go_wp2_with fail
      refine (HI.out _).mono ?_
      rintro e w3 ⟨rfl, hb⟩
      have P3 := Kp.mk (P2.out.later hb)
      have B3 := Kp.mk (B2.out.trans (hb.mono B2.out.size))
      clear c0 c1 c2 c3 hb
      have c0 := P3.out.c0
      have c1 := P3.out.c1
      have c2 := P3.out.c2
      have c3 := P3.out.c3
      go_wp2_with fail
      refine (HO.out _).mono ?_
      rintro e w4 ⟨rfl, hb⟩
      have P4 := Kp.mk (P3.out.later hb)
      have B4 := Kp.mk (B3.out.trans (hb.mono B3.out.size))
      clear c0 c1 c2 c3 hb
      have c0 := P4.out.c0
      have c1 := P4.out.c1
      have c2 := P4.out.c2
      have c3 := P4.out.c3
      have x : w4.cell? ⟨4, 0, none⟩ = some (errv (A 11)) := (HE.out.later B4.out).cell 11 (by decide)
      go_wp2_with fail
      go_ret
      exact ⟨rfl, B4.out⟩
    · have f1 : decide (s > 32) = false := decide_eq_false (by omega)
      by_cases h2 : d < 1
      · have f2 : decide (d < 1) = true := decide_eq_true (by omega)
        have hc : planC ⟨4, s, d, r⟩ = 4 := planC_range (p := ⟨4, s, d, r⟩) (by show ¬ ((4 : Int) < 1 ∨ 4 < (4 : Int)); omega) (by show ¬ (s < 1 ∨ 32 < s); omega) (by show d < 1 ∨ (8 : Int) < d ∨ r < 0 ∨ (0 : Int) < r; omega)
        rw [hc]
        clear hc h0 h1 h2
        go_enter Tryd.func33, Tryd.ntmps33
        go_wp2_with (refine Great.wpList_boxTo rfl 23 (.tmp 0) rfl _ rfl w.heap.size rfl (rowK 4 s d r) rfl ?_; rw [← E1.out])
        refine (HQ.out _).mono ?_
        rintro e w2 ⟨rfl, hb⟩
        have P2 := Kp.mk (P1.out.later hb)
        have B2 := Kp.mk (B1.out.trans (hb.mono B1.out.size))
        clear c0 c1 c2 c3 hb
        have c0 := P2.out.c0
        have c1 := P2.out.c1
        have c2 := P2.out.c2
        have c3 := P2.out.c3
        go_wp2_with fail
        refine (HI.out _).mono ?_
        rintro e w3 ⟨rfl, hb⟩
        have P3 := Kp.mk (P2.out.later hb)
        have B3 := Kp.mk (B2.out.trans (hb.mono B2.out.size))
        clear c0 c1 c2 c3 hb
        have c0 := P3.out.c0
        have c1 := P3.out.c1
        have c2 := P3.out.c2
        have c3 := P3.out.c3
        go_wp2_with fail
        refine (HO.out _).mono ?_
        rintro e w4 ⟨rfl, hb⟩
        have P4 := Kp.mk (P3.out.later hb)
        have B4 := Kp.mk (B3.out.trans (hb.mono B3.out.size))
        clear c0 c1 c2 c3 hb
        have c0 := P4.out.c0
        have c1 := P4.out.c1
        have c2 := P4.out.c2
        have c3 := P4.out.c3
        have x : w4.cell? ⟨5, 0, none⟩ = some (errv (A 4)) := (HE.out.later B4.out).cell 4 (by decide)
        go_wp2_with fail
        go_ret
        exact ⟨rfl, B4.out⟩
      · have f2 : decide (d < 1) = false := decide_eq_false (by omega)
        by_cases h3 : 8 < d
        · have f3 : decide (d > 8) = true := decide_eq_true (by omega)
          have hc : planC ⟨4, s, d, r⟩ = 4 := planC_range (p := ⟨4, s, d, r⟩) (by show ¬ ((4 : Int) < 1 ∨ 4 < (4 : Int)); omega) (by show ¬ (s < 1 ∨ 32 < s); omega) (by show d < 1 ∨ (8 : Int) < d ∨ r < 0 ∨ (0 : Int) < r; omega)
          rw [hc]
          clear hc h0 h1 h2 h3
          go_enter Tryd.func33, Tryd.ntmps33
          go_wp2_with (refine Great.wpList_boxTo rfl 23 (.tmp 0) rfl _ rfl w.heap.size rfl (rowK 4 s d r) rfl ?_; rw [← E1.out])
          refine (HQ.out _).mono ?_
          rintro e w2 ⟨rfl, hb⟩
          have P2 := Kp.mk (P1.out.later hb)
          have B2 := Kp.mk (B1.out.trans (hb.mono B1.out.size))
          clear c0 c1 c2 c3 hb
          have c0 := P2.out.c0
          have c1 := P2.out.c1
          have c2 := P2.out.c2
          have c3 := P2.out.c3
          go_wp2_with fail
          refine (HI.out _).mono ?_
          rintro e w3 ⟨rfl, hb⟩
          have P3 := Kp.mk (P2.out.later hb)
          have B3 := Kp.mk (B2.out.trans (hb.mono B2.out.size))
          clear c0 c1 c2 c3 hb
          have c0 := P3.out.c0
          have c1 := P3.out.c1
          have c2 := P3.out.c2
          have c3 := P3.out.c3
          go_wp2_with fail
          refine (HO.out _).mono ?_
          rintro e w4 ⟨rfl, hb⟩
          have P4 := Kp.mk (P3.out.later hb)
          have B4 := Kp.mk (B3.out.trans (hb.mono B3.out.size))
          clear c0 c1 c2 c3 hb
          have c0 := P4.out.c0
          have c1 := P4.out.c1
          have c2 := P4.out.c2
          have c3 := P4.out.c3
          have x : w4.cell? ⟨5, 0, none⟩ = some (errv (A 4)) := (HE.out.later B4.out).cell 4 (by decide)
          go_wp2_with fail
          go_ret
          exact ⟨rfl, B4.out⟩
        · have f3 : decide (d > 8) = false := decide_eq_false (by omega)
          by_cases h4 : r < 0
          · have f4 : decide (r < 0) = true := decide_eq_true (by omega)
            have hc : planC ⟨4, s, d, r⟩ = 4 := planC_range (p := ⟨4, s, d, r⟩) (by show ¬ ((4 : Int) < 1 ∨ 4 < (4 : Int)); omega) (by show ¬ (s < 1 ∨ 32 < s); omega) (by show d < 1 ∨ (8 : Int) < d ∨ r < 0 ∨ (0 : Int) < r; omega)
            rw [hc]
            clear hc h0 h1 h2 h3 h4
            go_enter Tryd.func33, Tryd.ntmps33
            go_wp2_with (refine Great.wpList_boxTo rfl 23 (.tmp 0) rfl _ rfl w.heap.size rfl (rowK 4 s d r) rfl ?_; rw [← E1.out])
            refine (HQ.out _).mono ?_
            rintro e w2 ⟨rfl, hb⟩
            have P2 := Kp.mk (P1.out.later hb)
            have B2 := Kp.mk (B1.out.trans (hb.mono B1.out.size))
            clear c0 c1 c2 c3 hb
            have c0 := P2.out.c0
            have c1 := P2.out.c1
            have c2 := P2.out.c2
            have c3 := P2.out.c3
            go_wp2_with fail
            refine (HI.out _).mono ?_
            rintro e w3 ⟨rfl, hb⟩
            have P3 := Kp.mk (P2.out.later hb)
            have B3 := Kp.mk (B2.out.trans (hb.mono B2.out.size))
            clear c0 c1 c2 c3 hb
            have c0 := P3.out.c0
            have c1 := P3.out.c1
            have c2 := P3.out.c2
            have c3 := P3.out.c3
            go_wp2_with fail
            refine (HO.out _).mono ?_
            rintro e w4 ⟨rfl, hb⟩
            have P4 := Kp.mk (P3.out.later hb)
            have B4 := Kp.mk (B3.out.trans (hb.mono B3.out.size))
            clear c0 c1 c2 c3 hb
            have c0 := P4.out.c0
            have c1 := P4.out.c1
            have c2 := P4.out.c2
            have c3 := P4.out.c3
            have x : w4.cell? ⟨5, 0, none⟩ = some (errv (A 4)) := (HE.out.later B4.out).cell 4 (by decide)
            go_wp2_with fail
            go_ret
            exact ⟨rfl, B4.out⟩
          · have f4 : decide (r < 0) = false := decide_eq_false (by omega)
            by_cases h5 : 0 < r
            · have f5 : decide (r > 0) = true := decide_eq_true (by omega)
              have hc : planC ⟨4, s, d, r⟩ = 4 := planC_range (p := ⟨4, s, d, r⟩) (by show ¬ ((4 : Int) < 1 ∨ 4 < (4 : Int)); omega) (by show ¬ (s < 1 ∨ 32 < s); omega) (by show d < 1 ∨ (8 : Int) < d ∨ r < 0 ∨ (0 : Int) < r; omega)
              rw [hc]
              clear hc h0 h1 h2 h3 h4 h5
              go_enter Tryd.func33, Tryd.ntmps33
              go_wp2_with (refine Great.wpList_boxTo rfl 23 (.tmp 0) rfl _ rfl w.heap.size rfl (rowK 4 s d r) rfl ?_; rw [← E1.out])
              refine (HQ.out _).mono ?_
              rintro e w2 ⟨rfl, hb⟩
              have P2 := Kp.mk (P1.out.later hb)
              have B2 := Kp.mk (B1.out.trans (hb.mono B1.out.size))
              clear c0 c1 c2 c3 hb
              have c0 := P2.out.c0
              have c1 := P2.out.c1
              have c2 := P2.out.c2
              have c3 := P2.out.c3
              go_wp2_with fail
              refine (HI.out _).mono ?_
              rintro e w3 ⟨rfl, hb⟩
              have P3 := Kp.mk (P2.out.later hb)
              have B3 := Kp.mk (B2.out.trans (hb.mono B2.out.size))
              clear c0 c1 c2 c3 hb
              have c0 := P3.out.c0
              have c1 := P3.out.c1
              have c2 := P3.out.c2
              have c3 := P3.out.c3
              go_wp2_with fail
              refine (HO.out _).mono ?_
              rintro e w4 ⟨rfl, hb⟩
              have P4 := Kp.mk (P3.out.later hb)
              have B4 := Kp.mk (B3.out.trans (hb.mono B3.out.size))
              clear c0 c1 c2 c3 hb
              have c0 := P4.out.c0
              have c1 := P4.out.c1
              have c2 := P4.out.c2
              have c3 := P4.out.c3
              have x : w4.cell? ⟨5, 0, none⟩ = some (errv (A 4)) := (HE.out.later B4.out).cell 4 (by decide)
              go_wp2_with fail
              go_ret
              exact ⟨rfl, B4.out⟩
            · have f5 : decide (r > 0) = false := decide_eq_false (by omega)
              have hc : planC ⟨4, s, d, r⟩ = 0 := planC_ok (p := ⟨4, s, d, r⟩) (by show ¬ ((4 : Int) < 1 ∨ 4 < (4 : Int)); omega) (by show ¬ (s < 1 ∨ 32 < s); omega) (by show ¬ (d < 1 ∨ (8 : Int) < d ∨ r < 0 ∨ (0 : Int) < r); omega)
              rw [hc]
              clear hc h0 h1 h2 h3 h4 h5
              go_enter Tryd.func33, Tryd.ntmps33
              go_wp2_with (refine Great.wpList_boxTo rfl 23 (.tmp 0) rfl _ rfl w.heap.size rfl (rowK 4 s d r) rfl ?_; rw [← E1.out])
              refine (HQ.out _).mono ?_
              rintro e w2 ⟨rfl, hb⟩
              have P2 := Kp.mk (P1.out.later hb)
              have B2 := Kp.mk (B1.out.trans (hb.mono B1.out.size))
              clear c0 c1 c2 c3 hb
              have c0 := P2.out.c0
              have c1 := P2.out.c1
              have c2 := P2.out.c2
              have c3 := P2.out.c3
              go_wp2_with fail
              refine (HI.out _).mono ?_
              rintro e w3 ⟨rfl, hb⟩
              have P3 := Kp.mk (P2.out.later hb)
              have B3 := Kp.mk (B2.out.trans (hb.mono B2.out.size))
              clear c0 c1 c2 c3 hb
              have c0 := P3.out.c0
              have c1 := P3.out.c1
              have c2 := P3.out.c2
              have c3 := P3.out.c3
              go_wp2_with fail
              refine (HO.out _).mono ?_
              rintro e w4 ⟨rfl, hb⟩
              have P4 := Kp.mk (P3.out.later hb)
              have B4 := Kp.mk (B3.out.trans (hb.mono B3.out.size))
              clear c0 c1 c2 c3 hb
              have c0 := P4.out.c0
              have c1 := P4.out.c1
              have c2 := P4.out.c2
              have c3 := P4.out.c3
              go_wp2_with fail
              go_ret
              exact ⟨rfl, B4.out⟩
set_option maxRecDepth 100000 in
set_option maxHeartbeats 8000000 in
/-- The program's CheckPlan. -/
theorem port_checkPlan (A : Nat → Addr) (p : PortP) (w : World) (hE : Errs w [4, 7, 11] A) :
    Calls Tryd.prog 33 #[.agg p.row.toArray] w fun e w' => e = .returned (errOf A (planC p)) ∧ Below w.heap.size w w' := by
  obtain ⟨k, s, d, r⟩ := p
  by_cases e1 : k = 1
  · subst e1; exact port_checkPlan_in1 A s d r w hE
  by_cases e2 : k = 2
  · subst e2; exact port_checkPlan_in2 A s d r w hE
  by_cases e3 : k = 3
  · subst e3; exact port_checkPlan_in3 A s d r w hE
  by_cases e4 : k = 4
  · subst e4; exact port_checkPlan_in4 A s d r w hE
  have hc : planC ⟨k, s, d, r⟩ = 7 := planC_kind (by show k < 1 ∨ 4 < k; omega)
  rw [hc]
  show Calls Tryd.prog 33 #[.agg (rowK k s d r)] w fun e w' => e = .returned (errv (A 7)) ∧ Below w.heap.size w w'
  have f1 : (k == 1) = false := by simpa using e1
  have q1 : queueK k = false := decide_eq_false (by omega)
  have q2 : inK k = false := decide_eq_false (by omega)
  have q3 : outK k = false := decide_eq_false (by omega)
  obtain ⟨w1, ee, hp1, b1⟩ := plan_box w k s d r
  have E1 := Kp.mk ee
  have HE := Kp.mk hE
  have P1 := Kp.mk hp1
  have B1 := Kp.mk b1
  have c0 := hp1.c0
  have c1 := hp1.c1
  have c2 := hp1.c2
  have c3 := hp1.c3
  have HQ : Kp (∀ w, Calls Tryd.prog 52 #[.agg (rowK k s d r)] w fun e w' => e = .returned (.bool false) ∧ Below w.heap.size w w') := ⟨fun w => by have h := port_isQueue ⟨k, s, d, r⟩ w; rw [show (PortP.mk k s d r).kind = k from rfl, q1] at h; exact h⟩
  have HI : Kp (∀ w, Calls Tryd.prog 51 #[.agg (rowK k s d r)] w fun e w' => e = .returned (.bool false) ∧ Below w.heap.size w w') := ⟨fun w => by have h := port_isIn ⟨k, s, d, r⟩ w; rw [show (PortP.mk k s d r).kind = k from rfl, q2] at h; exact h⟩
  have HO : Kp (∀ w, Calls Tryd.prog 59 #[.agg (rowK k s d r)] w fun e w' => e = .returned (.bool false) ∧ Below w.heap.size w w') := ⟨fun w => by have h := port_isOut ⟨k, s, d, r⟩ w; rw [show (PortP.mk k s d r).kind = k from rfl, q3] at h; exact h⟩
  clear hE hp1 b1 ee hc e1 e2 e3 e4 q1 q2 q3
  go_enter Tryd.func33, Tryd.ntmps33
  go_wp2_with (refine Great.wpList_boxTo rfl 23 (.tmp 0) rfl _ rfl w.heap.size rfl (rowK k s d r) rfl ?_; rw [← E1.out])
  refine (HQ.out _).mono ?_
  rintro e w2 ⟨rfl, hb⟩
  have P2 := Kp.mk (P1.out.later hb)
  have B2 := Kp.mk (B1.out.trans (hb.mono B1.out.size))
  clear c0 c1 c2 c3 hb
  have c0 := P2.out.c0
  have c1 := P2.out.c1
  have c2 := P2.out.c2
  have c3 := P2.out.c3
  go_wp2_with fail
  refine (HI.out _).mono ?_
  rintro e w3 ⟨rfl, hb⟩
  have P3 := Kp.mk (P2.out.later hb)
  have B3 := Kp.mk (B2.out.trans (hb.mono B2.out.size))
  clear c0 c1 c2 c3 hb
  have c0 := P3.out.c0
  have c1 := P3.out.c1
  have c2 := P3.out.c2
  have c3 := P3.out.c3
  go_wp2_with fail
  refine (HO.out _).mono ?_
  rintro e w4 ⟨rfl, hb⟩
  have P4 := Kp.mk (P3.out.later hb)
  have B4 := Kp.mk (B3.out.trans (hb.mono B3.out.size))
  clear c0 c1 c2 c3 hb
  have c0 := P4.out.c0
  have c1 := P4.out.c1
  have c2 := P4.out.c2
  have c3 := P4.out.c3
  have x : w4.cell? ⟨0, 0, none⟩ = some (errv (A 7)) := (HE.out.later B4.out).cell 7 (by decide)
  go_wp2_with fail
  go_ret
  exact ⟨rfl, B4.out⟩
end Go.Proofs.YtjlgnbjfgeppcaaDoor
