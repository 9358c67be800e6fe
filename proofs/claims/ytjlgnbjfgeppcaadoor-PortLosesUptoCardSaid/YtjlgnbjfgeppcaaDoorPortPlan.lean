/- CheckPlan, the document's and the program's, walked. -/
import Derived.Test.YtjlgnbjfgeppcaaDoorPortKinds
namespace Go.Proofs.YtjlgnbjfgeppcaaDoor
open Go Go.RowKit
set_option linter.unusedVariables false

set_option maxRecDepth 100000 in
set_option maxHeartbeats 8000000 in
theorem ref_checkPlan_in1 (s d r : Int) (w : World) :
    Calls Tryd.prog 10 #[.agg (PortP.row ⟨1, s, d, r⟩).toArray] w fun e w' => e = .returned (.int .i64 (planC ⟨1, s, d, r⟩ : Nat)) ∧ Below w.heap.size w w' := by
  obtain ⟨w1, hw1, hp, hb⟩ := plan_made w ⟨1, s, d, r⟩
  have c0 := hp.c0
  have c1 := hp.c1
  have c2 := hp.c2
  have c3 := hp.c3
  have W1 := Kp.mk hw1
  have HB := Kp.mk hb
  clear hw1 hp hb
  by_cases h0 : s < 1
  · have f0 : decide (s < 1) = true := decide_eq_true (by omega)
    have hc : planC ⟨1, s, d, r⟩ = 11 := planC_size (p := ⟨1, s, d, r⟩) (by show ¬ ((1 : Int) < 1 ∨ 4 < (1 : Int)); omega) (by show s < 1 ∨ 32 < s; omega)
    rw [hc]
    clear hc h0
    clear c0 c1 c2 c3
    show Calls Tryd.prog 10 #[.agg #[.int .i64 1, .int .i64 s, .int .i64 d, .int .i64 r]] w _
    go_enter Tryd.func10, Tryd.ntmps10
    go_wp2
    go_ret
    exact ⟨rfl, by have h := HB.out; rw [W1.out] at h; exact h⟩
  · have f0 : decide (s < 1) = false := decide_eq_false (by omega)
    by_cases h1 : 32 < s
    · have f1 : decide (s > 32) = true := decide_eq_true (by omega)
      have hc : planC ⟨1, s, d, r⟩ = 11 := planC_size (p := ⟨1, s, d, r⟩) (by show ¬ ((1 : Int) < 1 ∨ 4 < (1 : Int)); omega) (by show s < 1 ∨ 32 < s; omega)
      rw [hc]
      clear hc h0 h1
      clear c0 c1 c2 c3
      show Calls Tryd.prog 10 #[.agg #[.int .i64 1, .int .i64 s, .int .i64 d, .int .i64 r]] w _
      go_enter Tryd.func10, Tryd.ntmps10
      go_wp2
      go_ret
      exact ⟨rfl, by have h := HB.out; rw [W1.out] at h; exact h⟩
    · have f1 : decide (s > 32) = false := decide_eq_false (by omega)
      by_cases h2 : d < 1
      · have f2 : decide (d < 1) = true := decide_eq_true (by omega)
        have hc : planC ⟨1, s, d, r⟩ = 4 := planC_range (p := ⟨1, s, d, r⟩) (by show ¬ ((1 : Int) < 1 ∨ 4 < (1 : Int)); omega) (by show ¬ (s < 1 ∨ 32 < s); omega) (by show d < 1 ∨ (1 : Int) < d ∨ r < 0 ∨ (255 : Int) < r; omega)
        rw [hc]
        clear hc h0 h1 h2
        clear c0 c1 c2 c3
        show Calls Tryd.prog 10 #[.agg #[.int .i64 1, .int .i64 s, .int .i64 d, .int .i64 r]] w _
        go_enter Tryd.func10, Tryd.ntmps10
        go_wp2
        go_ret
        exact ⟨rfl, by have h := HB.out; rw [W1.out] at h; exact h⟩
      · have f2 : decide (d < 1) = false := decide_eq_false (by omega)
        by_cases h3 : 8 < d
        · have f3 : decide (d > 8) = true := decide_eq_true (by omega)
          have hc : planC ⟨1, s, d, r⟩ = 4 := planC_range (p := ⟨1, s, d, r⟩) (by show ¬ ((1 : Int) < 1 ∨ 4 < (1 : Int)); omega) (by show ¬ (s < 1 ∨ 32 < s); omega) (by show d < 1 ∨ (1 : Int) < d ∨ r < 0 ∨ (255 : Int) < r; omega)
          rw [hc]
          clear hc h0 h1 h2 h3
          clear c0 c1 c2 c3
          show Calls Tryd.prog 10 #[.agg #[.int .i64 1, .int .i64 s, .int .i64 d, .int .i64 r]] w _
          go_enter Tryd.func10, Tryd.ntmps10
          go_wp2
          go_ret
          exact ⟨rfl, by have h := HB.out; rw [W1.out] at h; exact h⟩
        · have f3 : decide (d > 8) = false := decide_eq_false (by omega)
          by_cases h4 : d ≠ 1
          · have f4 : (d != 1) = true := by simp; omega
            have hc : planC ⟨1, s, d, r⟩ = 4 := planC_range (p := ⟨1, s, d, r⟩) (by show ¬ ((1 : Int) < 1 ∨ 4 < (1 : Int)); omega) (by show ¬ (s < 1 ∨ 32 < s); omega) (by show d < 1 ∨ (1 : Int) < d ∨ r < 0 ∨ (255 : Int) < r; omega)
            rw [hc]
            clear hc h0 h1 h2 h3 h4
            clear c0 c1 c2 c3
            show Calls Tryd.prog 10 #[.agg #[.int .i64 1, .int .i64 s, .int .i64 d, .int .i64 r]] w _
            go_enter Tryd.func10, Tryd.ntmps10
            go_wp2
            go_ret
            exact ⟨rfl, by have h := HB.out; rw [W1.out] at h; exact h⟩
          · obtain rfl : d = 1 := by omega
            clear f2 f3
            by_cases h5 : r < 0
            · have f5 : decide (r < 0) = true := decide_eq_true (by omega)
              have hc : planC ⟨1, s, 1, r⟩ = 4 := planC_range (p := ⟨1, s, 1, r⟩) (by show ¬ ((1 : Int) < 1 ∨ 4 < (1 : Int)); omega) (by show ¬ (s < 1 ∨ 32 < s); omega) (by show (1 : Int) < 1 ∨ (1 : Int) < 1 ∨ r < 0 ∨ (255 : Int) < r; omega)
              rw [hc]
              clear hc h0 h1 h2 h3 h4 h5
              clear c0 c1 c2 c3
              show Calls Tryd.prog 10 #[.agg #[.int .i64 1, .int .i64 s, .int .i64 1, .int .i64 r]] w _
              go_enter Tryd.func10, Tryd.ntmps10
              go_wp2
              go_ret
              exact ⟨rfl, by have h := HB.out; rw [W1.out] at h; exact h⟩
            · have f5 : decide (r < 0) = false := decide_eq_false (by omega)
              by_cases h6 : 255 < r
              · have f6 : decide (r > 255) = true := decide_eq_true (by omega)
                have hc : planC ⟨1, s, 1, r⟩ = 4 := planC_range (p := ⟨1, s, 1, r⟩) (by show ¬ ((1 : Int) < 1 ∨ 4 < (1 : Int)); omega) (by show ¬ (s < 1 ∨ 32 < s); omega) (by show (1 : Int) < 1 ∨ (1 : Int) < 1 ∨ r < 0 ∨ (255 : Int) < r; omega)
                rw [hc]
                clear hc h0 h1 h2 h3 h4 h5 h6
                clear c0 c1 c2 c3
                show Calls Tryd.prog 10 #[.agg #[.int .i64 1, .int .i64 s, .int .i64 1, .int .i64 r]] w _
                go_enter Tryd.func10, Tryd.ntmps10
                go_wp2
                go_ret
                exact ⟨rfl, by have h := HB.out; rw [W1.out] at h; exact h⟩
              · have f6 : decide (r > 255) = false := decide_eq_false (by omega)
                have hc : planC ⟨1, s, 1, r⟩ = 0 := planC_ok (p := ⟨1, s, 1, r⟩) (by show ¬ ((1 : Int) < 1 ∨ 4 < (1 : Int)); omega) (by show ¬ (s < 1 ∨ 32 < s); omega) (by show ¬ ((1 : Int) < 1 ∨ (1 : Int) < 1 ∨ r < 0 ∨ (255 : Int) < r); omega)
                rw [hc]
                clear hc h0 h1 h2 h3 h4 h5 h6
                clear c0 c1 c2 c3
                show Calls Tryd.prog 10 #[.agg #[.int .i64 1, .int .i64 s, .int .i64 1, .int .i64 r]] w _
                go_enter Tryd.func10, Tryd.ntmps10
                go_wp2
                go_ret
                exact ⟨rfl, by have h := HB.out; rw [W1.out] at h; exact h⟩
set_option maxRecDepth 100000 in
set_option maxHeartbeats 8000000 in
theorem ref_checkPlan_in2 (s d r : Int) (w : World) :
    Calls Tryd.prog 10 #[.agg (PortP.row ⟨2, s, d, r⟩).toArray] w fun e w' => e = .returned (.int .i64 (planC ⟨2, s, d, r⟩ : Nat)) ∧ Below w.heap.size w w' := by
  obtain ⟨w1, hw1, hp, hb⟩ := plan_made w ⟨2, s, d, r⟩
  have c0 := hp.c0
  have c1 := hp.c1
  have c2 := hp.c2
  have c3 := hp.c3
  have W1 := Kp.mk hw1
  have HB := Kp.mk hb
  clear hw1 hp hb
  by_cases h0 : s < 1
  · have f0 : decide (s < 1) = true := decide_eq_true (by omega)
    have hc : planC ⟨2, s, d, r⟩ = 11 := planC_size (p := ⟨2, s, d, r⟩) (by show ¬ ((2 : Int) < 1 ∨ 4 < (2 : Int)); omega) (by show s < 1 ∨ 32 < s; omega)
    rw [hc]
    clear hc h0
    clear c0 c1 c2 c3
    show Calls Tryd.prog 10 #[.agg #[.int .i64 2, .int .i64 s, .int .i64 d, .int .i64 r]] w _
    go_enter Tryd.func10, Tryd.ntmps10
    go_wp2
    go_ret
    exact ⟨rfl, by have h := HB.out; rw [W1.out] at h; exact h⟩
  · have f0 : decide (s < 1) = false := decide_eq_false (by omega)
    by_cases h1 : 32 < s
    · have f1 : decide (s > 32) = true := decide_eq_true (by omega)
      have hc : planC ⟨2, s, d, r⟩ = 11 := planC_size (p := ⟨2, s, d, r⟩) (by show ¬ ((2 : Int) < 1 ∨ 4 < (2 : Int)); omega) (by show s < 1 ∨ 32 < s; omega)
      rw [hc]
      clear hc h0 h1
      clear c0 c1 c2 c3
      show Calls Tryd.prog 10 #[.agg #[.int .i64 2, .int .i64 s, .int .i64 d, .int .i64 r]] w _
      go_enter Tryd.func10, Tryd.ntmps10
      go_wp2
      go_ret
      exact ⟨rfl, by have h := HB.out; rw [W1.out] at h; exact h⟩
    · have f1 : decide (s > 32) = false := decide_eq_false (by omega)
      by_cases h2 : d < 1
      · have f2 : decide (d < 1) = true := decide_eq_true (by omega)
        have hc : planC ⟨2, s, d, r⟩ = 4 := planC_range (p := ⟨2, s, d, r⟩) (by show ¬ ((2 : Int) < 1 ∨ 4 < (2 : Int)); omega) (by show ¬ (s < 1 ∨ 32 < s); omega) (by show d < 1 ∨ (1 : Int) < d ∨ r < 0 ∨ (0 : Int) < r; omega)
        rw [hc]
        clear hc h0 h1 h2
        clear c0 c1 c2 c3
        show Calls Tryd.prog 10 #[.agg #[.int .i64 2, .int .i64 s, .int .i64 d, .int .i64 r]] w _
        go_enter Tryd.func10, Tryd.ntmps10
        go_wp2
        go_ret
        exact ⟨rfl, by have h := HB.out; rw [W1.out] at h; exact h⟩
      · have f2 : decide (d < 1) = false := decide_eq_false (by omega)
        by_cases h3 : 8 < d
        · have f3 : decide (d > 8) = true := decide_eq_true (by omega)
          have hc : planC ⟨2, s, d, r⟩ = 4 := planC_range (p := ⟨2, s, d, r⟩) (by show ¬ ((2 : Int) < 1 ∨ 4 < (2 : Int)); omega) (by show ¬ (s < 1 ∨ 32 < s); omega) (by show d < 1 ∨ (1 : Int) < d ∨ r < 0 ∨ (0 : Int) < r; omega)
          rw [hc]
          clear hc h0 h1 h2 h3
          clear c0 c1 c2 c3
          show Calls Tryd.prog 10 #[.agg #[.int .i64 2, .int .i64 s, .int .i64 d, .int .i64 r]] w _
          go_enter Tryd.func10, Tryd.ntmps10
          go_wp2
          go_ret
          exact ⟨rfl, by have h := HB.out; rw [W1.out] at h; exact h⟩
        · have f3 : decide (d > 8) = false := decide_eq_false (by omega)
          by_cases h4 : d ≠ 1
          · have f4 : (d != 1) = true := by simp; omega
            have hc : planC ⟨2, s, d, r⟩ = 4 := planC_range (p := ⟨2, s, d, r⟩) (by show ¬ ((2 : Int) < 1 ∨ 4 < (2 : Int)); omega) (by show ¬ (s < 1 ∨ 32 < s); omega) (by show d < 1 ∨ (1 : Int) < d ∨ r < 0 ∨ (0 : Int) < r; omega)
            rw [hc]
            clear hc h0 h1 h2 h3 h4
            clear c0 c1 c2 c3
            show Calls Tryd.prog 10 #[.agg #[.int .i64 2, .int .i64 s, .int .i64 d, .int .i64 r]] w _
            go_enter Tryd.func10, Tryd.ntmps10
            go_wp2
            go_ret
            exact ⟨rfl, by have h := HB.out; rw [W1.out] at h; exact h⟩
          · obtain rfl : d = 1 := by omega
            clear f2 f3
            by_cases h5 : r < 0
            · have f5 : decide (r < 0) = true := decide_eq_true (by omega)
              have hc : planC ⟨2, s, 1, r⟩ = 4 := planC_range (p := ⟨2, s, 1, r⟩) (by show ¬ ((2 : Int) < 1 ∨ 4 < (2 : Int)); omega) (by show ¬ (s < 1 ∨ 32 < s); omega) (by show (1 : Int) < 1 ∨ (1 : Int) < 1 ∨ r < 0 ∨ (0 : Int) < r; omega)
              rw [hc]
              clear hc h0 h1 h2 h3 h4 h5
              clear c0 c1 c2 c3
              show Calls Tryd.prog 10 #[.agg #[.int .i64 2, .int .i64 s, .int .i64 1, .int .i64 r]] w _
              go_enter Tryd.func10, Tryd.ntmps10
              go_wp2
              go_ret
              exact ⟨rfl, by have h := HB.out; rw [W1.out] at h; exact h⟩
            · have f5 : decide (r < 0) = false := decide_eq_false (by omega)
              by_cases h6 : 255 < r
              · have f6 : decide (r > 255) = true := decide_eq_true (by omega)
                have hc : planC ⟨2, s, 1, r⟩ = 4 := planC_range (p := ⟨2, s, 1, r⟩) (by show ¬ ((2 : Int) < 1 ∨ 4 < (2 : Int)); omega) (by show ¬ (s < 1 ∨ 32 < s); omega) (by show (1 : Int) < 1 ∨ (1 : Int) < 1 ∨ r < 0 ∨ (0 : Int) < r; omega)
                rw [hc]
                clear hc h0 h1 h2 h3 h4 h5 h6
                clear c0 c1 c2 c3
                show Calls Tryd.prog 10 #[.agg #[.int .i64 2, .int .i64 s, .int .i64 1, .int .i64 r]] w _
                go_enter Tryd.func10, Tryd.ntmps10
                go_wp2
                go_ret
                exact ⟨rfl, by have h := HB.out; rw [W1.out] at h; exact h⟩
              · have f6 : decide (r > 255) = false := decide_eq_false (by omega)
                by_cases h7 : r ≠ 0
                · have f7 : (r != 0) = true := by simp; omega
                  have hc : planC ⟨2, s, 1, r⟩ = 4 := planC_range (p := ⟨2, s, 1, r⟩) (by show ¬ ((2 : Int) < 1 ∨ 4 < (2 : Int)); omega) (by show ¬ (s < 1 ∨ 32 < s); omega) (by show (1 : Int) < 1 ∨ (1 : Int) < 1 ∨ r < 0 ∨ (0 : Int) < r; omega)
                  rw [hc]
                  clear hc h0 h1 h2 h3 h4 h5 h6 h7
                  clear c0 c1 c2 c3
                  show Calls Tryd.prog 10 #[.agg #[.int .i64 2, .int .i64 s, .int .i64 1, .int .i64 r]] w _
                  go_enter Tryd.func10, Tryd.ntmps10
                  go_wp2
                  go_ret
                  exact ⟨rfl, by have h := HB.out; rw [W1.out] at h; exact h⟩
                · have f7 : (r != 0) = false := by simp; omega
                  have hc : planC ⟨2, s, 1, r⟩ = 0 := planC_ok (p := ⟨2, s, 1, r⟩) (by show ¬ ((2 : Int) < 1 ∨ 4 < (2 : Int)); omega) (by show ¬ (s < 1 ∨ 32 < s); omega) (by show ¬ ((1 : Int) < 1 ∨ (1 : Int) < 1 ∨ r < 0 ∨ (0 : Int) < r); omega)
                  rw [hc]
                  clear hc h0 h1 h2 h3 h4 h5 h6 h7
                  clear c0 c1 c2 c3
                  show Calls Tryd.prog 10 #[.agg #[.int .i64 2, .int .i64 s, .int .i64 1, .int .i64 r]] w _
                  go_enter Tryd.func10, Tryd.ntmps10
                  go_wp2
                  go_ret
                  exact ⟨rfl, by have h := HB.out; rw [W1.out] at h; exact h⟩
set_option maxRecDepth 100000 in
set_option maxHeartbeats 8000000 in
theorem ref_checkPlan_in3 (s d r : Int) (w : World) :
    Calls Tryd.prog 10 #[.agg (PortP.row ⟨3, s, d, r⟩).toArray] w fun e w' => e = .returned (.int .i64 (planC ⟨3, s, d, r⟩ : Nat)) ∧ Below w.heap.size w w' := by
  obtain ⟨w1, hw1, hp, hb⟩ := plan_made w ⟨3, s, d, r⟩
  have c0 := hp.c0
  have c1 := hp.c1
  have c2 := hp.c2
  have c3 := hp.c3
  have W1 := Kp.mk hw1
  have HB := Kp.mk hb
  clear hw1 hp hb
  by_cases h0 : s < 1
  · have f0 : decide (s < 1) = true := decide_eq_true (by omega)
    have hc : planC ⟨3, s, d, r⟩ = 11 := planC_size (p := ⟨3, s, d, r⟩) (by show ¬ ((3 : Int) < 1 ∨ 4 < (3 : Int)); omega) (by show s < 1 ∨ 32 < s; omega)
    rw [hc]
    clear hc h0
    clear c0 c1 c2 c3
    show Calls Tryd.prog 10 #[.agg #[.int .i64 3, .int .i64 s, .int .i64 d, .int .i64 r]] w _
    go_enter Tryd.func10, Tryd.ntmps10
    go_wp2
    go_ret
    exact ⟨rfl, by have h := HB.out; rw [W1.out] at h; exact h⟩
  · have f0 : decide (s < 1) = false := decide_eq_false (by omega)
    by_cases h1 : 32 < s
    · have f1 : decide (s > 32) = true := decide_eq_true (by omega)
      have hc : planC ⟨3, s, d, r⟩ = 11 := planC_size (p := ⟨3, s, d, r⟩) (by show ¬ ((3 : Int) < 1 ∨ 4 < (3 : Int)); omega) (by show s < 1 ∨ 32 < s; omega)
      rw [hc]
      clear hc h0 h1
      clear c0 c1 c2 c3
      show Calls Tryd.prog 10 #[.agg #[.int .i64 3, .int .i64 s, .int .i64 d, .int .i64 r]] w _
      go_enter Tryd.func10, Tryd.ntmps10
      go_wp2
      go_ret
      exact ⟨rfl, by have h := HB.out; rw [W1.out] at h; exact h⟩
    · have f1 : decide (s > 32) = false := decide_eq_false (by omega)
      by_cases h2 : d < 1
      · have f2 : decide (d < 1) = true := decide_eq_true (by omega)
        have hc : planC ⟨3, s, d, r⟩ = 4 := planC_range (p := ⟨3, s, d, r⟩) (by show ¬ ((3 : Int) < 1 ∨ 4 < (3 : Int)); omega) (by show ¬ (s < 1 ∨ 32 < s); omega) (by show d < 1 ∨ (8 : Int) < d ∨ r < 0 ∨ (0 : Int) < r; omega)
        rw [hc]
        clear hc h0 h1 h2
        clear c0 c1 c2 c3
        show Calls Tryd.prog 10 #[.agg #[.int .i64 3, .int .i64 s, .int .i64 d, .int .i64 r]] w _
        go_enter Tryd.func10, Tryd.ntmps10
        go_wp2
        go_ret
        exact ⟨rfl, by have h := HB.out; rw [W1.out] at h; exact h⟩
      · have f2 : decide (d < 1) = false := decide_eq_false (by omega)
        by_cases h3 : 8 < d
        · have f3 : decide (d > 8) = true := decide_eq_true (by omega)
          have hc : planC ⟨3, s, d, r⟩ = 4 := planC_range (p := ⟨3, s, d, r⟩) (by show ¬ ((3 : Int) < 1 ∨ 4 < (3 : Int)); omega) (by show ¬ (s < 1 ∨ 32 < s); omega) (by show d < 1 ∨ (8 : Int) < d ∨ r < 0 ∨ (0 : Int) < r; omega)
          rw [hc]
          clear hc h0 h1 h2 h3
          clear c0 c1 c2 c3
          show Calls Tryd.prog 10 #[.agg #[.int .i64 3, .int .i64 s, .int .i64 d, .int .i64 r]] w _
          go_enter Tryd.func10, Tryd.ntmps10
          go_wp2
          go_ret
          exact ⟨rfl, by have h := HB.out; rw [W1.out] at h; exact h⟩
        · have f3 : decide (d > 8) = false := decide_eq_false (by omega)
          by_cases h4 : r < 0
          · have f4 : decide (r < 0) = true := decide_eq_true (by omega)
            have hc : planC ⟨3, s, d, r⟩ = 4 := planC_range (p := ⟨3, s, d, r⟩) (by show ¬ ((3 : Int) < 1 ∨ 4 < (3 : Int)); omega) (by show ¬ (s < 1 ∨ 32 < s); omega) (by show d < 1 ∨ (8 : Int) < d ∨ r < 0 ∨ (0 : Int) < r; omega)
            rw [hc]
            clear hc h0 h1 h2 h3 h4
            clear c0 c1 c2 c3
            show Calls Tryd.prog 10 #[.agg #[.int .i64 3, .int .i64 s, .int .i64 d, .int .i64 r]] w _
            go_enter Tryd.func10, Tryd.ntmps10
            go_wp2
            go_ret
            exact ⟨rfl, by have h := HB.out; rw [W1.out] at h; exact h⟩
          · have f4 : decide (r < 0) = false := decide_eq_false (by omega)
            by_cases h5 : 255 < r
            · have f5 : decide (r > 255) = true := decide_eq_true (by omega)
              have hc : planC ⟨3, s, d, r⟩ = 4 := planC_range (p := ⟨3, s, d, r⟩) (by show ¬ ((3 : Int) < 1 ∨ 4 < (3 : Int)); omega) (by show ¬ (s < 1 ∨ 32 < s); omega) (by show d < 1 ∨ (8 : Int) < d ∨ r < 0 ∨ (0 : Int) < r; omega)
              rw [hc]
              clear hc h0 h1 h2 h3 h4 h5
              clear c0 c1 c2 c3
              show Calls Tryd.prog 10 #[.agg #[.int .i64 3, .int .i64 s, .int .i64 d, .int .i64 r]] w _
              go_enter Tryd.func10, Tryd.ntmps10
              go_wp2
              go_ret
              exact ⟨rfl, by have h := HB.out; rw [W1.out] at h; exact h⟩
            · have f5 : decide (r > 255) = false := decide_eq_false (by omega)
              by_cases h6 : r ≠ 0
              · have f6 : (r != 0) = true := by simp; omega
                have hc : planC ⟨3, s, d, r⟩ = 4 := planC_range (p := ⟨3, s, d, r⟩) (by show ¬ ((3 : Int) < 1 ∨ 4 < (3 : Int)); omega) (by show ¬ (s < 1 ∨ 32 < s); omega) (by show d < 1 ∨ (8 : Int) < d ∨ r < 0 ∨ (0 : Int) < r; omega)
                rw [hc]
                clear hc h0 h1 h2 h3 h4 h5 h6
                clear c0 c1 c2 c3
                show Calls Tryd.prog 10 #[.agg #[.int .i64 3, .int .i64 s, .int .i64 d, .int .i64 r]] w _
                go_enter Tryd.func10, Tryd.ntmps10
                go_wp2
                go_ret
                exact ⟨rfl, by have h := HB.out; rw [W1.out] at h; exact h⟩
              · have f6 : (r != 0) = false := by simp; omega
                have hc : planC ⟨3, s, d, r⟩ = 0 := planC_ok (p := ⟨3, s, d, r⟩) (by show ¬ ((3 : Int) < 1 ∨ 4 < (3 : Int)); omega) (by show ¬ (s < 1 ∨ 32 < s); omega) (by show ¬ (d < 1 ∨ (8 : Int) < d ∨ r < 0 ∨ (0 : Int) < r); omega)
                rw [hc]
                clear hc h0 h1 h2 h3 h4 h5 h6
                clear c0 c1 c2 c3
                show Calls Tryd.prog 10 #[.agg #[.int .i64 3, .int .i64 s, .int .i64 d, .int .i64 r]] w _
                go_enter Tryd.func10, Tryd.ntmps10
                go_wp2
                go_ret
                exact ⟨rfl, by have h := HB.out; rw [W1.out] at h; exact h⟩
set_option maxRecDepth 100000 in
set_option maxHeartbeats 8000000 in
theorem ref_checkPlan_in4 (s d r : Int) (w : World) :
    Calls Tryd.prog 10 #[.agg (PortP.row ⟨4, s, d, r⟩).toArray] w fun e w' => e = .returned (.int .i64 (planC ⟨4, s, d, r⟩ : Nat)) ∧ Below w.heap.size w w' := by
  obtain ⟨w1, hw1, hp, hb⟩ := plan_made w ⟨4, s, d, r⟩
  have c0 := hp.c0
  have c1 := hp.c1
  have c2 := hp.c2
  have c3 := hp.c3
  have W1 := Kp.mk hw1
  have HB := Kp.mk hb
  clear hw1 hp hb
  by_cases h0 : s < 1
  · have f0 : decide (s < 1) = true := decide_eq_true (by omega)
    have hc : planC ⟨4, s, d, r⟩ = 11 := planC_size (p := ⟨4, s, d, r⟩) (by show ¬ ((4 : Int) < 1 ∨ 4 < (4 : Int)); omega) (by show s < 1 ∨ 32 < s; omega)
    rw [hc]
    clear hc h0
    clear c0 c1 c2 c3
    show Calls Tryd.prog 10 #[.agg #[.int .i64 4, .int .i64 s, .int .i64 d, .int .i64 r]] w _
    go_enter Tryd.func10, Tryd.ntmps10
    go_wp2
    go_ret
    exact ⟨rfl, by have h := HB.out; rw [W1.out] at h; exact h⟩
  · have f0 : decide (s < 1) = false := decide_eq_false (by omega)
    by_cases h1 : 32 < s
    · have f1 : decide (s > 32) = true := decide_eq_true (by omega)
      have hc : planC ⟨4, s, d, r⟩ = 11 := planC_size (p := ⟨4, s, d, r⟩) (by show ¬ ((4 : Int) < 1 ∨ 4 < (4 : Int)); omega) (by show s < 1 ∨ 32 < s; omega)
      rw [hc]
      clear hc h0 h1
      clear c0 c1 c2 c3
      show Calls Tryd.prog 10 #[.agg #[.int .i64 4, .int .i64 s, .int .i64 d, .int .i64 r]] w _
      go_enter Tryd.func10, Tryd.ntmps10
      go_wp2
      go_ret
      exact ⟨rfl, by have h := HB.out; rw [W1.out] at h; exact h⟩
    · have f1 : decide (s > 32) = false := decide_eq_false (by omega)
      by_cases h2 : d < 1
      · have f2 : decide (d < 1) = true := decide_eq_true (by omega)
        have hc : planC ⟨4, s, d, r⟩ = 4 := planC_range (p := ⟨4, s, d, r⟩) (by show ¬ ((4 : Int) < 1 ∨ 4 < (4 : Int)); omega) (by show ¬ (s < 1 ∨ 32 < s); omega) (by show d < 1 ∨ (8 : Int) < d ∨ r < 0 ∨ (0 : Int) < r; omega)
        rw [hc]
        clear hc h0 h1 h2
        clear c0 c1 c2 c3
        show Calls Tryd.prog 10 #[.agg #[.int .i64 4, .int .i64 s, .int .i64 d, .int .i64 r]] w _
        go_enter Tryd.func10, Tryd.ntmps10
        go_wp2
        go_ret
        exact ⟨rfl, by have h := HB.out; rw [W1.out] at h; exact h⟩
      · have f2 : decide (d < 1) = false := decide_eq_false (by omega)
        by_cases h3 : 8 < d
        · have f3 : decide (d > 8) = true := decide_eq_true (by omega)
          have hc : planC ⟨4, s, d, r⟩ = 4 := planC_range (p := ⟨4, s, d, r⟩) (by show ¬ ((4 : Int) < 1 ∨ 4 < (4 : Int)); omega) (by show ¬ (s < 1 ∨ 32 < s); omega) (by show d < 1 ∨ (8 : Int) < d ∨ r < 0 ∨ (0 : Int) < r; omega)
          rw [hc]
          clear hc h0 h1 h2 h3
          clear c0 c1 c2 c3
          show Calls Tryd.prog 10 #[.agg #[.int .i64 4, .int .i64 s, .int .i64 d, .int .i64 r]] w _
          go_enter Tryd.func10, Tryd.ntmps10
          go_wp2
          go_ret
          exact ⟨rfl, by have h := HB.out; rw [W1.out] at h; exact h⟩
        · have f3 : decide (d > 8) = false := decide_eq_false (by omega)
          by_cases h4 : r < 0
          · have f4 : decide (r < 0) = true := decide_eq_true (by omega)
            have hc : planC ⟨4, s, d, r⟩ = 4 := planC_range (p := ⟨4, s, d, r⟩) (by show ¬ ((4 : Int) < 1 ∨ 4 < (4 : Int)); omega) (by show ¬ (s < 1 ∨ 32 < s); omega) (by show d < 1 ∨ (8 : Int) < d ∨ r < 0 ∨ (0 : Int) < r; omega)
            rw [hc]
            clear hc h0 h1 h2 h3 h4
            clear c0 c1 c2 c3
            show Calls Tryd.prog 10 #[.agg #[.int .i64 4, .int .i64 s, .int .i64 d, .int .i64 r]] w _
            go_enter Tryd.func10, Tryd.ntmps10
            go_wp2
            go_ret
            exact ⟨rfl, by have h := HB.out; rw [W1.out] at h; exact h⟩
          · have f4 : decide (r < 0) = false := decide_eq_false (by omega)
            by_cases h5 : 255 < r
            · have f5 : decide (r > 255) = true := decide_eq_true (by omega)
              have hc : planC ⟨4, s, d, r⟩ = 4 := planC_range (p := ⟨4, s, d, r⟩) (by show ¬ ((4 : Int) < 1 ∨ 4 < (4 : Int)); omega) (by show ¬ (s < 1 ∨ 32 < s); omega) (by show d < 1 ∨ (8 : Int) < d ∨ r < 0 ∨ (0 : Int) < r; omega)
              rw [hc]
              clear hc h0 h1 h2 h3 h4 h5
              clear c0 c1 c2 c3
              show Calls Tryd.prog 10 #[.agg #[.int .i64 4, .int .i64 s, .int .i64 d, .int .i64 r]] w _
              go_enter Tryd.func10, Tryd.ntmps10
              go_wp2
              go_ret
              exact ⟨rfl, by have h := HB.out; rw [W1.out] at h; exact h⟩
            · have f5 : decide (r > 255) = false := decide_eq_false (by omega)
              by_cases h6 : r ≠ 0
              · have f6 : (r != 0) = true := by simp; omega
                have hc : planC ⟨4, s, d, r⟩ = 4 := planC_range (p := ⟨4, s, d, r⟩) (by show ¬ ((4 : Int) < 1 ∨ 4 < (4 : Int)); omega) (by show ¬ (s < 1 ∨ 32 < s); omega) (by show d < 1 ∨ (8 : Int) < d ∨ r < 0 ∨ (0 : Int) < r; omega)
                rw [hc]
                clear hc h0 h1 h2 h3 h4 h5 h6
                clear c0 c1 c2 c3
                show Calls Tryd.prog 10 #[.agg #[.int .i64 4, .int .i64 s, .int .i64 d, .int .i64 r]] w _
                go_enter Tryd.func10, Tryd.ntmps10
                go_wp2
                go_ret
                exact ⟨rfl, by have h := HB.out; rw [W1.out] at h; exact h⟩
              · have f6 : (r != 0) = false := by simp; omega
                have hc : planC ⟨4, s, d, r⟩ = 0 := planC_ok (p := ⟨4, s, d, r⟩) (by show ¬ ((4 : Int) < 1 ∨ 4 < (4 : Int)); omega) (by show ¬ (s < 1 ∨ 32 < s); omega) (by show ¬ (d < 1 ∨ (8 : Int) < d ∨ r < 0 ∨ (0 : Int) < r); omega)
                rw [hc]
                clear hc h0 h1 h2 h3 h4 h5 h6
                clear c0 c1 c2 c3
                show Calls Tryd.prog 10 #[.agg #[.int .i64 4, .int .i64 s, .int .i64 d, .int .i64 r]] w _
                go_enter Tryd.func10, Tryd.ntmps10
                go_wp2
                go_ret
                exact ⟨rfl, by have h := HB.out; rw [W1.out] at h; exact h⟩
set_option maxRecDepth 100000 in
set_option maxHeartbeats 8000000 in
theorem ref_checkPlan (p : PortP) (w : World) :
    Calls Tryd.prog 10 #[.agg p.row.toArray] w fun e w' => e = .returned (.int .i64 (planC p : Nat)) ∧ Below w.heap.size w w' := by
  obtain ⟨k, s, d, r⟩ := p
  by_cases e1 : k = 1
  · subst e1; exact ref_checkPlan_in1 s d r w
  by_cases e2 : k = 2
  · subst e2; exact ref_checkPlan_in2 s d r w
  by_cases e3 : k = 3
  · subst e3; exact ref_checkPlan_in3 s d r w
  by_cases e4 : k = 4
  · subst e4; exact ref_checkPlan_in4 s d r w
  obtain ⟨w1, hw1, hp, hb⟩ := plan_made w ⟨k, s, d, r⟩
  have c0 := hp.c0
  have c1 := hp.c1
  have W1 := Kp.mk hw1
  have HB := Kp.mk hb
  have hc : planC ⟨k, s, d, r⟩ = 7 := planC_kind (by show k < 1 ∨ 4 < k; omega)
  rw [hc]
  clear hw1 hp hb hc
  by_cases h1 : k < 1
  · have f1 : decide (k < 1) = true := decide_eq_true h1
    clear e1 e2 e3 e4 h1
    clear c0 c1
    show Calls Tryd.prog 10 #[.agg #[.int .i64 k, .int .i64 s, .int .i64 d, .int .i64 r]] w _
    go_enter Tryd.func10, Tryd.ntmps10
    go_wp2
    go_ret
    exact ⟨rfl, by have h := HB.out; rw [W1.out] at h; exact h⟩
  · have f1 : decide (k < 1) = false := decide_eq_false h1
    have f2 : decide (k > 4) = true := decide_eq_true (by omega)
    clear e1 e2 e3 e4 h1
    clear c0 c1
    show Calls Tryd.prog 10 #[.agg #[.int .i64 k, .int .i64 s, .int .i64 d, .int .i64 r]] w _
    go_enter Tryd.func10, Tryd.ntmps10
    go_wp2
    go_ret
    exact ⟨rfl, by have h := HB.out; rw [W1.out] at h; exact h⟩
end Go.Proofs.YtjlgnbjfgeppcaaDoor
