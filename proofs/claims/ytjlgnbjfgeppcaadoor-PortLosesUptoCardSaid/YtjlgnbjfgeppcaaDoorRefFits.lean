/- The document's Fits, walked. -/
import Derived.Test.YtjlgnbjfgeppcaaDoorPortFit2
import Derived.BigQuiet
import Derived.Deep.QuietTactic
namespace Go.Proofs.YtjlgnbjfgeppcaaDoor
open Go Go.RowKit
set_option linter.unusedVariables false

theorem fitsP_text {p : PortP} {l : List ByteArray} {g : Int} (h : allLe p.size l = false) : fitsP p l g = false := by simp only [fitsP, h, Bool.and_false]
set_option maxRecDepth 100000 in
set_option maxHeartbeats 8000000 in
theorem ref_fits (p : PortP) (a : Option Addr) (n cap : Nat) (l : List ByteArray) (g : Int) (w : World) (h : RdS w a n cap l) :
    Calls Tryd.prog 62 #[.agg p.row.toArray, .agg (portA a n cap g)] w fun e w' => e = .returned (.bool (fitsP p l g)) ∧ Below w.heap.size w w' := by
  obtain ⟨kd, s, d, r⟩ := p
  have hl := h.len
  have hn := h.bound
  obtain ⟨w2, e2, p2, q2, b2⟩ := both_box w kd s d r a n cap g
  have E2 := Kp.mk e2
  have B2 := Kp.mk b2
  have H2 := Kp.mk (h.later b2)
  have PQ := Kp.mk (And.intro q2 p2)
  have HN := Kp.mk hl
  show Calls Tryd.prog 62 #[.agg (rowK kd s d r), .agg (portA a n cap g)] w fun e w' => e = .returned (.bool (fitsP ⟨kd, s, d, r⟩ l g)) ∧ Below w.heap.size w w'
  clear h p2 q2 b2 e2 hl
  by_cases h1 : d < (n : Int)
  · have f1 : decide ((n : Int) > d) = true := decide_eq_true h1
    rw [fitsP_long (by rw [HN.out]; exact h1)]
    clear h1
    go_enter Tryd.func62, Tryd.ntmps62
    go_wp2
    go_ret
    exact ⟨rfl, by have h := B2.out; rw [E2.out] at h; exact h⟩
  have f1 : decide ((n : Int) > d) = false := decide_eq_false h1
  by_cases h2 : g < 0
  · have f2 : decide (g < 0) = true := decide_eq_true h2
    rw [fitsP_low h2]
    clear h1 h2
    go_enter Tryd.func62, Tryd.ntmps62
    go_wp2
    go_ret
    exact ⟨rfl, by have h := B2.out; rw [E2.out] at h; exact h⟩
  have f2 : decide (g < 0) = false := decide_eq_false h2
  by_cases h3 : 255 < g
  · have f3 : decide (g > 255) = true := decide_eq_true h3
    rw [fitsP_high h3]
    clear h1 h2 h3
    go_enter Tryd.func62, Tryd.ntmps62
    go_wp2
    go_ret
    exact ⟨rfl, by have h := B2.out; rw [E2.out] at h; exact h⟩
  have f3 : decide (g > 255) = false := decide_eq_false h3
  by_cases hall : allLe s l = true
  · have HL : Kp (∀ i, i < n → ((l.getD i noS).size : Int) ≤ s) := ⟨fun i hi => allLe_get hall i (by rw [HN.out]; exact hi)⟩
    by_cases h4 : g = 0
    · rw [fitsP_else (by rw [HN.out]; exact h1) h2 h3 (.inl h4), show allLe (PortP.mk kd s d r).size l = true from hall]
      have f4 : (g == 0) = true := by simpa using h4
      clear h1 h2 h3 hall h4
      go_enter Tryd.func62, Tryd.ntmps62
      go_wp2
      rw [← E2.out]
      go_loopw [5] (fun iv wr => ∃ i : Nat, i ≤ n ∧ iv = .int .i64 (i : Int) ∧ Kp (Drew w2 wr)) (fun iv _ => n - (intOf iv).toNat)
      case atStart => exact ⟨0, by omega, rfl, ⟨Drew.refl _⟩⟩
      case round =>
        obtain ⟨k, hk, rfl, HD⟩ := hrel
        have q0 := (PQ.out.1.later HD.out.below).c0
        have c1 := (PQ.out.2.later HD.out.below).c1
        by_cases hlt : k < n
        · have hb : decide ((k : Int) < n) = true := decide_eq_true (by omega)
          obtain ⟨bb, off, ha, hc, hs⟩ := (H2.out.later HD.out.below).at k hlt
          have hle : decide ((((l.getD k noS).size : Nat) : Int) > s) = false := decide_eq_false (by have := HL.out k hlt; omega)
          obtain ⟨D, hD⟩ : ∃ D, D = l.getD k noS := ⟨_, rfl⟩
          rw [← hD] at hc hs hle
          subst ha
          clear hD
          have hb1 : (0 : Int) ≤ (k : Int) := by omega
          have hb2 : (k : Int) < (n : Int) := by omega
          go_wp2
          go_quiet (fail)
          have HD2 := Kp.mk (HD.out.trans ⟨nq, rfl⟩)
          go_wp2
          go_roundw
          case rel => exact ⟨k + 1, by omega, by go_num, HD2⟩
          case measure => simp [intOf]; omega
        · have : k = n := by omega
          subst this
          have hb : decide ((k : Int) < k) = false := by simp
          have q1 := (PQ.out.1.later HD.out.below).c1
          have c0 := (PQ.out.2.later HD.out.below).c0
          go_wp2
          go_ret
          exact ⟨rfl, B2.out.trans (HD.out.below.mono B2.out.size)⟩
    have f4 : (g == 0) = false := by simpa using h4
    by_cases h5 : kd = 1
    · have f5 : (kd == 1) = true := by simpa using h5
      by_cases h6 : n = 0
      · have f6 : decide ((n : Int) > 0) = false := decide_eq_false (by omega)
        have f7 : decide (0 < n) = false := decide_eq_false (by omega)
        rw [fitsP_age h4 (.inr (by rw [HN.out]; exact h6))]
        clear h1 h2 h3 hall h4 h5 h6
        go_enter Tryd.func62, Tryd.ntmps62
        go_wp2
        rw [← E2.out]
        go_loopw [5] (fun iv wr => ∃ i : Nat, i ≤ n ∧ iv = .int .i64 (i : Int) ∧ Kp (Drew w2 wr)) (fun iv _ => n - (intOf iv).toNat)
        case atStart => exact ⟨0, by omega, rfl, ⟨Drew.refl _⟩⟩
        case round =>
          obtain ⟨k, hk, rfl, HD⟩ := hrel
          have q0 := (PQ.out.1.later HD.out.below).c0
          have c1 := (PQ.out.2.later HD.out.below).c1
          by_cases hlt : k < n
          · have hb : decide ((k : Int) < n) = true := decide_eq_true (by omega)
            obtain ⟨bb, off, ha, hc, hs⟩ := (H2.out.later HD.out.below).at k hlt
            have hle : decide ((((l.getD k noS).size : Nat) : Int) > s) = false := decide_eq_false (by have := HL.out k hlt; omega)
            obtain ⟨D, hD⟩ : ∃ D, D = l.getD k noS := ⟨_, rfl⟩
            rw [← hD] at hc hs hle
            subst ha
            clear hD
            have hb1 : (0 : Int) ≤ (k : Int) := by omega
            have hb2 : (k : Int) < (n : Int) := by omega
            go_wp2
            go_quiet (fail)
            have HD2 := Kp.mk (HD.out.trans ⟨nq, rfl⟩)
            go_wp2
            go_roundw
            case rel => exact ⟨k + 1, by omega, by go_num, HD2⟩
            case measure => simp [intOf]; omega
          · have : k = n := by omega
            subst this
            have hb : decide ((k : Int) < k) = false := by simp
            have q1 := (PQ.out.1.later HD.out.below).c1
            have c0 := (PQ.out.2.later HD.out.below).c0
            go_wp2
            go_ret
            exact ⟨rfl, B2.out.trans (HD.out.below.mono B2.out.size)⟩
      · have f6 : decide ((n : Int) > 0) = true := decide_eq_true (by omega)
        have f7 : decide (0 < n) = true := decide_eq_true (by omega)
        rw [fitsP_else (by rw [HN.out]; exact h1) h2 h3 (.inr ⟨h5, by rw [HN.out]; exact h6⟩), show allLe (PortP.mk kd s d r).size l = true from hall]
        clear h1 h2 h3 hall h4 h5 h6
        go_enter Tryd.func62, Tryd.ntmps62
        go_wp2
        rw [← E2.out]
        go_loopw [5] (fun iv wr => ∃ i : Nat, i ≤ n ∧ iv = .int .i64 (i : Int) ∧ Kp (Drew w2 wr)) (fun iv _ => n - (intOf iv).toNat)
        case atStart => exact ⟨0, by omega, rfl, ⟨Drew.refl _⟩⟩
        case round =>
          obtain ⟨k, hk, rfl, HD⟩ := hrel
          have q0 := (PQ.out.1.later HD.out.below).c0
          have c1 := (PQ.out.2.later HD.out.below).c1
          by_cases hlt : k < n
          · have hb : decide ((k : Int) < n) = true := decide_eq_true (by omega)
            obtain ⟨bb, off, ha, hc, hs⟩ := (H2.out.later HD.out.below).at k hlt
            have hle : decide ((((l.getD k noS).size : Nat) : Int) > s) = false := decide_eq_false (by have := HL.out k hlt; omega)
            obtain ⟨D, hD⟩ : ∃ D, D = l.getD k noS := ⟨_, rfl⟩
            rw [← hD] at hc hs hle
            subst ha
            clear hD
            have hb1 : (0 : Int) ≤ (k : Int) := by omega
            have hb2 : (k : Int) < (n : Int) := by omega
            go_wp2
            go_quiet (fail)
            have HD2 := Kp.mk (HD.out.trans ⟨nq, rfl⟩)
            go_wp2
            go_roundw
            case rel => exact ⟨k + 1, by omega, by go_num, HD2⟩
            case measure => simp [intOf]; omega
          · have : k = n := by omega
            subst this
            have hb : decide ((k : Int) < k) = false := by simp
            have q1 := (PQ.out.1.later HD.out.below).c1
            have c0 := (PQ.out.2.later HD.out.below).c0
            go_wp2
            go_ret
            exact ⟨rfl, B2.out.trans (HD.out.below.mono B2.out.size)⟩
    · have f5 : (kd == 1) = false := by simpa using h5
      rw [fitsP_age h4 (.inl h5)]
      clear h1 h2 h3 hall h4 h5
      go_enter Tryd.func62, Tryd.ntmps62
      go_wp2
      rw [← E2.out]
      go_loopw [5] (fun iv wr => ∃ i : Nat, i ≤ n ∧ iv = .int .i64 (i : Int) ∧ Kp (Drew w2 wr)) (fun iv _ => n - (intOf iv).toNat)
      case atStart => exact ⟨0, by omega, rfl, ⟨Drew.refl _⟩⟩
      case round =>
        obtain ⟨k, hk, rfl, HD⟩ := hrel
        have q0 := (PQ.out.1.later HD.out.below).c0
        have c1 := (PQ.out.2.later HD.out.below).c1
        by_cases hlt : k < n
        · have hb : decide ((k : Int) < n) = true := decide_eq_true (by omega)
          obtain ⟨bb, off, ha, hc, hs⟩ := (H2.out.later HD.out.below).at k hlt
          have hle : decide ((((l.getD k noS).size : Nat) : Int) > s) = false := decide_eq_false (by have := HL.out k hlt; omega)
          obtain ⟨D, hD⟩ : ∃ D, D = l.getD k noS := ⟨_, rfl⟩
          rw [← hD] at hc hs hle
          subst ha
          clear hD
          have hb1 : (0 : Int) ≤ (k : Int) := by omega
          have hb2 : (k : Int) < (n : Int) := by omega
          go_wp2
          go_quiet (fail)
          have HD2 := Kp.mk (HD.out.trans ⟨nq, rfl⟩)
          go_wp2
          go_roundw
          case rel => exact ⟨k + 1, by omega, by go_num, HD2⟩
          case measure => simp [intOf]; omega
        · have : k = n := by omega
          subst this
          have hb : decide ((k : Int) < k) = false := by simp
          have q1 := (PQ.out.1.later HD.out.below).c1
          have c0 := (PQ.out.2.later HD.out.below).c0
          go_wp2
          go_ret
          exact ⟨rfl, B2.out.trans (HD.out.below.mono B2.out.size)⟩
  · have hall' : allLe s l = false := by simpa using hall
    obtain ⟨m, hm, hM, hlo⟩ := allLe_not hall'
    rw [HN.out] at hm
    have HM := Kp.mk hM
    have HL := Kp.mk hlo
    rw [fitsP_text hall']
    clear h1 h2 h3 hall hall' hM hlo
    go_enter Tryd.func62, Tryd.ntmps62
    go_wp2
    rw [← E2.out]
    go_loopw [5] (fun iv wr => ∃ i : Nat, i ≤ m ∧ iv = .int .i64 (i : Int) ∧ Kp (Drew w2 wr)) (fun iv _ => n - (intOf iv).toNat)
    case atStart => exact ⟨0, by omega, rfl, ⟨Drew.refl _⟩⟩
    case round =>
      obtain ⟨k, hk, rfl, HD⟩ := hrel
      have q0 := (PQ.out.1.later HD.out.below).c0
      have c1 := (PQ.out.2.later HD.out.below).c1
      have hlt : k < n := by omega
      have hb : decide ((k : Int) < n) = true := decide_eq_true (by omega)
      by_cases he : k = m
      · obtain ⟨bb, off, ha, hc, hs⟩ := (H2.out.later HD.out.below).at k hlt
        have hle : decide ((((l.getD k noS).size : Nat) : Int) > s) = true := decide_eq_true (by rw [he]; have := HM.out; omega)
        clear he
        obtain ⟨D, hD⟩ : ∃ D, D = l.getD k noS := ⟨_, rfl⟩
        rw [← hD] at hc hs hle
        subst ha
        clear hD
        have hb1 : (0 : Int) ≤ (k : Int) := by omega
        have hb2 : (k : Int) < (n : Int) := by omega
        go_wp2
        go_quiet (fail)
        have HD2 := Kp.mk (HD.out.trans ⟨nq, rfl⟩)
        go_wp2
        go_ret
        exact ⟨rfl, B2.out.trans (HD2.out.below.mono B2.out.size)⟩
      · obtain ⟨bb, off, ha, hc, hs⟩ := (H2.out.later HD.out.below).at k hlt
        have hle : decide ((((l.getD k noS).size : Nat) : Int) > s) = false := decide_eq_false (by have := HL.out k (by omega); omega)
        have hkm : k < m := by omega
        clear he
        obtain ⟨D, hD⟩ : ∃ D, D = l.getD k noS := ⟨_, rfl⟩
        rw [← hD] at hc hs hle
        subst ha
        clear hD
        have hb1 : (0 : Int) ≤ (k : Int) := by omega
        have hb2 : (k : Int) < (n : Int) := by omega
        go_wp2
        go_quiet (fail)
        have HD2 := Kp.mk (HD.out.trans ⟨nq, rfl⟩)
        go_wp2
        go_roundw
        case rel => exact ⟨k + 1, by omega, by go_num, HD2⟩
        case measure => simp [intOf]; omega
end Go.Proofs.YtjlgnbjfgeppcaaDoor
