/- api.Code of nil and of each sentinel: walked. -/
import Derived.Test.YtjlgnbjfgeppcaaDoorIsWalk
namespace Go.Proofs.YtjlgnbjfgeppcaaDoor
open Go Go.RowKit
set_option linter.unusedVariables false

abbrev allCodes : List Nat := [1, 2, 3, 4, 5, 6, 7, 8, 9, 10, 11, 12, 13, 14, 15, 16, 17, 18, 19, 20]
theorem mem_all {k : Nat} (h1 : 1 ≤ k) (h2 : k ≤ 20) : k ∈ allCodes := by
  unfold allCodes
  simp only [List.mem_cons, List.not_mem_nil, or_false]
  omega
/-- errors.Is of two sentinels by their codes. -/
theorem is_code {A : Nat → Addr} {w : World} (hE : Errs w allCodes A) (c k : Nat) (hc1 : 1 ≤ c) (hc : c ≤ 20) (hk1 : 1 ≤ k) (hk : k ≤ 20) :
    Calls Tryd.prog 66 #[errv (A c), errv (A k)] w fun e w' => e = .returned (.bool (decide (c = k))) ∧ w' = w := by
  by_cases h : c = k
  · subst h
    simp only [decide_true]
    exact is_same _ _
  · obtain ⟨ca, ta, ha⟩ := hE.row c (mem_all hc1 hc)
    obtain ⟨cb, tb, hb⟩ := hE.row k (mem_all hk1 hk)
    have e : decide (c = k) = false := decide_eq_false h
    rw [e]
    exact is_other (A c) (A k) ca cb ta tb w (hE.ne c (mem_all hc1 hc) k (mem_all hk1 hk) h) ha hb
set_option maxRecDepth 100000 in
theorem api_code2 {A : Nat → Addr} (w : World) (hE : Errs w allCodes A) (c : Nat) (hc1 : 11 ≤ c) (hc : c ≤ 20) :
    Calls Tryd.prog 67 #[errv (A c)] w fun e w' => e = .returned (.int .i64 (c : Int)) ∧ w' = w := by
  obtain ⟨bk, hbk⟩ : ∃ bk : Nat → Bool, bk = fun k => decide (c = k) := ⟨_, rfl⟩
  have HC : Kp (∀ k, 1 ≤ k → k ≤ 20 → Calls Tryd.prog 66 #[errv (A c), errv (A k)] w fun e w' => e = .returned (.bool (bk k)) ∧ w' = w) := ⟨fun k h1 h2 => by rw [hbk]; exact is_code hE c k (by omega) hc h1 h2⟩
  have HB : Kp (∀ k, bk k = true → c = k) := ⟨fun k h => by rw [hbk] at h; exact of_decide_eq_true h⟩
  have HF : Kp (∀ k, bk k = false → c ≠ k) := ⟨fun k h => by rw [hbk] at h; exact of_decide_eq_false h⟩
  have hcell := hE.cell
  have E11 := hcell 11 (by decide)
  have E12 := hcell 12 (by decide)
  have E13 := hcell 13 (by decide)
  have E14 := hcell 14 (by decide)
  have E15 := hcell 15 (by decide)
  have E16 := hcell 16 (by decide)
  have E17 := hcell 17 (by decide)
  have E18 := hcell 18 (by decide)
  have E19 := hcell 19 (by decide)
  have E20 := hcell 20 (by decide)
  simp only [errVar] at E11 E12 E13 E14 E15 E16 E17 E18 E19 E20
  have HX := Kp.mk (And.intro hc1 hc)
  clear hbk hcell hE hc1 hc
  go_enter Tryd.func67, Tryd.ntmps67
  go_wp2_with (go_at_call 66; refine (HC.out _ (by decide) (by decide)).mono ?_; rintro e w' ⟨rfl, rfl⟩)
  all_goals go_ret
  all_goals first
    | (have h := HB.out _ (by assumption); exact ⟨ret_int (by rw [h]; rfl), rfl⟩)
    | (exfalso; have hx := HX.out; have h11 := HF.out 11 (by assumption); have h12 := HF.out 12 (by assumption); have h13 := HF.out 13 (by assumption); have h14 := HF.out 14 (by assumption); have h15 := HF.out 15 (by assumption); have h16 := HF.out 16 (by assumption); have h17 := HF.out 17 (by assumption); have h18 := HF.out 18 (by assumption); have h19 := HF.out 19 (by assumption); have h20 := HF.out 20 (by assumption); omega)
set_option maxRecDepth 100000 in
/-- api.Code of a sentinel. -/
theorem api_code {A : Nat → Addr} (w : World) (hE : Errs w allCodes A) (c : Nat) (hc1 : 1 ≤ c) (hc : c ≤ 20) :
    Calls Tryd.prog 49 #[errv (A c)] w fun e w' => e = .returned (.int .i64 (c : Int)) ∧ w' = w := by
  obtain ⟨bk, hbk⟩ : ∃ bk : Nat → Bool, bk = fun k => decide (c = k) := ⟨_, rfl⟩
  have HC : Kp (∀ k, 1 ≤ k → k ≤ 20 → Calls Tryd.prog 66 #[errv (A c), errv (A k)] w fun e w' => e = .returned (.bool (bk k)) ∧ w' = w) := ⟨fun k h1 h2 => by rw [hbk]; exact is_code hE c k (by omega) hc h1 h2⟩
  have HB : Kp (∀ k, bk k = true → c = k) := ⟨fun k h => by rw [hbk] at h; exact of_decide_eq_true h⟩
  have HF : Kp (∀ k, bk k = false → c ≠ k) := ⟨fun k h => by rw [hbk] at h; exact of_decide_eq_false h⟩
  have HC2 : Kp (11 ≤ c → Calls Tryd.prog 67 #[errv (A c)] w fun e w' => e = .returned (.int .i64 (c : Int)) ∧ w' = w) := ⟨fun h => api_code2 w hE c h hc⟩
  have hcell := hE.cell
  have E1 := hcell 1 (by decide)
  have E2 := hcell 2 (by decide)
  have E3 := hcell 3 (by decide)
  have E4 := hcell 4 (by decide)
  have E5 := hcell 5 (by decide)
  have E6 := hcell 6 (by decide)
  have E7 := hcell 7 (by decide)
  have E8 := hcell 8 (by decide)
  have E9 := hcell 9 (by decide)
  have E10 := hcell 10 (by decide)
  simp only [errVar] at E1 E2 E3 E4 E5 E6 E7 E8 E9 E10
  have HX := Kp.mk (And.intro hc1 hc)
  clear hbk hcell hE hc1 hc
  go_enter Tryd.func49, Tryd.ntmps49
  go_wp2_with (first
    | (go_at_call 66; refine (HC.out _ (by decide) (by decide)).mono ?_; rintro e w' ⟨rfl, rfl⟩)
    | (go_at_call 67; refine (HC2.out ?_).mono ?_; (have hx := HX.out; have h1 := HF.out 1 (by assumption); have h2 := HF.out 2 (by assumption); have h3 := HF.out 3 (by assumption); have h4 := HF.out 4 (by assumption); have h5 := HF.out 5 (by assumption); have h6 := HF.out 6 (by assumption); have h7 := HF.out 7 (by assumption); have h8 := HF.out 8 (by assumption); have h9 := HF.out 9 (by assumption); have h10 := HF.out 10 (by assumption); omega); rintro e w' ⟨rfl, rfl⟩))
  all_goals go_ret
  all_goals first
    | exact ⟨rfl, rfl⟩
    | (have h := HB.out _ (by assumption); exact ⟨ret_int (by rw [h]; rfl), rfl⟩)
theorem api_code_nil (w : World) :
    Calls Tryd.prog 49 #[.nilIface] w fun e w' => e = .returned (.int .i64 0) ∧ w' = w := by
  go_enter Tryd.func49, Tryd.ntmps49
  go_wp2
  go_ret
  exact ⟨rfl, rfl⟩
end Go.Proofs.YtjlgnbjfgeppcaaDoor
