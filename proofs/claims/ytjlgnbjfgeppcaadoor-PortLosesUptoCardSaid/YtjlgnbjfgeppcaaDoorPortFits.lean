/- fits of the program: the closure, IndexFunc, ContainsFunc at it; walked. -/
import Derived.Test.YtjlgnbjfgeppcaaDoorPortPlan2
import Derived.Deep.QuietTactic
namespace Go.Proofs.YtjlgnbjfgeppcaaDoor
open Go Go.RowKit
set_option linter.unusedVariables false

theorem RdS.at {w : World} {a : Option Addr} {n cap : Nat} {l : List ByteArray} (h : RdS w a n cap l) (i : Nat) (hi : i < n) : ∃ b off, a = some ⟨b, off, none⟩ ∧ w.cell? ⟨b, off + i, none⟩ = some (.string (l.getD i noS)) ∧ (l.getD i noS).size < 9223372036854775808 := by
  obtain ⟨b, off, e, hc⟩ := h.cells (by omega)
  refine ⟨b, off, e, hc i hi, ?_⟩
  have hl := h.len
  have : l.getD i noS ∈ l := by rw [List.getD_eq_getElem?_getD, List.getElem?_eq_getElem (by omega)]; simp
  exact h.size _ this
theorem allLe_get {m : Int} {l : List ByteArray} (h : allLe m l = true) (i : Nat) (hi : i < l.length) : ((l.getD i noS).size : Int) ≤ m := by
  have := List.all_eq_true.1 h (l.getD i noS) (by rw [List.getD_eq_getElem?_getD, List.getElem?_eq_getElem hi]; simp)
  exact of_decide_eq_true this
theorem allLe_not {m : Int} {l : List ByteArray} (h : allLe m l = false) : ∃ k, k < l.length ∧ m < ((l.getD k noS).size : Int) ∧ ∀ i, i < k → ((l.getD i noS).size : Int) ≤ m := by
  induction l with
  | nil => simp [allLe] at h
  | cons x l ih =>
    by_cases hx : (x.size : Int) ≤ m
    · have hr : allLe m l = false := by
        unfold allLe at h ⊢
        rw [List.all_cons, decide_eq_true hx, Bool.true_and] at h
        exact h
      obtain ⟨k, hk, h1, h2⟩ := ih hr
      refine ⟨k + 1, by simpa using hk, by simpa [List.getD_cons_succ] using h1, fun i hi => ?_⟩
      cases i with
      | zero => simpa using hx
      | succ i => simpa [List.getD_cons_succ] using h2 i (by omega)
    · exact ⟨0, by simp, by simp; omega, fun i hi => by omega⟩
abbrev longF (b : Nat) : Value := .func (.func 70) #[] #[.pointer (some ⟨b, 0, none⟩)]
theorem port_long (b : Nat) (p : PortP) (D : ByteArray) (w : World) (hD : D.size < 9223372036854775808) (h : PlanAt w b p) :
    Calls Tryd.prog 70 #[.string D, .pointer (some ⟨b, 0, none⟩)] w fun e w' => e = .returned (.bool (decide (p.size < (D.size : Int)))) ∧ w = w' := by
  obtain ⟨k, s, d, r⟩ := p
  have c1 := h.c1
  clear h
  go_enter Tryd.func70, Tryd.ntmps70
  go_wp2
  go_ret
  exact ⟨rfl, rfl⟩
set_option maxRecDepth 100000 in
theorem idx_all (a : Option Addr) (n cap : Nat) (l : List ByteArray) (b : Nat) (p : PortP) (w : World) (h : RdS w a n cap l) (hp : PlanAt w b p) (hl : allLe p.size l = true) :
    Calls Tryd.prog 74 #[.slice a n cap, longF b] w fun e w' => e = .returned (.int .i64 (-1)) ∧ w = w' := by
  have H0 := Kp.mk h
  have hn := h.bound
  have HF : Kp (∀ D : ByteArray, D.size < 9223372036854775808 → (D.size : Int) ≤ p.size → Calls Tryd.prog 70 #[.string D, .pointer (some ⟨b, 0, none⟩)] w fun e w' => e = .returned (.bool false) ∧ w = w') := ⟨fun D h1 h2 => by
    have h3 := port_long b p D w h1 hp
    rw [decide_eq_false (by omega)] at h3
    exact h3⟩
  have HL : Kp (∀ i, i < n → ((l.getD i noS).size : Int) ≤ p.size) := ⟨fun i hi => allLe_get hl i (by rw [h.len]; exact hi)⟩
  clear h hp hl
  go_enter Tryd.func74, Tryd.ntmps74
  go_wp2
  go_loop [5, 8] (fun _ iv => ∃ k : Nat, k ≤ n ∧ iv = .int .i64 (k : Int)) (fun _ iv => n - (intOf iv).toNat)
  case atStart => exact ⟨0, by omega, rfl⟩
  case round =>
    obtain ⟨k, hk, rfl⟩ := hrel
    by_cases hlt : k < n
    · have hb : decide ((k : Int) < n) = true := decide_eq_true (by omega)
      obtain ⟨bb, off, ha, hc, hs⟩ := H0.out.at k hlt
      have hle := HL.out k hlt
      obtain ⟨D, hD⟩ : ∃ D, D = l.getD k noS := ⟨_, rfl⟩
      rw [← hD] at hc hs hle
      subst ha
      clear hD
      have HC := Kp.mk (HF.out D hs hle)
      clear hle
      go_wp2_with (refine HC.out.mono ?_; rintro e w1 ⟨rfl, rfl⟩)
      go_round
      case rel => exact ⟨k + 1, by omega, by go_num⟩
      case measure => simp [intOf]; omega
    · have : k = n := by omega
      subst this
      have hb : decide ((k : Int) < k) = false := by simp
      go_wp2
      go_ret
      exact ⟨rfl, rfl⟩
set_option maxRecDepth 100000 in
theorem idx_some (a : Option Addr) (n cap : Nat) (l : List ByteArray) (b : Nat) (p : PortP) (w : World) (h : RdS w a n cap l) (hp : PlanAt w b p) (m : Nat) (hm : m < n) (hl : p.size < ((l.getD m noS).size : Int)) (hb : ∀ i, i < m → ((l.getD i noS).size : Int) ≤ p.size) :
    Calls Tryd.prog 74 #[.slice a n cap, longF b] w fun e w' => e = .returned (.int .i64 (m : Int)) ∧ w = w' := by
  have H0 := Kp.mk h
  have hn := h.bound
  have HF : Kp (∀ (D : ByteArray) (v : Bool), D.size < 9223372036854775808 → decide (p.size < (D.size : Int)) = v → Calls Tryd.prog 70 #[.string D, .pointer (some ⟨b, 0, none⟩)] w fun e w' => e = .returned (.bool v) ∧ w = w') := ⟨fun D v h1 h2 => by
    have h3 := port_long b p D w h1 hp
    rw [h2] at h3
    exact h3⟩
  have HL : Kp (∀ i, i < m → ((l.getD i noS).size : Int) ≤ p.size) := ⟨hb⟩
  have HM := Kp.mk hl
  clear h hp hl hb
  go_enter Tryd.func74, Tryd.ntmps74
  go_wp2
  go_loop [5, 8] (fun _ iv => ∃ k : Nat, k ≤ m ∧ iv = .int .i64 (k : Int)) (fun _ iv => n - (intOf iv).toNat)
  case atStart => exact ⟨0, by omega, rfl⟩
  case round =>
    obtain ⟨k, hk, rfl⟩ := hrel
    have hb : decide ((k : Int) < n) = true := decide_eq_true (by omega)
    have hlt : k < n := by omega
    by_cases he : k = m
    · obtain ⟨bb, off, ha, hc, hs⟩ := H0.out.at k hlt
      have hle : decide (p.size < ((l.getD k noS).size : Int)) = true := decide_eq_true (by rw [he]; exact HM.out)
      obtain ⟨D, hD⟩ : ∃ D, D = l.getD k noS := ⟨_, rfl⟩
      rw [← hD] at hc hs hle
      subst ha
      clear hD
      have HC := Kp.mk (HF.out D true hs hle)
      subst he
      clear hle
      go_wp2_with (refine HC.out.mono ?_; rintro e w1 ⟨rfl, rfl⟩)
      go_ret
      exact ⟨rfl, rfl⟩
    · obtain ⟨bb, off, ha, hc, hs⟩ := H0.out.at k hlt
      have hle : decide (p.size < ((l.getD k noS).size : Int)) = false := decide_eq_false (by have := HL.out k (by omega); omega)
      obtain ⟨D, hD⟩ : ∃ D, D = l.getD k noS := ⟨_, rfl⟩
      rw [← hD] at hc hs hle
      subst ha
      clear hD
      have HC := Kp.mk (HF.out D false hs hle)
      clear hle
      go_wp2_with (refine HC.out.mono ?_; rintro e w1 ⟨rfl, rfl⟩)
      go_round
      case rel => exact ⟨k + 1, by omega, by go_num⟩
      case measure => simp [intOf]; omega
theorem contains_long (a : Option Addr) (n cap : Nat) (l : List ByteArray) (b : Nat) (p : PortP) (w : World) (h : RdS w a n cap l) (hp : PlanAt w b p) :
    Calls Tryd.prog 69 #[.slice a n cap, longF b] w fun e w' => e = .returned (.bool (!(allLe p.size l))) ∧ w = w' := by
  by_cases hl : allLe p.size l = true
  · have HC := Kp.mk (idx_all a n cap l b p w h hp hl)
    rw [hl]
    clear h hp hl
    go_enter Tryd.func69, Tryd.ntmps69
    go_wp2_with (refine HC.out.mono ?_; rintro e w1 ⟨rfl, rfl⟩)
    go_ret
    exact ⟨rfl, rfl⟩
  · have hl' : allLe p.size l = false := by simpa using hl
    obtain ⟨m, hm, h1, h2⟩ := allLe_not hl'
    rw [h.len] at hm
    have HC := Kp.mk (idx_some a n cap l b p w h hp m hm h1 h2)
    have hb : decide ((m : Int) ≥ 0) = true := decide_eq_true (by omega)
    rw [hl']
    clear h hp hl hl' h1 h2
    go_enter Tryd.func69, Tryd.ntmps69
    go_wp2_with (refine HC.out.mono ?_; rintro e w1 ⟨rfl, rfl⟩)
    go_ret
    exact ⟨rfl, rfl⟩
end Go.Proofs.YtjlgnbjfgeppcaaDoor
