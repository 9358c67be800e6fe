/- fits of the program, Fits of the document; walked. -/
import Derived.Test.YtjlgnbjfgeppcaaDoorPortFits
import Derived.Outline
namespace Go.Proofs.YtjlgnbjfgeppcaaDoor
open Go Go.RowKit
set_option linter.unusedVariables false

/-- A port by value. -/
abbrev portA (a : Option Addr) (n cap : Nat) (g : Int) : Array Value := #[.slice a n cap, .int .i64 g]
def PortAt (w : World) (b : Nat) (a : Option Addr) (n cap : Nat) (g : Int) : Prop := w.rangeAt b 0 (portA a n cap g).toList
theorem PortAt.later {w w' : World} {b : Nat} {a : Option Addr} {n cap : Nat} {g : Int} (h : PortAt w b a n cap g) (hb : Below w.heap.size w w') : PortAt w' b a n cap g := srange_later h hb
theorem PortAt.c0 {w : World} {b : Nat} {a : Option Addr} {n cap : Nat} {g : Int} (h : PortAt w b a n cap g) : w.cell? ⟨b, 0, none⟩ = some (.slice a n cap) := h 0 _ rfl
theorem PortAt.c1 {w : World} {b : Nat} {a : Option Addr} {n cap : Nat} {g : Int} (h : PortAt w b a n cap g) : w.cell? ⟨b, 1, none⟩ = some (.int .i64 g) := h 1 _ rfl
theorem port_box (w : World) (a : Option Addr) (n cap : Nat) (g : Int) : ∃ w1, w1 = w.alloc (.cells (portA a n cap g) 29) ∧ PortAt w1 w.heap.size a n cap g ∧ Below w.heap.size w w1 :=
  ⟨_, rfl, fun j u hu => by rw [Nat.zero_add, World.cell?_alloc_new]; simpa using hu, (Below.refl _ _).alloc (Nat.le_refl _) _⟩
/-- A plan and a port boxed. -/
theorem both_box (w : World) (k s d r : Int) (a : Option Addr) (n cap : Nat) (g : Int) : ∃ w2, w2 = (w.alloc (.cells (rowK k s d r) 23)).alloc (.cells (portA a n cap g) 29) ∧ PlanAt w2 w.heap.size ⟨k, s, d, r⟩ ∧ PortAt w2 (w.heap.size + 1) a n cap g ∧ Below w.heap.size w w2 := by
  obtain ⟨w1, e1, p1, b1⟩ := plan_box w k s d r
  obtain ⟨w2, e2, p2, b2⟩ := port_box w1 a n cap g
  have hz : w1.heap.size = w.heap.size + 1 := by rw [e1]; simp
  rw [hz] at p2
  exact ⟨w2, by rw [e2, e1], p1.later b2, p2, b1.trans (b2.mono b1.size)⟩
theorem fitsP_long {p : PortP} {l : List ByteArray} {g : Int} (h : p.depth < (l.length : Int)) : fitsP p l g = false := by
  have e : decide ((l.length : Int) ≤ p.depth) = false := decide_eq_false (by omega)
  simp only [fitsP, e, Bool.false_and]
theorem fitsP_low {p : PortP} {l : List ByteArray} {g : Int} (h : g < 0) : fitsP p l g = false := by
  have e : decide (0 ≤ g) = false := decide_eq_false (by omega)
  simp only [fitsP, e, Bool.false_and, Bool.and_false]
theorem fitsP_high {p : PortP} {l : List ByteArray} {g : Int} (h : 255 < g) : fitsP p l g = false := by
  have e : decide (g ≤ 255) = false := decide_eq_false (by omega)
  simp only [fitsP, e, Bool.false_and, Bool.and_false]
theorem fitsP_age {p : PortP} {l : List ByteArray} {g : Int} (h : g ≠ 0) (h2 : p.kind ≠ 1 ∨ l.length = 0) : fitsP p l g = false := by
  have e : (decide (g = 0) || (decide (p.kind = 1) && decide (0 < l.length))) = false := by
    rw [decide_eq_false h, Bool.false_or]
    rcases h2 with h | h
    · rw [decide_eq_false h, Bool.false_and]
    · rw [decide_eq_false (p := 0 < l.length) (by omega), Bool.and_false]
  simp only [fitsP, e, Bool.false_and, Bool.and_false]
theorem fitsP_else {p : PortP} {l : List ByteArray} {g : Int} (h1 : ¬ p.depth < (l.length : Int)) (h2 : ¬ g < 0) (h3 : ¬ 255 < g) (h4 : g = 0 ∨ (p.kind = 1 ∧ l.length ≠ 0)) : fitsP p l g = allLe p.size l := by
  have e1 : decide ((l.length : Int) ≤ p.depth) = true := decide_eq_true (by omega)
  have e2 : decide (0 ≤ g) = true := decide_eq_true (by omega)
  have e3 : decide (g ≤ 255) = true := decide_eq_true (by omega)
  have e4 : (decide (g = 0) || (decide (p.kind = 1) && decide (0 < l.length))) = true := by
    rcases h4 with h | ⟨h, h'⟩
    · simp [h]
    · rw [decide_eq_true h, decide_eq_true (p := 0 < l.length) (by omega)]; simp
  simp only [fitsP, e1, e2, e3, e4, Bool.true_and]
set_option maxRecDepth 100000 in
set_option maxHeartbeats 8000000 in
theorem port_fits (p : PortP) (a : Option Addr) (n cap : Nat) (l : List ByteArray) (g : Int) (w : World) (h : RdS w a n cap l) :
    Calls Tryd.prog 55 #[.agg p.row.toArray, .agg (portA a n cap g)] w fun e w' => e = .returned (.bool (fitsP p l g)) ∧ Below w.heap.size w w' := by
  obtain ⟨k, s, d, r⟩ := p
  have hl := h.len
  have hn := h.bound
  obtain ⟨w2, e2, p2, q2, b2⟩ := both_box w k s d r a n cap g
  have E2 := Kp.mk e2
  have B2 := Kp.mk b2
  have HC := Kp.mk (contains_long a n cap l _ _ w2 (h.later b2) p2)
  have HL := Kp.mk hl
  show Calls Tryd.prog 55 #[.agg (rowK k s d r), .agg (portA a n cap g)] w fun e w' => e = .returned (.bool (fitsP ⟨k, s, d, r⟩ l g)) ∧ Below w.heap.size w w'
  clear h p2 q2 b2 e2 hl
  by_cases h1 : d < (n : Int)
  · have f1 : decide ((n : Int) > d) = true := decide_eq_true h1
    rw [fitsP_long (by rw [HL.out]; exact h1)]
    clear h1 HC
    go_enter Tryd.func55, Tryd.ntmps55
    go_wp2
    go_ret
    exact ⟨rfl, by have h := B2.out; rw [E2.out] at h; exact h⟩
  have f1 : decide ((n : Int) > d) = false := decide_eq_false h1
  by_cases h2 : g < 0
  · have f2 : decide (g < 0) = true := decide_eq_true h2
    rw [fitsP_low h2]
    clear h1 h2 HC
    go_enter Tryd.func55, Tryd.ntmps55
    go_wp2
    go_ret
    exact ⟨rfl, by have h := B2.out; rw [E2.out] at h; exact h⟩
  have f2 : decide (g < 0) = false := decide_eq_false h2
  by_cases h3 : 255 < g
  · have f3 : decide (g > 255) = true := decide_eq_true h3
    rw [fitsP_high h3]
    clear h1 h2 h3 HC
    go_enter Tryd.func55, Tryd.ntmps55
    go_wp2
    go_ret
    exact ⟨rfl, by have h := B2.out; rw [E2.out] at h; exact h⟩
  have f3 : decide (g > 255) = false := decide_eq_false h3
  by_cases h4 : g = 0
  · rw [fitsP_else (by rw [HL.out]; exact h1) h2 h3 (.inl h4)]
    subst h4
    clear h1 h2 h3 f2 f3
    go_enter Tryd.func55, Tryd.ntmps55
    go_wp2_with fail
    rw [← E2.out]
    refine HC.out.mono ?_
    rintro e w1 ⟨rfl, rfl⟩
    go_wp2_with fail
    go_ret
    exact ⟨ret_bool (by simp), B2.out⟩
  have f4 : (g != 0) = true := by simpa using h4
  by_cases h5 : k = 1
  · subst h5
    by_cases h6 : n = 0
    · have f6 : ((n : Int) == 0) = true := by rw [h6]; rfl
      rw [fitsP_age h4 (.inr (by rw [HL.out]; exact h6))]
      clear h1 h2 h3 h4 h6 HC
      go_enter Tryd.func55, Tryd.ntmps55
      go_wp2
      go_ret
      exact ⟨rfl, by have h := B2.out; rw [E2.out] at h; exact h⟩
    · have f6 : ((n : Int) == 0) = false := by simp; omega
      rw [fitsP_else (by rw [HL.out]; exact h1) h2 h3 (.inr ⟨rfl, by rw [HL.out]; exact h6⟩)]
      clear h1 h2 h3 h4 h6
      go_enter Tryd.func55, Tryd.ntmps55
      go_wp2_with fail
      rw [← E2.out]
      refine HC.out.mono ?_
      rintro e w1 ⟨rfl, rfl⟩
      go_wp2_with fail
      go_ret
      exact ⟨ret_bool (by simp), B2.out⟩
  · have f5 : (k != 1) = true := by simpa using h5
    rw [fitsP_age h4 (.inl h5)]
    clear h1 h2 h3 h4 h5 HC
    go_enter Tryd.func55, Tryd.ntmps55
    go_wp2
    go_ret
    exact ⟨rfl, by have h := B2.out; rw [E2.out] at h; exact h⟩
end Go.Proofs.YtjlgnbjfgeppcaaDoor
