/- The program's kinds of ports and CheckPlan, walked. -/
import Derived.Test.YtjlgnbjfgeppcaaDoorPortPure
import Derived.Test.YtjlgnbjfgeppcaaDoorCodeWalk
import Derived.Test.YtjlgnbjfgeppcaaDoorAsWalk
import Derived.BigQuiet
import Derived.Deep.MidRow
import Derived.Great.Ranges
namespace Go.Proofs.YtjlgnbjfgeppcaaDoor
open Go Go.RowKit
set_option linter.unusedVariables false

/-- No error, or the sentinel of a code. -/
def errOf (A : Nat → Addr) : Nat → Value
  | 0 => .nilIface
  | c + 1 => errv (A (c + 1))
def PortP.row (p : PortP) : List Value := [.int .i64 p.kind, .int .i64 p.size, .int .i64 p.depth, .int .i64 p.refresh]
def PlanAt (w : World) (b : Nat) (p : PortP) : Prop := w.rangeAt b 0 p.row
theorem srange_later {w w' : World} {b o : Nat} {cs : List Value} (h : w.rangeAt b o cs) (hb : Below w.heap.size w w') : w'.rangeAt b o cs := fun j v hv => by
  have := h j v hv
  exact (hb.cell (p := ⟨b, o + j, none⟩) (World.block_lt_of_cell? w _ this)).trans this
theorem PlanAt.later {w w' : World} {b : Nat} {p : PortP} (h : PlanAt w b p) (hb : Below w.heap.size w w') : PlanAt w' b p := srange_later h hb
theorem PlanAt.c0 {w : World} {b : Nat} {k s d r : Int} (h : PlanAt w b ⟨k, s, d, r⟩) : w.cell? ⟨b, 0, none⟩ = some (.int .i64 k) := h 0 _ rfl
theorem PlanAt.c1 {w : World} {b : Nat} {k s d r : Int} (h : PlanAt w b ⟨k, s, d, r⟩) : w.cell? ⟨b, 1, none⟩ = some (.int .i64 s) := h 1 _ rfl
theorem PlanAt.c2 {w : World} {b : Nat} {k s d r : Int} (h : PlanAt w b ⟨k, s, d, r⟩) : w.cell? ⟨b, 2, none⟩ = some (.int .i64 d) := h 2 _ rfl
theorem PlanAt.c3 {w : World} {b : Nat} {k s d r : Int} (h : PlanAt w b ⟨k, s, d, r⟩) : w.cell? ⟨b, 3, none⟩ = some (.int .i64 r) := h 3 _ rfl
theorem plan_made (w : World) (p : PortP) : ∃ w', w' = w.alloc (.cells p.row.toArray 23) ∧ PlanAt w' w.heap.size p ∧ Below w.heap.size w w' :=
  ⟨_, rfl, fun j u hu => by rw [Nat.zero_add, World.cell?_alloc_new]; simpa using hu, (Below.refl _ _).alloc (Nat.le_refl _) _⟩
theorem portLen {k s d r : Int} : (Tryd.prog.info? 23).map (·.size) = some (PortP.row ⟨k, s, d, r⟩).length := by
  have h : (Tryd.prog.info? 23).map (·.size) = some 4 := by kernel_rfl
  exact h
def inK (k : Int) : Bool := decide (k = 1 ∨ k = 3)
set_option maxRecDepth 100000 in
theorem port_isIn (p : PortP) (w : World) :
    Calls Tryd.prog 51 #[.agg p.row.toArray] w fun e w' => e = .returned (.bool (inK p.kind)) ∧ Below w.heap.size w w' := by
  obtain ⟨k, s, d, r⟩ := p
  obtain ⟨w1, hw1, hp, hb⟩ := plan_made w ⟨k, s, d, r⟩
  have c0 := hp.c0
  have W1 := Kp.mk hw1
  have HB := Kp.mk hb
  show Calls Tryd.prog 51 #[.agg (PortP.row ⟨k, s, d, r⟩).toArray] w fun e w' => e = .returned (.bool (inK k)) ∧ Below w.heap.size w w'
  clear hw1 hp hb
  by_cases h1 : k = 1
  · subst h1
    go_enter Tryd.func51, Tryd.ntmps51
    go_wp2_with (refine Great.wpList_boxTo rfl 23 (.tmp 0) rfl _ rfl w.heap.size rfl (PortP.row ⟨1, s, d, r⟩).toArray rfl ?_; rw [← W1.out])
    go_ret
    exact ⟨rfl, HB.out⟩
  · have e1 : (k == 1) = false := by simpa using h1
    by_cases h2 : k = 3
    · subst h2
      clear h1
      go_enter Tryd.func51, Tryd.ntmps51
      go_wp2_with (refine Great.wpList_boxTo rfl 23 (.tmp 0) rfl _ rfl w.heap.size rfl (PortP.row ⟨3, s, d, r⟩).toArray rfl ?_; rw [← W1.out])
      go_ret
      exact ⟨rfl, HB.out⟩
    · have e2 : (k == 3) = false := by simpa using h2
      have hk : inK k = false := decide_eq_false (by omega)
      rw [hk]
      clear h1 h2 hk
      go_enter Tryd.func51, Tryd.ntmps51
      go_wp2_with (refine Great.wpList_boxTo rfl 23 (.tmp 0) rfl _ rfl w.heap.size rfl (PortP.row ⟨k, s, d, r⟩).toArray rfl ?_; rw [← W1.out])
      go_ret
      exact ⟨rfl, HB.out⟩
def outK (k : Int) : Bool := decide (k = 2 ∨ k = 4)
set_option maxRecDepth 100000 in
theorem port_isOut (p : PortP) (w : World) :
    Calls Tryd.prog 59 #[.agg p.row.toArray] w fun e w' => e = .returned (.bool (outK p.kind)) ∧ Below w.heap.size w w' := by
  obtain ⟨k, s, d, r⟩ := p
  obtain ⟨w1, hw1, hp, hb⟩ := plan_made w ⟨k, s, d, r⟩
  have c0 := hp.c0
  have W1 := Kp.mk hw1
  have HB := Kp.mk hb
  show Calls Tryd.prog 59 #[.agg (PortP.row ⟨k, s, d, r⟩).toArray] w fun e w' => e = .returned (.bool (outK k)) ∧ Below w.heap.size w w'
  clear hw1 hp hb
  by_cases h1 : k = 2
  · subst h1
    go_enter Tryd.func59, Tryd.ntmps59
    go_wp2_with (refine Great.wpList_boxTo rfl 23 (.tmp 0) rfl _ rfl w.heap.size rfl (PortP.row ⟨2, s, d, r⟩).toArray rfl ?_; rw [← W1.out])
    go_ret
    exact ⟨rfl, HB.out⟩
  · have e1 : (k == 2) = false := by simpa using h1
    by_cases h2 : k = 4
    · subst h2
      clear h1
      go_enter Tryd.func59, Tryd.ntmps59
      go_wp2_with (refine Great.wpList_boxTo rfl 23 (.tmp 0) rfl _ rfl w.heap.size rfl (PortP.row ⟨4, s, d, r⟩).toArray rfl ?_; rw [← W1.out])
      go_ret
      exact ⟨rfl, HB.out⟩
    · have e2 : (k == 4) = false := by simpa using h2
      have hk : outK k = false := decide_eq_false (by omega)
      rw [hk]
      clear h1 h2 hk
      go_enter Tryd.func59, Tryd.ntmps59
      go_wp2_with (refine Great.wpList_boxTo rfl 23 (.tmp 0) rfl _ rfl w.heap.size rfl (PortP.row ⟨k, s, d, r⟩).toArray rfl ?_; rw [← W1.out])
      go_ret
      exact ⟨rfl, HB.out⟩
def queueK (k : Int) : Bool := decide (k = 3 ∨ k = 4)
set_option maxRecDepth 100000 in
theorem port_isQueue (p : PortP) (w : World) :
    Calls Tryd.prog 52 #[.agg p.row.toArray] w fun e w' => e = .returned (.bool (queueK p.kind)) ∧ Below w.heap.size w w' := by
  obtain ⟨k, s, d, r⟩ := p
  obtain ⟨w1, hw1, hp, hb⟩ := plan_made w ⟨k, s, d, r⟩
  have c0 := hp.c0
  have W1 := Kp.mk hw1
  have HB := Kp.mk hb
  show Calls Tryd.prog 52 #[.agg (PortP.row ⟨k, s, d, r⟩).toArray] w fun e w' => e = .returned (.bool (queueK k)) ∧ Below w.heap.size w w'
  clear hw1 hp hb
  by_cases h1 : k = 3
  · subst h1
    go_enter Tryd.func52, Tryd.ntmps52
    go_wp2_with (refine Great.wpList_boxTo rfl 23 (.tmp 0) rfl _ rfl w.heap.size rfl (PortP.row ⟨3, s, d, r⟩).toArray rfl ?_; rw [← W1.out])
    go_ret
    exact ⟨rfl, HB.out⟩
  · have e1 : (k == 3) = false := by simpa using h1
    by_cases h2 : k = 4
    · subst h2
      clear h1
      go_enter Tryd.func52, Tryd.ntmps52
      go_wp2_with (refine Great.wpList_boxTo rfl 23 (.tmp 0) rfl _ rfl w.heap.size rfl (PortP.row ⟨4, s, d, r⟩).toArray rfl ?_; rw [← W1.out])
      go_ret
      exact ⟨rfl, HB.out⟩
    · have e2 : (k == 4) = false := by simpa using h2
      have hk : queueK k = false := decide_eq_false (by omega)
      rw [hk]
      clear h1 h2 hk
      go_enter Tryd.func52, Tryd.ntmps52
      go_wp2_with (refine Great.wpList_boxTo rfl 23 (.tmp 0) rfl _ rfl w.heap.size rfl (PortP.row ⟨k, s, d, r⟩).toArray rfl ?_; rw [← W1.out])
      go_ret
      exact ⟨rfl, HB.out⟩
end Go.Proofs.YtjlgnbjfgeppcaaDoor
