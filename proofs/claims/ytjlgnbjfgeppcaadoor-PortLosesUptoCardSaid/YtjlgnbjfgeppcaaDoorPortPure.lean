/- Ports: what a plan, a port, a message come to: plain. -/
import Derived.Test.YtjlgnbjfgeppcaaDoorStrBase
namespace Go.Proofs.YtjlgnbjfgeppcaaDoor
set_option linter.unusedVariables false

structure PortP where
  kind : Int
  size : Int
  depth : Int
  refresh : Int
/-- The most messages, the greatest Refresh of a kind. -/
def depthM (k : Int) : Int := bif decide (3 ≤ k) then 8 else 1
def refrM (k : Int) : Int := bif decide (k = 1) then 255 else 0
/-- The code of a plan. -/
def planC (p : PortP) : Nat :=
  bif decide (p.kind < 1 ∨ 4 < p.kind) then 7
  else bif decide (p.size < 1 ∨ 32 < p.size) then 11
  else bif decide (p.depth < 1 ∨ depthM p.kind < p.depth ∨ p.refresh < 0 ∨ refrM p.kind < p.refresh) then 4 else 0
theorem planC_kind {p : PortP} (h : p.kind < 1 ∨ 4 < p.kind) : planC p = 7 := by simp [planC, h]
theorem planC_size {p : PortP} (h0 : ¬ (p.kind < 1 ∨ 4 < p.kind)) (h : p.size < 1 ∨ 32 < p.size) : planC p = 11 := by simp [planC, h0, h]
theorem planC_range {p : PortP} (h0 : ¬ (p.kind < 1 ∨ 4 < p.kind)) (h1 : ¬ (p.size < 1 ∨ 32 < p.size)) (h : p.depth < 1 ∨ depthM p.kind < p.depth ∨ p.refresh < 0 ∨ refrM p.kind < p.refresh) : planC p = 4 := by simp [planC, h0, h1, h]
theorem planC_ok {p : PortP} (h0 : ¬ (p.kind < 1 ∨ 4 < p.kind)) (h1 : ¬ (p.size < 1 ∨ 32 < p.size)) (h : ¬ (p.depth < 1 ∨ depthM p.kind < p.depth ∨ p.refresh < 0 ∨ refrM p.kind < p.refresh)) : planC p = 0 := by simp [planC, h0, h1, h]
/-- Is no string longer than this? -/
def allLe (m : Int) (l : List ByteArray) : Bool := l.all fun s => decide ((s.size : Int) ≤ m)
/-- Does a port fit a plan in form? -/
def fitsP (p : PortP) (l : List ByteArray) (age : Int) : Bool :=
  decide ((l.length : Int) ≤ p.depth) && decide (0 ≤ age) && decide (age ≤ 255) && (decide (age = 0) || (decide (p.kind = 1) && decide (0 < l.length))) && allLe p.size l
/-- The code of a port under a plan. -/
def portC (p : PortP) (l : List ByteArray) (age : Int) : Nat := bif decide (planC p = 0) then (bif fitsP p l age then 0 else 9) else 8

/-- A message that comes: the code, the messages behind it. -/
def addC (p : PortP) (l : List ByteArray) (age : Int) (D : ByteArray) (kind : Bool) : Nat :=
  bif decide (portC p l age = 0) then (bif kind then (bif decide (p.size < (D.size : Int)) then 11 else bif decide (p.kind ≤ 2) then 0 else bif decide ((l.length : Int) = p.depth) then 14 else 0) else 7) else portC p l age
def addL (p : PortP) (l : List ByteArray) (age : Int) (D : ByteArray) (kind : Bool) : List ByteArray :=
  bif decide (addC p l age D kind = 0) then (bif decide (p.kind ≤ 2) then [D] else l ++ [D]) else []
end Go.Proofs.YtjlgnbjfgeppcaaDoor
