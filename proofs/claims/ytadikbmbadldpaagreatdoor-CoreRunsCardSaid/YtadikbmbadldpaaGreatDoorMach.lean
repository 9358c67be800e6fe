
/- A process on its pages as it lies; one step and a run: plain. -/
import Derived.Test.YtadikbmbadldpaaGreatDoorCoreMem
import Derived.Test.YtadikbmbadldpaaGreatDoorAluPure
namespace Go.Proofs.YtadikbmbadldpaaGreatDoor
open Go Go.RowKit
set_option linter.unusedVariables false

/-- A process. -/
structure ProcV where
  r : Nat → BitVec 32
  pc : BitVec 32
  st : Int
  pr : Int
  wa : Int
  ob : Int
def regsL (r : Nat → BitVec 32) : List Value := (List.range 16).map fun i => Value.int .u32 ((r i).toNat : Int)
theorem regsL_length (r : Nat → BitVec 32) : (regsL r).length = 16 := by simp [regsL]
theorem regsL_get (r : Nat → BitVec 32) (i : Nat) (h : i < 16) : (regsL r)[i]? = some (.int .u32 ((r i).toNat : Int)) := by simp [regsL, h]
theorem regsL_set (r : Nat → BitVec 32) (k : Nat) (x : BitVec 32) : (regsL r).set k (.int .u32 (x.toNat : Int)) = regsL (fun i => if i = k then x else r i) := by
  apply List.ext_getElem?
  intro i
  rw [List.getElem?_set]
  by_cases hi : i < 16
  · rw [regsL_get (fun i => if i = k then x else r i) i hi, regsL_get r i hi]
    by_cases e : k = i
    · subst e; simp [regsL_length, hi]
    · have : ¬ i = k := fun h => e h.symm
      simp [e, this]
  · have e1 : ∀ g, (regsL g)[i]? = none := fun g => List.getElem?_eq_none (by rw [regsL_length]; omega)
    rw [e1, e1]
    by_cases e : k = i <;> simp [e, regsL_length, hi]
theorem regsL_one (r : Nat → BitVec 32) : ∀ u ∈ regsL r, u.oneCell' = true := by
  intro u hu
  simp only [regsL, List.mem_map] at hu
  obtain ⟨i, _, rfl⟩ := hu
  rfl
/-- A process as cells. -/
def ProcV.row (q : ProcV) : List Value := regsL q.r ++ [.int .u32 (q.pc.toNat : Int), .int .i64 q.st, .int .i64 q.pr, .int .i64 q.wa, .int .i64 q.ob]
theorem ProcV.row_length (q : ProcV) : q.row.length = 21 := by simp [ProcV.row, regsL_length]
theorem ProcV.row_one (q : ProcV) : ∀ u ∈ q.row, u.oneCell' = true := by
  intro u hu
  simp only [ProcV.row, List.mem_append, List.mem_cons, List.not_mem_nil, or_false] at hu
  rcases hu with hu | rfl | rfl | rfl | rfl | rfl
  · exact regsL_one _ u hu
  all_goals rfl
theorem ProcV.row_reg (q : ProcV) (i : Nat) (h : i < 16) : q.row[i]? = some (.int .u32 ((q.r i).toNat : Int)) := by
  unfold ProcV.row
  rw [List.getElem?_append_left (by rw [regsL_length]; exact h)]
  exact regsL_get _ i h
theorem ProcV.row_pc (q : ProcV) : q.row[16]? = some (.int .u32 (q.pc.toNat : Int)) := by
  unfold ProcV.row
  rw [List.getElem?_append_right (by rw [regsL_length]; omega), regsL_length]
  rfl
def ProcV.put (q : ProcV) (k : Nat) (x : BitVec 32) : ProcV := { q with r := fun i => if i = k then x else q.r i }
def ProcV.set (q : ProcV) (k : Nat) (x : BitVec 32) : ProcV := if k = 0 then q else q.put k x
def ProcV.go (q : ProcV) (x : BitVec 32) : ProcV := { q with pc := x }
theorem ProcV.row_put (q : ProcV) (k : Nat) (x : BitVec 32) (h : k < 16) : q.row.set k (.int .u32 (x.toNat : Int)) = (q.put k x).row := by
  unfold ProcV.row ProcV.put
  rw [List.set_append_left _ _ (by rw [regsL_length]; exact h), regsL_set]
theorem ProcV.row_go (q : ProcV) (x : BitVec 32) : q.row.set 16 (.int .u32 (x.toNat : Int)) = (q.go x).row := by
  unfold ProcV.row ProcV.go
  rw [List.set_append_right _ _ (by rw [regsL_length]; omega), regsL_length]
  rfl
/-- The program's machine, known whole. -/
def MachAt (w : World) (b : Nat) (v : Value) (q : ProcV) : Prop := Blk w b (v :: q.row).toArray 55
section
variable {w : World} {b : Nat} {v : Value} {q : ProcV}
theorem MachAt.pages (h : MachAt w b v q) : w.cell? ⟨b, 0, none⟩ = some v := Blk.cell h 0 v rfl
theorem MachAt.reg (h : MachAt w b v q) (i : Nat) (hi : i < 16) : w.cell? ⟨b, 1 + i, none⟩ = some (.int .u32 ((q.r i).toNat : Int)) := by
  refine Blk.cell h (1 + i) _ ?_
  have := q.row_reg i hi
  simpa [Nat.add_comm 1 i] using this
theorem MachAt.pc (h : MachAt w b v q) : w.cell? ⟨b, 17, none⟩ = some (.int .u32 (q.pc.toNat : Int)) := by
  refine Blk.cell h 17 _ ?_
  have := q.row_pc
  simpa using this
theorem MachAt.free (h : MachAt w b v q) (i : Nat) : w.frozen? ⟨b, i, none⟩ = false := Blk.free h i
theorem MachAt.put (h : MachAt w b v q) (k : Nat) (x : BitVec 32) (hk : k < 16) : MachAt (w.setCell ⟨b, 1 + k, none⟩ (.int .u32 (x.toNat : Int))) b v (q.put k x) := by
  have := Blk.set h (1 + k) (.int .u32 (x.toNat : Int))
  unfold MachAt
  rw [← q.row_put k x hk]
  simpa [Nat.add_comm 1 k] using this
theorem MachAt.go (h : MachAt w b v q) (x : BitVec 32) : MachAt (w.setCell ⟨b, 17, none⟩ (.int .u32 (x.toNat : Int))) b v (q.go x) := by
  have := Blk.set h 17 (.int .u32 (x.toNat : Int))
  unfold MachAt
  rw [← q.row_go x]
  simpa using this
theorem MachAt.later {w' : World} (h : MachAt w b v q) (hb : Below w.heap.size w w') : MachAt w' b v q := Blk.later h hb
theorem MachAt.lt (h : MachAt w b v q) : b < w.heap.size := Blk.lt h
end
/-- The world ahead, and variables that stay as they are. -/
structure BaseW where
  w : World
  cs : List (Nat × Array Value × TypeId)
abbrev BaseW.heap (z : BaseW) := z.w.heap
/-- A machine of the call's own: its pages too. -/
structure St (W0 : BaseW) (w : World) (b : Nat) (v : Value) (n : Nat) (P : Nat → PageV) (q : ProcV) : Prop where
  mach : MachAt w b v q
  own : OwnP w W0.heap.size v n P
  far : v.ownBlock ≠ some b
  base : W0.heap.size ≤ b
  below : Below W0.heap.size W0.w w
  keep : ∀ c ∈ W0.cs, Blk w c.1 c.2.1 c.2.2 ∧ c.1 ≠ b ∧ v.ownBlock ≠ some c.1
section
variable {W0 : BaseW} {w : World} {b : Nat} {v : Value} {n : Nat} {P : Nat → PageV} {q : ProcV}
theorem St.later {w' : World} (h : St W0 w b v n P q) (hb : Below w.heap.size w w') : St W0 w' b v n P q :=
  ⟨h.mach.later hb, h.own.later hb, h.far, h.base, h.below.trans (hb.mono h.below.size), fun c hc => ⟨(h.keep c hc).1.later hb, (h.keep c hc).2⟩⟩
theorem OwnP.other {B : Nat} (h : OwnP w B v n P) (g i : Nat) (u : Value) (hg : v.ownBlock ≠ some g) : OwnP (w.setCell ⟨g, i, none⟩ u) B v n P :=
  h.touch (Touch.setCell g i w u) hg
theorem St.put (h : St W0 w b v n P q) (k : Nat) (x : BitVec 32) (hk : k < 16) : St W0 (w.setCell ⟨b, 1 + k, none⟩ (.int .u32 (x.toNat : Int))) b v n P (q.put k x) :=
  ⟨h.mach.put k x hk, h.own.other b _ _ h.far, h.far, h.base, h.below.setCell (p := ⟨b, 1 + k, none⟩) h.base _, fun c hc => ⟨(h.keep c hc).1.other _ _ _ (h.keep c hc).2.1, (h.keep c hc).2⟩⟩
theorem St.go (h : St W0 w b v n P q) (x : BitVec 32) : St W0 (w.setCell ⟨b, 17, none⟩ (.int .u32 (x.toNat : Int))) b v n P (q.go x) :=
  ⟨h.mach.go x, h.own.other b _ _ h.far, h.far, h.base, h.below.setCell (p := ⟨b, 17, none⟩) h.base _, fun c hc => ⟨(h.keep c hc).1.other _ _ _ (h.keep c hc).2.1, (h.keep c hc).2⟩⟩
end
/-- What a step leaves: the pages, the process, why it stops, the code. -/
structure OutV where
  P : Nat → PageV
  q : ProcV
  k : Nat
  c : Int
def immB (i : InsV) : BitVec 32 := BitVec.ofInt 32 i.imm
def widthN (op : Int) : Nat := if op = 32 ∨ op = 35 then 4 else if op = 33 ∨ op = 36 then 2 else 1
/-- Arithmetic: the fault, the process (its pc as it was). -/
def cmpV (q : ProcV) (i : InsV) : Nat × ProcV :=
  if i.op = 20 then (0, q.set i.a.toNat (immB i <<< 16))
  else
    let z : BitVec 32 × Nat := if i.op = 16 then Alu.do_ 1 (q.r i.b.toNat) (immB i) else if i.op = 17 then Alu.do_ 3 (q.r i.b.toNat) (immB i) else if i.op = 18 then Alu.do_ 4 (q.r i.b.toNat) (immB i)
      else if i.op = 19 then Alu.do_ 5 (q.r i.b.toNat) (immB i) else Alu.do_ i.op (q.r i.b.toNat) (q.r i.c.toNat)
    if z.2 = 0 then (0, q.set i.a.toNat z.1) else (7, q)
/-- A load or a store: the fault, the pages, the process. -/
def memV (P : Nat → PageV) (n : Nat) (q : ProcV) (i : InsV) : Nat × (Nat → PageV) × ProcV :=
  let ad := (q.r i.b.toNat + immB i).toNat
  if 35 ≤ i.op then (lookF P n ad (widthN i.op) 1, if lookF P n ad (widthN i.op) 1 = 0 then Pg.store P ad (widthN i.op) (q.r i.a.toNat).toNat else P, q)
  else (lookF P n ad (widthN i.op) 0, P, if lookF P n ad (widthN i.op) 0 = 0 then q.set i.a.toNat (BitVec.ofNat 32 (loadV P n ad (widthN i.op) 0)) else q)
/-- A branch or a jump: where it goes on, the process. -/
def jmpV (q : ProcV) (i : InsV) (next : BitVec 32) : BitVec 32 × ProcV :=
  if i.op = 54 then (next + 4#32 * immB i, q.set i.a.toNat next)
  else if i.op = 55 then (q.r i.b.toNat + immB i, q)
  else (if (Alu.test i.op (q.r i.a.toNat) (q.r i.b.toNat)).1 then next + 4#32 * immB i else next, q)
/-- One step. -/
def stepV (n : Nat) (P : Nat → PageV) (q : ProcV) : OutV :=
  let f := ftC P n q.pc.toNat
  let i := ftI P n q.pc.toNat
  let next := q.pc + 4#32
  if f ≠ 0 then ⟨P, q, 2, f⟩
  else if i.op = 64 then ⟨P, q.go next, 1, i.imm⟩
  else if 48 ≤ i.op then ⟨P, (jmpV q i next).2.go (jmpV q i next).1, 0, 0⟩
  else if 32 ≤ i.op then (let m := memV P n q i; if m.1 ≠ 0 then ⟨m.2.1, m.2.2, 2, m.1⟩ else ⟨m.2.1, m.2.2.go next, 0, 0⟩)
  else (let m := cmpV q i; if m.1 ≠ 0 then ⟨P, m.2, 2, m.1⟩ else ⟨P, m.2.go next, 0, 0⟩)
end Go.Proofs.YtadikbmbadldpaaGreatDoor
