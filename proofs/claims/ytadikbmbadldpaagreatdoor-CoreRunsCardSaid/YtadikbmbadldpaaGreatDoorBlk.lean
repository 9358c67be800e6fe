
/- Variables of the call's own: blocks known whole; results that lie in such a block. -/
import Derived.Test.YtadikbmbadldpaaGreatDoorProg
import Derived.Test.YtadikbmbadldpaaGreatDoorBase
import Derived.Test.YtadikbmbadldpaaGreatDoorDrew
import Derived.Laws.Rows
import Derived.Laws.Tables
namespace Go.Proofs.YtadikbmbadldpaaGreatDoor
open Go Go.RowKit
set_option linter.unusedVariables false

/-- A variable of the call's own: its block, known whole. -/
def Blk (w : World) (b : Nat) (cs : Array Value) (T : TypeId) : Prop := w.heap[b]? = some (.cells cs T (0, 0))
theorem Blk.lt {w : World} {b : Nat} {cs : Array Value} {T : TypeId} (h : Blk w b cs T) : b < w.heap.size := (Array.getElem?_eq_some_iff.1 h).1
theorem Blk.later {w w' : World} {b : Nat} {cs : Array Value} {T : TypeId} (h : Blk w b cs T) (hb : Below w.heap.size w w') : Blk w' b cs T := (hb.block b h.lt).trans h
theorem Blk.drew {w : World} {b : Nat} {cs : Array Value} {T : TypeId} (h : Blk w b cs T) : Blk w.drew b cs T := h
theorem Blk.cell {w : World} {b : Nat} {cs : Array Value} {T : TypeId} (h : Blk w b cs T) (i : Nat) (v : Value) (hv : cs[i]? = some v) : w.cell? ⟨b, i, none⟩ = some v := by
  exact (cell_of_row w b i cs T (0, 0) h).trans hv
theorem Blk.free {w : World} {b : Nat} {cs : Array Value} {T : TypeId} (h : Blk w b cs T) (i : Nat) : w.frozen? ⟨b, i, none⟩ = false := by
  unfold Blk at h
  simp [World.frozen?, h]
theorem Blk.new (w : World) (cs : Array Value) (T : TypeId) : Blk (w.alloc (.cells cs T)) w.heap.size cs T := heap_alloc_new w _
theorem Blk.alloc {w : World} {b : Nat} {cs : Array Value} {T : TypeId} (h : Blk w b cs T) (o : Obj) : Blk (w.alloc o) b cs T := (Below.heap_alloc w o b h.lt).trans h
theorem Blk.other {w : World} {b : Nat} {cs : Array Value} {T : TypeId} (h : Blk w b cs T) (g i : Nat) (v : Value) (hg : b ≠ g) : Blk (w.setCell ⟨g, i, none⟩ v) b cs T :=
  (heap_setCell_other w ⟨g, i, none⟩ b v hg).trans h
theorem Blk.set {w : World} {b : Nat} {cs : Array Value} {T : TypeId} (h : Blk w b cs T) (i : Nat) (v : Value) : Blk (w.setCell ⟨b, i, none⟩ v) b (cs.setIfInBounds i v) T :=
  heap_setCell_same w b i cs T v h
/-- A struct of two cells, stored anew. -/
theorem Blk.set2 {w : World} {b : Nat} {x0 x1 : Value} {T : TypeId} (h : Blk w b #[x0, x1] T) (v0 v1 : Value) : Blk ((w.setCell ⟨b, 0, none⟩ v0).setCell ⟨b, 1, none⟩ v1) b #[v0, v1] T := by
  have h2 := (h.set 0 v0).set 1 v1
  exact h2
theorem Blk.other2 {w : World} {b : Nat} {cs : Array Value} {T : TypeId} (h : Blk w b cs T) (g : Nat) (v0 v1 : Value) (hg : b ≠ g) : Blk ((w.setCell ⟨g, 0, none⟩ v0).setCell ⟨g, 1, none⟩ v1) b cs T :=
  (h.other g 0 v0 hg).other g 1 v1 hg
theorem below_set2 {B : Nat} {w w' : World} (hb : Below B w w') (g : Nat) (v0 v1 : Value) (hg : B ≤ g) : Below B w ((w'.setCell ⟨g, 0, none⟩ v0).setCell ⟨g, 1, none⟩ v1) :=
  (hb.setCell (p := ⟨g, 0, none⟩) hg v0).setCell (p := ⟨g, 1, none⟩) hg v1
section
variable {fn : Func} {p q r s : Tmp} {ty : TypeId} {w : World} {g : Nat} {T : TypeId} {cs : Array Value}
/-- Results of which the first lies in a block. -/
theorem res1 (h : fn.results = #[.cell p ty]) (tmps : Array Value) (hp : tmps.getD p undef = .pointer (some ⟨g, 0, none⟩)) (hg : Blk w g cs T) (fs : Array Field)
    (hu : Tryz.prog.underlying ty = some (.struct fs)) (hi : (Tryz.prog.info? ty).map (·.size) = some cs.size) :
    (results fn tmps).run Tryz.prog w = .ok (.agg cs) w := results_cell_row h tmps w g T cs (0, 0) _ hp hg hu rfl hi
theorem res2 (h : fn.results = #[.cell p ty, .tmp q]) (tmps : Array Value) (hp : tmps.getD p undef = .pointer (some ⟨g, 0, none⟩)) (hg : Blk w g cs T) (fs : Array Field)
    (hu : Tryz.prog.underlying ty = some (.struct fs)) (hi : (Tryz.prog.info? ty).map (·.size) = some cs.size) :
    (results fn tmps).run Tryz.prog w = .ok (.tuple #[.agg cs, tmps.getD q undef]) w := by
  have hp' : tmps[p]?.getD undef = .pointer (some ⟨g, 0, none⟩) := by simpa using hp
  simp [results, h, hp', asAddr, run_loadVar_row w g T ty cs (0, 0) _ hg hu rfl hi]
theorem res3 (h : fn.results = #[.cell p ty, .tmp q, .tmp r]) (tmps : Array Value) (hp : tmps.getD p undef = .pointer (some ⟨g, 0, none⟩)) (hg : Blk w g cs T) (fs : Array Field)
    (hu : Tryz.prog.underlying ty = some (.struct fs)) (hi : (Tryz.prog.info? ty).map (·.size) = some cs.size) :
    (results fn tmps).run Tryz.prog w = .ok (.tuple #[.agg cs, tmps.getD q undef, tmps.getD r undef]) w := by
  have hp' : tmps[p]?.getD undef = .pointer (some ⟨g, 0, none⟩) := by simpa using hp
  simp [results, h, hp', asAddr, run_loadVar_row w g T ty cs (0, 0) _ hg hu rfl hi]
theorem res4 (h : fn.results = #[.cell p ty, .tmp q, .tmp r, .tmp s]) (tmps : Array Value) (hp : tmps.getD p undef = .pointer (some ⟨g, 0, none⟩)) (hg : Blk w g cs T) (fs : Array Field)
    (hu : Tryz.prog.underlying ty = some (.struct fs)) (hi : (Tryz.prog.info? ty).map (·.size) = some cs.size) :
    (results fn tmps).run Tryz.prog w = .ok (.tuple #[.agg cs, tmps.getD q undef, tmps.getD r undef, tmps.getD s undef]) w := by
  have hp' : tmps[p]?.getD undef = .pointer (some ⟨g, 0, none⟩) := by simpa using hp
  simp [results, h, hp', asAddr, run_loadVar_row w g T ty cs (0, 0) _ hg hu rfl hi]
end
end Go.Proofs.YtadikbmbadldpaaGreatDoor
