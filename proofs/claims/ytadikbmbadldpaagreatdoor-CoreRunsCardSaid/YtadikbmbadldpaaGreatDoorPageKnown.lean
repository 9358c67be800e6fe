
/- The statements' known: a store and a load, walked. -/
import Derived.Test.YtadikbmbadldpaaGreatDoorPageStore
import Derived.Test.YtadikbmbadldpaaGreatDoorPageStore
namespace Go.Proofs.YtadikbmbadldpaaGreatDoor
open Go Go.RowKit
set_option linter.unusedVariables false

/-- Two pages as a slice literal. -/
theorem build_two {ops : Array Oper} {rest : List Oper} {o : Oper} {a : Act} {w : World} {Q : Exit → Act → World → Prop} (hg : o.guard = none) (x y : Operand) (ho : o.op = .buildSlice 22 2 #[(0, x), (1, y)])
    (cs ds : List Value) (hx : a.eval x = .agg cs.toArray) (hy : a.eval y = .agg ds.toArray) (hs : cs.length = 66) (ht : ds.length = 66)
    (h : wpList Tryz.prog ops Q rest (a.put o.dst (.slice (some ⟨w.heap.size, 0, none⟩) 2 2)) (w.alloc (.cells (cs ++ ds).toArray 47))) : wpList Tryz.prog ops Q (o :: rest) a w := by
  obtain ⟨i, hi, hz0, hz1, hz2⟩ := info_parts infoPage
  refine wpList_buildSlice hg 22 47 2 #[(0, x), (1, y)] ho (cs ++ ds).toArray i _ Tryz.underlying22 hi hz0 (by rw [hz1]; decide) (by rw [hz1]; decide) ?_ h
  rw [hz1]
  have e : ∀ Z : Array Value, 2 * 66 = Z.size → Instr.fill (fun i => some (i * 66, 66)) Z [(0, Value.agg cs.toArray), (1, Value.agg ds.toArray)] = some (cs ++ ds).toArray := fun Z hZ => by
    have e := Great.fill_whole (s := 66) (by decide) [Value.agg cs.toArray, Value.agg ds.toArray] Z (fun v hv => by
      simp only [List.mem_cons, List.not_mem_nil, or_false] at hv
      rcases hv with rfl | rfl
      · simpa [Value.cells] using hs
      · simpa [Value.cells] using ht) hZ
    simpa [Value.cells] using e
  have e2 := e ((Array.range (2 * 66)).map ((Value.agg (PageV.row ⟨0, false, fun _ => 0#8⟩).toArray).cells[· % (Value.agg (PageV.row ⟨0, false, fun _ => 0#8⟩).toArray).cells.size]!)) (by rw [Array.size_map, Array.size_range])
  rw [← hx, ← hy] at e2
  have e3 : (Array.map (fun x => match x with | (i, x) => (i, a.eval x)) #[(0, x), (1, y)]).toList = [(0, a.eval x), (1, a.eval y)] := by simp
  rw [e3]
  exact e2
abbrev pg5 : PageV := ⟨5, false, fun _ => 0#8⟩
abbrev pg3 : PageV := ⟨3, false, fun _ => 0#8⟩
theorem built5 : Tryz.prog.built 47 [(0, .int .i64 5)] = some pg5.row.toArray := by kernel_rfl
theorem built3 : Tryz.prog.built 47 [(0, .int .i64 3)] = some pg3.row.toArray := by kernel_rfl
def twoP : Nat → PageV := fun i => bif decide (i = 0) then pg5 else pg3
theorem two_rows : rowsL twoP 2 = pg5.row ++ pg3.row := by
  show ([] ++ (twoP 0).row) ++ (twoP 1).row = _
  rfl
theorem two_rd (w : World) : OwnP (w.alloc (.cells (pg5.row ++ pg3.row).toArray 47)) w.heap.size (.slice (some ⟨w.heap.size, 0, none⟩) 2 2) 2 twoP := by
  unfold OwnP
  rw [two_rows]
  have := World.ownsRow_lit w (pg5.row ++ pg3.row).toArray 2 (base := w.heap.size) (e := 47) (size := 66) (Nat.le_refl _) (by decide) (by rw [List.size_toArray, List.length_append, PageV.row_length, PageV.row_length])
  simpa using this
theorem two_look : lookF twoP 2 64 2 1 = 0 := by decide +kernel
theorem two_load : loadV (Pg.store twoP 64 2 74565) 2 64 4 0 = 591724544 := by decide +kernel
theorem two_look2 : lookF (Pg.store twoP 64 2 74565) 2 64 4 0 = 0 := by decide +kernel
theorem two_dirty : (Pg.store twoP 64 2 74565 1).dirty = true := by decide +kernel
end Go.Proofs.YtadikbmbadldpaaGreatDoor
