
/- Equality of pages and of their bytes, as the program asks it. -/
import Derived.Test.YtadikbmbadldpaaGreatDoorPageBase
import Derived.DeepKeys
import Derived.Laws.StructEq
namespace Go.Proofs.YtadikbmbadldpaaGreatDoor
open Go Go.RowKit
set_option linter.unusedVariables false

/-- The same bytes? -/
def dataEq (f g : Nat → BitVec 8) : Bool := decide (∀ i ∈ List.range 64, f i = g i)
theorem dataEq_iff (f g : Nat → BitVec 8) : dataEq f g = true ↔ ∀ i, i < 64 → f i = g i := by simp [dataEq]
theorem dataEq_refl (f : Nat → BitVec 8) : dataEq f f = true := (dataEq_iff f f).2 fun _ _ => rfl
/-- The same pages, marks too? -/
def PageV.same (p q : PageV) : Bool := decide (p.rights = q.rights) && (decide (p.dirty = q.dirty) && dataEq p.data q.data)
theorem PageV.same_iff (p q : PageV) : p.same q = true ↔ p.row = q.row := by
  simp only [PageV.same, Bool.and_eq_true, decide_eq_true_eq, dataEq_iff]
  constructor
  · rintro ⟨h1, h2, h3⟩
    simp only [PageV.row, h1, h2, dataL_congr _ _ h3]
  · intro h
    have h1 := List.cons.inj h
    have h2 := List.cons.inj h1.2
    refine ⟨by simpa using h1.1, by simpa using h2.1, fun i hi => ?_⟩
    have e1 := dataL_get p.data i hi
    have e2 := dataL_get q.data i hi
    rw [h2.2, e2] at e1
    simp only [Option.some.injEq, Value.int.injEq, true_and] at e1
    exact (BitVec.eq_of_toNat_eq (by omega)).symm
/-- The same rights and bytes? -/
def PageV.like (p q : PageV) : Bool := decide (p.rights = q.rights) && dataEq p.data q.data
theorem plainU8 : Tryz.prog.plainKey 5 = true := by kernel_rfl
theorem cellsU8' : Tryz.prog.cellsOf 5 = 1 := by kernel_rfl
theorem eqItems_data (d : Nat) (f g : Nat → BitVec 8) (w : World) : ∀ is : List Nat, (∀ i ∈ is, i < 64) →
    (Op.eqItems (d + 1) 5 1 (dataL f).toArray (dataL g).toArray is).run Tryz.prog w = .ok (decide (∀ i ∈ is, f i = g i)) w
  | [], _ => by simp [Op.eqItems]
  | i :: is, h => by
    have hi : i < 64 := h i (by simp)
    have p1 : (part 5 (dataL f).toArray (i * 1)).run Tryz.prog w = .ok (.int .u8 ((f i).toNat : Int)) w :=
      run_part_plain w plainU8 (by rw [Nat.mul_one]; simpa using dataL_get f i hi)
    have p2 : (part 5 (dataL g).toArray (i * 1)).run Tryz.prog w = .ok (.int .u8 ((g i).toNat : Int)) w :=
      run_part_plain w plainU8 (by rw [Nat.mul_one]; simpa using dataL_get g i hi)
    have p3 := run_equalIn_int (P := Tryz.prog) w d 5 .u8 .u8 ((f i).toNat : Int) ((g i).toNat : Int) Tryz.underlying5
    have ih := eqItems_data d f g w is (fun j hj => h j (by simp [hj]))
    have e : (((f i).toNat : Int) == ((g i).toNat : Int)) = decide (f i = g i) := by
      rw [Bool.eq_iff_iff]
      simp only [beq_iff_eq, decide_eq_true_eq]
      exact ⟨fun h => BitVec.eq_of_toNat_eq (by omega), fun h => by rw [h]⟩
    simp only [Op.eqItems, Sem.run_bind, p1, p2, p3, Result.andThen_ok, e]
    by_cases hc : f i = g i
    · simp [hc, ih]
    · simp [hc]
theorem data_eq (d : Nat) (f g : Nat → BitVec 8) (w : World) : (Op.equalIn (d + 2) 45 (.agg (dataL f).toArray) (.agg (dataL g).toArray)).run Tryz.prog w = .ok (dataEq f g) w := by
  cases hi : Tryz.prog.info? 5 with
  | none => exact absurd hi (by have h : (Tryz.prog.info? 5).isSome = true := by kernel_rfl
                                intro h'; rw [h'] at h; cases h)
  | some i =>
    rw [run_equalIn_array w (d + 1) _ _ Tryz.underlying45 hi, cellsU8', eqItems_data d f g w (List.range 64) (fun i hi => List.mem_range.1 hi)]
    rfl
theorem guardData : Tryz.prog.eqGuardType Tryz.prog.depth 45 = false := by kernel_rfl
theorem guardPage : Tryz.prog.eqGuardType Tryz.prog.depth 47 = false := by kernel_rfl
theorem fieldsPage : (Tryz.prog.fieldsOf 47).toList.map (fun f => (f.type, f.offset, f.name == "_")) = [(3, 0, false), (4, 1, false), (45, 2, false)] := by kernel_rfl
theorem undPage : Tryz.prog.underlying 47 = some (.struct (Tryz.prog.fieldsOf 47)) := by kernel_rfl
theorem heldPage : Tryz.prog.stoodInHeld 47 = false := by kernel_rfl
theorem plainInt : Tryz.prog.plainKey 3 = true := by kernel_rfl
theorem plainBool : Tryz.prog.plainKey 4 = true := by kernel_rfl
theorem infoData : (Tryz.prog.info? 45).map (·.size) = some 64 := by kernel_rfl
theorem part_data (p : PageV) (w : World) : (part 45 p.row.toArray 2).run Tryz.prog w = .ok (.agg (dataL p.data).toArray) w := by
  cases hi : Tryz.prog.info? 45 with
  | none => exact absurd infoData (by rw [hi]; simp)
  | some i =>
    have hs : i.size = 64 := by have := infoData; rw [hi] at this; simpa using this
    have e : List.take i.size (List.drop 2 p.row) = dataL p.data := by
      rw [hs]
      simp only [PageV.row, List.drop_succ_cons, List.drop_zero]
      exact List.take_of_length_le (by rw [dataL_length]; omega)
    simp [part, isAgg, run_underlying Tryz.underlying45, sizeOf, typeInfo, hi, e]
theorem eqFields_page (d : Nat) (p q : PageV) (w : World) (fs : List Field) (h : fs.map (fun f => (f.type, f.offset, f.name == "_")) = [(3, 0, false), (4, 1, false), (45, 2, false)]) :
    (Op.eqFields (d + 2) p.row.toArray q.row.toArray fs).run Tryz.prog w = .ok (p.same q) w := by
  obtain ⟨f1, f2, f3, rfl⟩ : ∃ f1 f2 f3, fs = [f1, f2, f3] := by
    match fs, (show fs.length = 3 by have := congrArg List.length h; simpa using this) with
    | [f1, f2, f3], _ => exact ⟨f1, f2, f3, rfl⟩
  simp only [List.map_cons, List.map_nil, List.cons.injEq, Prod.mk.injEq, and_true] at h
  obtain ⟨⟨t1, o1, n1⟩, ⟨t2, o2, n2⟩, ⟨t3, o3, n3⟩⟩ := h
  have n1' : f1.name ≠ "_" := by intro e; rw [e] at n1; simp at n1
  have n2' : f2.name ≠ "_" := by intro e; rw [e] at n2; simp at n2
  have n3' : f3.name ≠ "_" := by intro e; rw [e] at n3; simp at n3
  have a1 : ∀ p : PageV, (part 3 p.row.toArray 0).run Tryz.prog w = .ok (.int .i64 p.rights) w := fun p => run_part_plain w plainInt rfl
  have a2 : ∀ p : PageV, (part 4 p.row.toArray 1).run Tryz.prog w = .ok (.bool p.dirty) w := fun p => run_part_plain w plainBool rfl
  have b1 : (Op.equalIn (d + 2) 3 (.int .i64 p.rights) (.int .i64 q.rights)).run Tryz.prog w = .ok (p.rights == q.rights) w := run_equalIn_int (P := Tryz.prog) w (d + 1) 3 .i64 .i64 p.rights q.rights Tryz.underlying3
  have b2 : (Op.equalIn (d + 2) 4 (.bool p.dirty) (.bool q.dirty)).run Tryz.prog w = .ok (p.dirty == q.dirty) w := run_equalIn_bool' (P := Tryz.prog) w (d + 1) 4 p.dirty q.dirty Tryz.underlying4
  have b3 := data_eq d p.data q.data w
  have c1 : (p.rights == q.rights) = decide (p.rights = q.rights) := by rw [Bool.eq_iff_iff]; simp
  have c2 : (p.dirty == q.dirty) = decide (p.dirty = q.dirty) := by rw [Bool.eq_iff_iff]; simp
  rw [c1] at b1
  rw [c2] at b2
  unfold PageV.same
  generalize decide (p.rights = q.rights) = r1 at b1 ⊢
  generalize decide (p.dirty = q.dirty) = r2 at b2 ⊢
  generalize dataEq p.data q.data = r3 at b3 ⊢
  simp only [Op.eqFields, t1, t2, t3, o1, o2, o3, n1', n2', n3', ne_eq, not_false_eq_true, if_true, Sem.run_bind, a1, Result.andThen_ok, b1]
  cases r1
  · simp
  · simp only [Bool.not_true, Bool.false_eq_true, if_false, Sem.run_bind, a2, Result.andThen_ok, b2]
    cases r2
    · simp
    · simp only [Bool.not_true, Bool.false_eq_true, if_false, Sem.run_bind, part_data, Result.andThen_ok, b3]
      cases r3 <;> simp
theorem page_eq (d : Nat) (p q : PageV) (w : World) : (Op.equalIn (d + 3) 47 (.agg p.row.toArray) (.agg q.row.toArray)).run Tryz.prog w = .ok (p.same q) w := by
  rw [run_equalIn_struct w (d + 2) 47 _ _ undPage heldPage]
  exact eqFields_page d p q w _ fieldsPage
end Go.Proofs.YtadikbmbadldpaaGreatDoor
