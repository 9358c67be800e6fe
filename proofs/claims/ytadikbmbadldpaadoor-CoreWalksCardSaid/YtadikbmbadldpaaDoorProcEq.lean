
/- A process is equal to itself, as the program asks it. -/
import Derived.Test.YtadikbmbadldpaaDoorCoreAwake
import Derived.DeepKeys
import Derived.Laws.StructEq
namespace Go.Proofs.YtadikbmbadldpaaDoor
open Go Go.RowKit
set_option linter.unusedVariables false
set_option linter.unusedSimpArgs false

theorem plainU32 : Tryd.prog.plainKey 23 = true := by kernel_rfl
theorem cellsU32' : Tryd.prog.cellsOf 23 = 1 := by kernel_rfl
theorem eqItems_regs (d : Nat) (f : Nat → BitVec 32) (w : World) : ∀ is : List Nat, (∀ i ∈ is, i < 16) →
    (Op.eqItems (d + 1) 23 1 (regsL f).toArray (regsL f).toArray is).run Tryd.prog w = .ok true w
  | [], _ => by simp [Op.eqItems]
  | i :: is, h => by
    have hi : i < 16 := h i (by simp)
    have p1 : (part 23 (regsL f).toArray (i * 1)).run Tryd.prog w = .ok (.int .u32 ((f i).toNat : Int)) w :=
      run_part_plain w plainU32 (by rw [Nat.mul_one]; simpa using regsL_get f i hi)
    have p3 := run_equalIn_int (P := Tryd.prog) w d 23 .u32 .u32 ((f i).toNat : Int) ((f i).toNat : Int) Tryd.underlying23
    have ih := eqItems_regs d f w is (fun j hj => h j (by simp [hj]))
    have e : (((f i).toNat : Int) == ((f i).toNat : Int)) = true := by simp
    simp only [Op.eqItems, Sem.run_bind, p1, p3, Result.andThen_ok, e]
    simp [ih]
theorem regs_eq (d : Nat) (f : Nat → BitVec 32) (w : World) : (Op.equalIn (d + 2) 30 (.agg (regsL f).toArray) (.agg (regsL f).toArray)).run Tryd.prog w = .ok true w := by
  cases hi : Tryd.prog.info? 23 with
  | none => exact absurd hi (by have h : (Tryd.prog.info? 23).isSome = true := by kernel_rfl
                                intro h'; rw [h'] at h; cases h)
  | some i =>
    rw [run_equalIn_array w (d + 1) _ _ Tryd.underlying30 hi, cellsU32', eqItems_regs d f w (List.range 16) (fun i hi => List.mem_range.1 hi)]
theorem guardProc : Tryd.prog.eqGuardType Tryd.prog.depth 32 = false := by kernel_rfl
theorem fieldsProc : (Tryd.prog.fieldsOf 32).toList.map (fun f => (f.type, f.offset, f.name == "_")) = [(30, 0, false), (23, 16, false), (3, 17, false), (3, 18, false), (3, 19, false), (3, 20, false)] := by kernel_rfl
theorem undProc : Tryd.prog.underlying 32 = some (.struct (Tryd.prog.fieldsOf 32)) := by kernel_rfl
theorem heldProc : Tryd.prog.stoodInHeld 32 = false := by kernel_rfl
theorem plainIntP : Tryd.prog.plainKey 3 = true := by kernel_rfl
theorem infoRegs : (Tryd.prog.info? 30).map (·.size) = some 16 := by kernel_rfl
theorem part_regs (q : ProcV) (w : World) : (part 30 q.row.toArray 0).run Tryd.prog w = .ok (.agg (regsL q.r).toArray) w := by
  cases hi : Tryd.prog.info? 30 with
  | none => exact absurd infoRegs (by rw [hi]; simp)
  | some i =>
    have hs : i.size = 16 := by have := infoRegs; rw [hi] at this; simpa using this
    have e : List.take i.size (List.drop 0 q.row) = regsL q.r := by
      rw [hs, List.drop_zero]
      unfold ProcV.row
      rw [List.take_append_of_le_length (by rw [regsL_length]; omega), List.take_of_length_le (by rw [regsL_length]; omega)]
    simp [part, isAgg, run_underlying Tryd.underlying30, sizeOf, typeInfo, hi]
    simpa using e
theorem row_tail (q : ProcV) (k : Nat) (v : Value) (h : [Value.int .u32 (q.pc.toNat : Int), .int .i64 q.st, .int .i64 q.pr, .int .i64 q.wa, .int .i64 q.ob][k]? = some v) : q.row[16 + k]? = some v := by
  unfold ProcV.row
  rw [List.getElem?_append_right (by rw [regsL_length]; omega), regsL_length, Nat.add_sub_cancel_left]
  exact h
theorem eqFields_proc (d : Nat) (q : ProcV) (w : World) (fs : List Field) (h : fs.map (fun f => (f.type, f.offset, f.name == "_")) = [(30, 0, false), (23, 16, false), (3, 17, false), (3, 18, false), (3, 19, false), (3, 20, false)]) :
    (Op.eqFields (d + 2) q.row.toArray q.row.toArray fs).run Tryd.prog w = .ok true w := by
  obtain ⟨f1, f2, f3, f4, f5, f6, rfl⟩ : ∃ f1 f2 f3 f4 f5 f6, fs = [f1, f2, f3, f4, f5, f6] := by
    match fs, (show fs.length = 6 by have := congrArg List.length h; simpa using this) with
    | [f1, f2, f3, f4, f5, f6], _ => exact ⟨f1, f2, f3, f4, f5, f6, rfl⟩
  simp only [List.map_cons, List.map_nil, List.cons.injEq, Prod.mk.injEq, and_true] at h
  obtain ⟨⟨t1, o1, n1⟩, ⟨t2, o2, n2⟩, ⟨t3, o3, n3⟩, ⟨t4, o4, n4⟩, ⟨t5, o5, n5⟩, ⟨t6, o6, n6⟩⟩ := h
  have n1' : f1.name ≠ "_" := by intro e; rw [e] at n1; simp at n1
  have n2' : f2.name ≠ "_" := by intro e; rw [e] at n2; simp at n2
  have n3' : f3.name ≠ "_" := by intro e; rw [e] at n3; simp at n3
  have n4' : f4.name ≠ "_" := by intro e; rw [e] at n4; simp at n4
  have n5' : f5.name ≠ "_" := by intro e; rw [e] at n5; simp at n5
  have n6' : f6.name ≠ "_" := by intro e; rw [e] at n6; simp at n6
  have a2 : (part 23 q.row.toArray 16).run Tryd.prog w = .ok (.int .u32 (q.pc.toNat : Int)) w := run_part_plain w plainU32 (by simpa using row_tail q 0 _ rfl)
  have a3 : (part 3 q.row.toArray 17).run Tryd.prog w = .ok (.int .i64 q.st) w := run_part_plain w plainIntP (by simpa using row_tail q 1 _ rfl)
  have a4 : (part 3 q.row.toArray 18).run Tryd.prog w = .ok (.int .i64 q.pr) w := run_part_plain w plainIntP (by simpa using row_tail q 2 _ rfl)
  have a5 : (part 3 q.row.toArray 19).run Tryd.prog w = .ok (.int .i64 q.wa) w := run_part_plain w plainIntP (by simpa using row_tail q 3 _ rfl)
  have a6 : (part 3 q.row.toArray 20).run Tryd.prog w = .ok (.int .i64 q.ob) w := run_part_plain w plainIntP (by simpa using row_tail q 4 _ rfl)
  have b1 := regs_eq d q.r w
  have b2 := run_equalIn_int (P := Tryd.prog) w (d + 1) 23 .u32 .u32 (q.pc.toNat : Int) (q.pc.toNat : Int) Tryd.underlying23
  have b : ∀ x : Int, (Op.equalIn (d + 2) 3 (.int .i64 x) (.int .i64 x)).run Tryd.prog w = .ok (x == x) w := fun x => run_equalIn_int (P := Tryd.prog) w (d + 1) 3 .i64 .i64 x x Tryd.underlying3
  simp only [Op.eqFields, t1, t2, t3, t4, t5, t6, o1, o2, o3, o4, o5, o6, n1', n2', n3', n4', n5', n6', ne_eq, not_false_eq_true, if_true, Sem.run_bind, part_regs, a2, a3, a4, a5, a6, Result.andThen_ok, b1, b2, b, beq_self_eq_true, Bool.not_true, Bool.false_eq_true, if_false]
  try simp
theorem proc_eq (d : Nat) (q : ProcV) (w : World) : (Op.equalIn (d + 3) 32 (.agg q.row.toArray) (.agg q.row.toArray)).run Tryd.prog w = .ok true w := by
  rw [run_equalIn_struct w (d + 2) 32 _ _ undProc heldProc]
  exact eqFields_proc d q w _ fieldsProc
theorem set_r0 {q : ProcV} (h : q.r 0 = 0#32) (k : Nat) (x : BitVec 32) : (q.set k x).r 0 = 0#32 := by
  unfold ProcV.set
  by_cases hk : k = 0
  · rw [if_pos hk]; exact h
  · rw [if_neg hk]
    show (if (0 : Nat) = k then x else q.r 0) = 0#32
    rw [if_neg (fun e => hk e.symm)]
    exact h
theorem cmp_r0 {q : ProcV} (h : q.r 0 = 0#32) (i : InsV) : (cmpV q i).2.r 0 = 0#32 := by
  unfold cmpV
  dsimp only
  repeat' (first | exact set_r0 h _ _ | exact h | split)
theorem mem_r0 {P : Nat → PageV} {n : Nat} {q : ProcV} (h : q.r 0 = 0#32) (i : InsV) : (memV P n q i).2.2.r 0 = 0#32 := by
  unfold memV
  dsimp only
  split
  · exact h
  · dsimp only
    split
    · exact set_r0 h _ _
    · exact h
theorem jmp_r0 {q : ProcV} (h : q.r 0 = 0#32) (i : InsV) (nx : BitVec 32) : (jmpV q i nx).2.r 0 = 0#32 := by
  unfold jmpV
  split
  · exact set_r0 h _ _
  · split
    · exact h
    · exact h
theorem step_r0 {n : Nat} {P : Nat → PageV} {q : ProcV} (h : q.r 0 = 0#32) : (stepV n P q).q.r 0 = 0#32 := by
  unfold stepV
  dsimp only
  split
  · exact h
  · split
    · exact h
    · split
      · exact jmp_r0 h _ _
      · split
        · split
          · exact mem_r0 h _
          · exact mem_r0 h _
        · split
          · exact cmp_r0 h _
          · exact cmp_r0 h _
theorem it_r0 {n : Nat} {P : Nat → PageV} {q : ProcV} (h : q.r 0 = 0#32) (i : Nat) : (itV n P q i).q.r 0 = 0#32 := by
  induction i with
  | zero => exact h
  | succ i ih =>
    rw [itV]
    split
    · exact step_r0 ih
    · exact ih
theorem put_r0 (q : ProcV) : (q.put 0 0#32).r 0 = 0#32 := rfl
theorem put_same {q : ProcV} (h : q.r 0 = 0#32) : q.put 0 0#32 = q := by
  unfold ProcV.put
  have : (fun i => if i = 0 then 0#32 else q.r i) = q.r := by
    funext i
    by_cases hi : i = 0
    · rw [if_pos hi, hi, h]
    · rw [if_neg hi]
  rw [this]
theorem it_add {n : Nat} {P : Nat → PageV} {q : ProcV} {i : Nat} (h : (itV n P q i).k = 0) (j : Nat) :
    itV n P q (i + j) = ⟨(itV n (itV n P q i).P (itV n P q i).q j).P, (itV n (itV n P q i).P (itV n P q i).q j).q, (itV n (itV n P q i).P (itV n P q i).q j).k, (itV n (itV n P q i).P (itV n P q i).q j).c, i + (itV n (itV n P q i).P (itV n P q i).q j).s⟩ ∨ j = 0 := by
  induction j with
  | zero => exact .inr rfl
  | succ j ih =>
    left
    have hs := itV_steps h
    by_cases hj : j = 0
    · subst hj
      rw [Nat.zero_add, itV_next h]
      have e : itV n (itV n P q i).P (itV n P q i).q 1 = _ := itV_next (i := 0) rfl
      rw [e, hs]
      rfl
    · rcases ih with ih | ih
      · rw [← Nat.add_assoc]
        by_cases hk : (itV n (itV n P q i).P (itV n P q i).q j).k = 0
        · rw [itV_next (by rw [ih]; exact hk), itV_next hk, ih]
          rfl
        · rw [itV_stop (i := i + j) (by rw [ih]; exact hk) (i + j + 1) (by omega), itV_stop hk (j + 1) (by omega), ih]
      · exact absurd ih hj
/-- The steps taken; nothing taken. -/
theorem it_zero_k {n : Nat} {P : Nat → PageV} {q : ProcV} : itV n P q 0 = ⟨P, q, 0, 0, 0⟩ := rfl
theorem step_c0 {n : Nat} {P : Nat → PageV} {q : ProcV} (h : (stepV n P q).k = 0) : (stepV n P q).c = 0 := by
  unfold stepV at h ⊢
  dsimp only at h ⊢
  split at h
  · cases h
  · rename_i h1
    rw [if_neg h1]
    split at h
    · cases h
    · rename_i h2
      rw [if_neg h2]
      split at h
      · rename_i h3; rw [if_pos h3]
      · rename_i h3
        rw [if_neg h3]
        split at h
        · rename_i h4
          rw [if_pos h4]
          split at h
          · cases h
          · rename_i h5; rw [if_neg h5]
        · rename_i h4
          rw [if_neg h4]
          split at h
          · cases h
          · rename_i h5; rw [if_neg h5]
theorem it_c0 {n : Nat} {P : Nat → PageV} {q : ProcV} {i : Nat} (h : (itV n P q i).k = 0) : (itV n P q i).c = 0 := by
  cases i with
  | zero => rfl
  | succ i =>
    by_cases h0 : (itV n P q i).k = 0
    · rw [itV_next h0] at h ⊢
      exact step_c0 h
    · rw [itV, if_neg h0] at h
      exact absurd h h0
/-- A run for i + j steps behind one for i. -/
theorem it_split {n : Nat} {P : Nat → PageV} {q : ProcV} (h0 : q.r 0 = 0#32) {i : Nat} (h : (itV n P q i).k = 0) (j : Nat) (z : RunV) (hz : z = itV n (itV n P q i).P ((itV n P q i).q.put 0 0#32) j) :
    (itV n P q (i + j)).P = z.P ∧ (itV n P q (i + j)).q = z.q ∧ (itV n P q (i + j)).k = z.k ∧ (itV n P q (i + j)).c = z.c ∧ (itV n P q (i + j)).s = i + z.s := by
  rw [put_same (it_r0 h0 i)] at hz
  subst hz
  rcases it_add h j with h1 | h1
  · rw [h1]; exact ⟨rfl, rfl, rfl, rfl, rfl⟩
  · subst h1
    rw [Nat.add_zero]
    exact ⟨rfl, rfl, h, it_c0 h, itV_steps h⟩
end Go.Proofs.YtadikbmbadldpaaDoor
