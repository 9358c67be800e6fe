
/- The program's machine: own, Run, Step, walked. -/
import Derived.Test.YtadikbmbadldpaaGreatDoorMachStep
import Derived.Deep.RegionLaw
import Derived.Deep.RegionHeld3
namespace Go.Proofs.YtadikbmbadldpaaGreatDoor
open Go Go.RowKit
set_option linter.unusedVariables false
set_option linter.unusedSimpArgs false

section
variable {ops : Array Oper} {o : Oper} {a : Act} {w : World} {K : Act → World → Prop} {Q : Exit → Act → World → Prop} {E : Prop}
theorem step_load_mid (hgd : o.guard = none) (ty : TypeId) (x : Operand) (ho : o.op = .load ty x) (b f : Nat) (hx : a.eval x = .pointer (some ⟨b, f, none⟩)) (cs : List Value) (d : TypeDesc) (hc : w.rangeAt b f cs)
    (hu : Tryz.prog.underlying ty = some d) (hd : d.isRow = true) (hi : (Tryz.prog.info? ty).map (·.size) = some cs.length) (h : K (a.put o.dst (.agg cs.toArray)) w) :
    if Region.wanted o (yielded ops a.tmps) = true then Oper.wp Tryz.prog o a w K Q else E := by
  have hw : Region.wanted o (yielded ops a.tmps) = true := by simp [Region.wanted, hgd]
  rw [if_pos hw]
  exact wp_load_mid ty x ho b f hx cs d hc hu hd hi h
theorem step_store_row (hgd : o.guard = none) (ty : TypeId) (x y : Operand) (ho : o.op = .store ty x y) (g : Nat) (cells : Array Value) (hx : a.eval x = .pointer (some ⟨g, 0, none⟩)) (hy : a.eval y = .agg cells)
    (t : TypeId) (old : Array Value) (hg : w.heap[g]? = some (.cells old t (0, 0))) (hi : (Tryz.prog.info? ty).map (·.size) = some cells.size) (hold : old.size = cells.size) (h1 : cells.all (·.oneCell') = true)
    (h : K (a.put o.dst undef) (w.setRow g cells)) : if Region.wanted o (yielded ops a.tmps) = true then Oper.wp Tryz.prog o a w K Q else E := by
  have hw : Region.wanted o (yielded ops a.tmps) = true := by simp [Region.wanted, hgd]
  rw [if_pos hw]
  exact wp_store_row ty x y ho g cells hx hy t old hg hi hold h1 h
end
theorem step_build {ops : Array Oper} {o : Oper} {a : Act} {w : World} {K : Act → World → Prop} {Q : Exit → Act → World → Prop} {E : Prop} (hgd : o.guard = none) (t : TypeId) (parts : Array (Nat × Operand)) (ho : o.op = .build t parts) (cs : Array Value)
    (hf : Tryz.prog.built t (parts.map fun (i, x) => (i, a.eval x)).toList = some cs) (h : K (a.put o.dst (.agg cs)) w) : if Region.wanted o (yielded ops a.tmps) = true then Oper.wp Tryz.prog o a w K Q else E := by
  have hw : Region.wanted o (yielded ops a.tmps) = true := by simp [Region.wanted, hgd]
  rw [if_pos hw]
  exact wp_build t parts ho (by rw [hf]; rfl) (by rw [hf]; exact h)
theorem built_mach (a : Option Addr) (n c : Nat) (q : ProcV) : Tryz.prog.built 55 [(0, .slice a n c), (1, .agg q.row.toArray)] = some (.slice a n c :: q.row).toArray := by kernel_rfl
theorem yieldsIf_build {ops : Array Oper} {S : World → Prop} {op : Oper} {a : Act} (hw : Region.wanted op (yielded ops a.tmps) = true) (t : TypeId) (parts : Array (Nat × Operand)) (ho : op.op = .build t parts) (cs : Array Value)
    (hf : Tryz.prog.built t (parts.map fun (i, x) => (i, a.eval x)).toList = some cs) : YieldsIf Tryz.prog ops S op (.agg cs) a :=
  .inl ⟨hw, fun w _ => by
    unfold execOp
    simp only [ho, Sem.run_bind, run_build w t _ cs hf, Result.andThen_ok, Sem.run_pure]⟩
theorem built_mach' (a : Option Addr) (n c : Nat) (q : ProcV) (act : Act) (h8 : act.eval (.tmp 8) = .slice a n c) (h9 : act.eval (.tmp 9) = .agg q.row.toArray) : Tryz.prog.built 55 ((#[(0, .tmp 8), (1, .tmp 9)] : Array (Nat × Operand)).map fun (i, x) => (i, act.eval x)).toList = some (.slice a n c :: q.row).toArray := by
  have e : ((#[(0, .tmp 8), (1, .tmp 9)] : Array (Nat × Operand)).map fun (i, x) => (i, act.eval x)).toList = [(0, act.eval (.tmp 8)), (1, act.eval (.tmp 9))] := by simp
  rw [e, h8, h9]
  exact built_mach a n c q
abbrev PrAt (w : World) (g : Nat) (q : ProcV) : Prop := Blk w g q.row.toArray 26
theorem prSize (q : ProcV) : (Tryz.prog.info? 26).map (·.size) = some q.row.length := by rw [ProcV.row_length]; kernel_rfl
theorem prSizeA (q : ProcV) : (Tryz.prog.info? 26).map (·.size) = some q.row.toArray.size := by rw [List.size_toArray]; exact prSize q
theorem row_all_one (q : ProcV) : q.row.toArray.all (·.oneCell') = true := by
  rw [List.all_toArray, List.all_eq_true]
  exact q.row_one
theorem Blk.range {w : World} {b : Nat} {cs : List Value} {T : TypeId} (h : Blk w b cs.toArray T) : w.rangeAt b 0 cs := fun j v hv => by
  rw [Nat.zero_add]
  exact h.cell j v (by simpa using hv)
set_option maxRecDepth 100000 in
set_option maxHeartbeats 8000000 in
theorem core_own (a : Option Addr) (n cap : Nat) (P : Nat → PageV) (q : ProcV) (w : World) (h : RdP w a n cap P) :
    Calls Tryz.prog 16 #[.slice a n cap, .agg q.row.toArray] w fun e w' => ∃ b v, e = .returned (.pointer (some ⟨b, 0, none⟩)) ∧ St ⟨w, []⟩ w' b v n P (q.put 0 0#32) := by
  obtain ⟨q0, hq0⟩ : ∃ q0, q0 = q.put 0 0#32 := ⟨_, rfl⟩
  obtain ⟨w1, ew1⟩ : ∃ w1, w1 = w.alloc (.cells q0.row.toArray 26) := ⟨_, rfl⟩
  obtain ⟨g, hg⟩ : ∃ g, g = w.heap.size := ⟨_, rfl⟩
  have hn := h.bound
  have b1 : Below w.heap.size w w1 := by rw [ew1]; exact below_alloc _ _
  have V1 : Kp (PrAt w1 g q0) := ⟨by rw [ew1, hg]; exact Blk.new _ _ _⟩
  have KC := Kp.mk (fun w' (hw : Below w.heap.size w w') => page_copy a n cap P w' (h.later hw))
  have B1 := Kp.mk b1
  obtain ⟨R, hR⟩ : ∃ R, R = q.row.toArray := ⟨_, rfl⟩
  have hR0 : R[0]? = some (.int .u32 ((q.r 0).toNat : Int)) := by rw [hR]; simpa using q.row_reg 0 (by decide)
  have hRS : R.setIfInBounds 0 (.int .u32 0) = q0.row.toArray := by
    rw [hR, hq0, ← q.row_put 0 0#32 (by decide)]
    simp
  rw [← hq0, ← hR]
  have EW1 := Kp.mk ew1
  have HG := Kp.mk hg
  have HRS := Kp.mk hRS
  clear h ew1 hg hR hq0 b1 hRS
  go_enter Tryz.func16, Tryz.ntmps16
  go_wp2_with fail
  rw [HRS.out, ← EW1.out, ← HG.out]
  clear hR0
  refine wp_region_held_drew (S := fun v => v.rangeAt g 0 q0.row) (by kernel_rfl) V1.out.drew.range (fun hHeld => ?_)
  refine wpAnyH_take (i := 0) (v := ?v0) rfl (by kernel_rfl) (by kernel_rfl) (by kernel_rfl) (fun _ _ _ h => h) (Or.inl ⟨by rfl, ?hy0⟩) (by assumption) ?rest0
  case hy0 => (intro w0 hSw; (try dsimp only at hSw); (try simp only [List.getElem_toArray, List.getElem_cons_zero, List.getElem_cons_succ]); go_simp) <;> (with_reducible rfl)
  try simp only [Act.put, List.getElem_toArray, List.getElem_cons_zero, List.getElem_cons_succ, List.setIfInBounds_toArray, List.set_cons_zero, List.set_cons_succ]
  refine wpAnyH_take (i := 2) rfl (by kernel_rfl) (by kernel_rfl) (by kernel_rfl) (fun _ _ _ h => h) (yieldsIf_load_mid (by rfl) 26 _ rfl g 0 rfl q0.row _ (fun _ h => h) Tryz.underlying26 rfl (prSize q0)) (by assumption) ?_
  try simp only [Act.put, List.getElem_toArray, List.getElem_cons_zero, List.getElem_cons_succ, List.setIfInBounds_toArray, List.set_cons_zero, List.set_cons_succ]
  refine wpAnyH_ready (rs := [1]) (by kernel_rfl) (by simp) ?_
  refine AllReadyH.cons rfl (fun K hK => ?_) AllReadyH.nil
  go_simp
  refine (KC.out _ (B1.out.drew)).mono ?_
  rintro e w3 ⟨v, rfl, ho, hb⟩
  obtain ⟨a3, cap3, rfl, _⟩ := ho.rd hn
  have HO := Kp.mk ho
  have B3 := Kp.mk (B1.out.drew.trans (hb.mono B1.out.drew.size))
  have V3 := Kp.mk (V1.out.drew.later hb)
  clear ho hb hHeld
  go_wp2_with fail
  refine hK.out _ _ V3.out.range (fun hHeld => ?_)
  clear hK K
  try simp only [Act.put, List.getElem_toArray, List.getElem_cons_zero, List.getElem_cons_succ, List.setIfInBounds_toArray, List.set_cons_zero, List.set_cons_succ]
  refine wpAnyH_take (i := 3) rfl (by kernel_rfl) (by kernel_rfl) (by kernel_rfl) (fun _ _ _ h => h) (yieldsIf_build (by rfl) 55 _ rfl _ (built_mach' _ _ _ q0 _ rfl rfl)) (by assumption) ?_
  try simp only [Act.put, List.getElem_toArray, List.getElem_cons_zero, List.getElem_cons_succ, List.setIfInBounds_toArray, List.set_cons_zero, List.set_cons_succ]
  refine wpAnyH_ready (rs := [4]) (by kernel_rfl) (by simp) ?_
  refine AllReadyH.cons rfl (fun K hK => ?_) AllReadyH.nil
  go_simp
  refine hK.out _ _ (V3.out.later (below_alloc _ _)).range (fun hHeld => ?_)
  clear hK K
  try simp only [Act.put, List.getElem_toArray, List.getElem_cons_zero, List.getElem_cons_succ, List.setIfInBounds_toArray, List.set_cons_zero, List.set_cons_succ]
  refine wpAnyH_take (i := 5) (v := ?v5) rfl (by kernel_rfl) (by kernel_rfl) (by kernel_rfl) (fun _ _ _ h => h) (Or.inl ⟨by rfl, ?hy5⟩) (by assumption) ?rest5
  case hy5 => (intro w0 hSw; (try dsimp only at hSw); (try simp only [List.getElem_toArray, List.getElem_cons_zero, List.getElem_cons_succ]); go_simp) <;> (with_reducible rfl)
  try simp only [Act.put, List.getElem_toArray, List.getElem_cons_zero, List.getElem_cons_succ, List.setIfInBounds_toArray, List.set_cons_zero, List.set_cons_succ]
  refine wpAnyH_done (by kernel_rfl) ?_ _
  clear hHeld
  go_wp2_with fail
  go_ret
  have b3 := B3.out.size
  exact ⟨w3.heap.size, _, rfl, ⟨Blk.new w3 _ _, (HO.out.mono B1.out.drew.size).later (below_alloc _ _), ownP_far HO.out, b3, B3.out.trans ((below_alloc _ _).mono b3), fun c hc => by cases hc⟩⟩
end Go.Proofs.YtadikbmbadldpaaGreatDoor
