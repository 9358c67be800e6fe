/- PortMoves: for every plan, port and data, Put, Write, Get and Drain answer as the document says, and the case stays as it was. -/
import Derived.Test.YtjlgnbjfgeppcaaDoorFrameK
import Derived.Test.YtjlgnbjfgeppcaaDoorFrameL
import Derived.Test.YtjlgnbjfgeppcaaDoorPortMoves
namespace Go.Proofs.YtjlgnbjfgeppcaaDoor
open Go Go.RowKit Go.ChangeShapes Go.WideShapes Go.ChangeAt
open Go.ChangeMaps (open_string shut_string)
set_option linter.unusedVariables false

theorem portMoves_door (os : Os) (args : Array Value) : laidMetH Tryd.prog Rows.portMovesRow.laid ((World.doorLaid Tryd.prog 401 os).forCall (fun _ _ => 0) ⟨#[], args, []⟩).memory :=
  laidMetH_of_parts3 (fuel := 8) (laidMet_of_run' 8 (by kernel_rfl) (by kernel_rfl)) (by kernel_rfl) (by kernel_rfl)

set_option maxRecDepth 100000 in
theorem portMoves_lifted (os : Os) (started : os.Started) (H : Type) (enc : TypeId × Value → H) :
    ReturnsInHanded {} Tryd.checked os 5 .any (fun w args => (Rows.portMovesSpec.pre enc Tryd.prog Tryd.f5 [] false w args ∧ laidMetH Tryd.prog Rows.portMovesRow.laid w) ∧ sizedMet enc Tryd.prog Tryd.f5 (OpenSpec.ofChange Rows.portMovesSpec) false w args) (Rows.portMovesSpec.post enc Tryd.prog Tryd.f5 false true false false) := by
  refine returnsInHanded_of_change_and (C := Tryd.checked) (X := fun w _ => laidMetH Tryd.prog Rows.portMovesRow.laid w) (fun _ _ _ hh h => h.of_heap hh) own started (by kernel_rfl) Tryd.func5
    (ChangeSpec.witness_shaped (enc := enc) (C := Tryd.checked) (os := os) (X := fun w _ => laidMetH Tryd.prog Rows.portMovesRow.laid w) false (World.doorLaid Tryd.prog 401 os) #[.agg #[.int .i64 0, .int .i64 0, .int .i64 0, .int .i64 0, .slice none 0 0, .int .i64 0, .string ⟨#[]⟩, .slice none 0 0, .slice none 0 0, .slice none 0 0]] 8 rfl (World.shaped_of_RefB (by kernel_rfl) (by kernel_rfl)) (by kernel_rfl) (by kernel_rfl) (by kernel_rfl) (portMoves_door os _)) ?_
  intro W base args ds gs before hval0 hW hcnd hsz0 hL _
  have hval : ∀ (j : Nat) t v, Tryd.f5.params[j]? = some t → args[j]? = some v → Value.okWide Tryd.prog W .any base t v := hval0
  have hW' := hW
  obtain ⟨p, q, hA0, hV, rfl, hfz, hnd⟩ := hW
  have hA : DataW.TrodAll enc Tryd.prog W 0 (fun _ => true) true Tryd.f5.params.toList args.toList ds p := hA0
  have hsz : (DataW.weightsEach Tryd.prog (Tryd.f5.params.toList ++ Rows.portMovesSpec.plain.varTypes Tryd.prog) (ds ++ gs)).all (· ≤ reachBytes) = true := hsz0
  rw [Tryd.params5] at hA hval hsz
  obtain ⟨v0, vs0, d0, ds0, p0, q0, hargs, rfl, rfl, h0, r0⟩ := trodAll_cons hA
  obtain ⟨rfl, rfl, rfl⟩ := trodAll_nil r0
  obtain rfl : args = #[v0] := by cases args; simp_all
  obtain ⟨rfl, rfl⟩ := trodVars_none hV
  have k0 := h0
  have lt0 : ∀ x ∈ p0, x.block < W.heap.size := by obtain ⟨m, hm⟩ := k0; exact DataW.trod_lt m _ _ _ hm
  obtain ⟨ck, cs, cd, cr, ca, cn, cc, cl, cg, cD, pa, pn, pc, qa, qn, qc, ma, mn, mc, rfl, w0, z0⟩ := open_case (hval 0 45 v0 rfl rfl) h0 hsz (j := 0) rfl rfl
  clear hA0 hval0 hsz0
  have hL1 : laidMet Tryd.prog (Rows.portMovesRow.laid.filter fun x => x.2.handleName?.isNone) W := hL.1
  obtain ⟨A, hE⟩ := errs_of_laid (S := [1, 2, 3, 4, 5, 6, 7, 8, 9, 10, 11, 12, 13, 14, 15, 16, 17, 18, 19, 20]) hL1 (by kernel_rfl) (by kernel_rfl)
  have hT : TypeVar W := typeVar_of_handles (hs := Rows.portMovesRow.laid.filter fun x => x.2.handleName?.isSome) hL.2 (List.mem_filter.2 ⟨by unfold Rows.portMovesRow; simp, by kernel_rfl⟩)
  refine (law_PortMoves A ck cs cd cr ca cn cc cl cg cD pa pn pc qa qn qc ma mn mc W w0 z0 hE hT).mono fun e W' ⟨he, bel⟩ => ?_
  subst he
  exact ⟨_, rfl, _, _, _, [], _, [], hW', trodAll_mk1 (shut_bool Tryd.underlying4 _), (trodAll_cons_mk (Below.trod laidOut (by kernel_rfl) (of_decide_eq_true (by kernel_rfl)) k0 bel lt0) trodAll_mk0), rfl, bel.frame _, fun h => by cases h⟩

theorem PortMoves_row : Rows.PortMovesSaid :=
  OpenClaim.holds_of_wide 5 Tryd.f5 rfl rfl rfl rfl rfl rfl rfl ⟨rfl, rfl, rfl, rfl, rfl⟩ rfl rfl rfl rfl rfl (by kernel_rfl) Tryd.func5 (by kernel_rfl)
    (of_decide_eq_true (by kernel_rfl)) (by unfold Func.isWrapper; rw [if_neg (of_decide_eq_false (by kernel_rfl))]; exact ⟨rfl, rfl⟩)
    (fun os started H enc _ => portMoves_lifted os started H enc)
theorem PortMoves_holds : Rows.PortMovesCardSaid :=
  Claim7.holds_tied_plain_at .later [] _ true _ true
    PortMoves_row (fun _ h => by cases h) (by kernel_rfl) (fun _ h => by cases h) portMoves_row_tie rfl ⟨rfl, rfl⟩ (by kernel_rfl) rfl
    (fun f fn hf hfn => by
      obtain rfl : f = 5 := Option.some.inj ((show Tryd.prog.funcNamed "ferry/ferrylaw07.PortMoves" = some 5 by kernel_rfl).symm.trans hf) |>.symm
      obtain rfl : fn = Tryd.f5 := (Option.some.inj (Tryd.func5.symm.trans hfn)).symm
      exact ⟨by kernel_rfl, fun j t ht => by
        rw [Tryd.params5] at ht
        rcases j with _ | j
        · cases (Option.some.inj (show some 45 = some t from ht)); exact (show Tryd.prog.wantsStandIn 45 = false by kernel_rfl)
        · simp at ht⟩)
    (by kernel_rfl)
#print axioms PortMoves_holds
end Go.Proofs.YtjlgnbjfgeppcaaDoor
