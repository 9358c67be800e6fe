/- PortFrames: for every plans, ports and messages, Arrive and Emit answer as the document says, and the case stays as it was. (Where what it reads is of bulk at most 1048576.) -/
import Derived.Test.YtjlgnbjfgeppcaaDoorFrameT
import Derived.Test.YtjlgnbjfgeppcaaDoorFrameL
import Derived.Test.YtjlgnbjfgeppcaaDoorPortFrames
import Derived.Deep.DeepHandedRow
import Derived.Deep.DeepWitnessRowRef
namespace Go.Proofs.YtjlgnbjfgeppcaaDoor
open Go Go.RowKit Go.ChangeShapes Go.WideShapes Go.ChangeAt
open Go.ChangeMaps (open_string shut_string)
set_option linter.unusedVariables false

theorem portFrames_door (os : Os) (args : Array Value) : laidMetH Tryd.prog Rows.portFramesUptoRow.laid ((World.doorLaid Tryd.prog 401 os).forCall (fun _ _ => 0) ⟨#[], args, []⟩).memory :=
  laidMetH_of_parts3 (fuel := 8) (laidMet_of_run' 8 (by kernel_rfl) (by kernel_rfl)) (by kernel_rfl) (by kernel_rfl)
theorem portFrames_reads (os : Os) {H : Type} (enc : TypeId × Value → H) : ∃ places, DataW.whole enc Tryd.prog ((World.doorLaid Tryd.prog 401 os).forCall (fun _ _ => 0) ⟨#[], #[.agg #[.int .i64 0, .int .i64 0, .int .i64 0, .int .i64 0, .slice none 0 0, .int .i64 0, .string ⟨#[]⟩, .slice none 0 0, .slice none 0 0, .slice none 0 0]], []⟩).memory Tryd.f7.params.toList Rows.portFramesSpec.vars false (#[.agg #[.int .i64 0, .int .i64 0, .int .i64 0, .int .i64 0, .slice none 0 0, .int .i64 0, .string ⟨#[]⟩, .slice none 0 0, .slice none 0 0, .slice none 0 0]] : Array Value).toList 8 = some ([.agg [.agg [.lit (.int .i64 0), .lit (.int .i64 0), .lit (.int .i64 0), .lit (.int .i64 0)], .agg [.nil, .lit (.int .i64 0)], .lit (.string []), .nil, .nil, .nil]], [], places) :=
  ⟨[], by kernel_rfl⟩

set_option maxRecDepth 100000 in
theorem portFrames_lifted (os : Os) (started : os.Started) (H : Type) (enc : TypeId × Value → H) (FF : Stop.Interp) :
    ReturnsInHanded {} Tryd.checked os 7 .any ((Rows.OpenSpec.upto Rows.portFramesSpec).preRow enc Tryd.prog Tryd.f7 Rows.portFramesUptoRow.domain false Rows.portFramesUptoRow.laid) (((Rows.OpenSpec.upto Rows.portFramesSpec).at FF).post enc Tryd.prog Tryd.f7 false true false false) := by
  obtain ⟨places, hx⟩ := portFrames_reads os enc
  refine returnsInHanded_of_row (C := Tryd.checked) (s := Rows.OpenSpec.upto Rows.portFramesSpec) own started (by kernel_rfl) Tryd.func7
    (witness_row_atRef (enc := enc) (C := Tryd.checked) false (World.doorLaid Tryd.prog 401 os) #[.agg #[.int .i64 0, .int .i64 0, .int .i64 0, .int .i64 0, .slice none 0 0, .int .i64 0, .string ⟨#[]⟩, .slice none 0 0, .slice none 0 0, .slice none 0 0]] rfl (by kernel_rfl) (by kernel_rfl) (by kernel_rfl)
      (OpenSpec.preRow_of_cond 8 hx (by kernel_rfl) (fun k hk => by cases hk; kernel_rfl) (by kernel_rfl) (portFrames_door os _))) ?_
  intro W base args ds gs before hval0 hW _ hcnd hsz0 hL _ _
  have hval : ∀ (j : Nat) t v, Tryd.f7.params[j]? = some t → args[j]? = some v → Value.okWide Tryd.prog W .any base t v := hval0
  have hbulk := bulks.bound (hcnd _ rfl)
  have hW' := hW
  obtain ⟨p, q, hA0, hV, rfl, hfz, hnd⟩ := hW
  have hA : DataW.TrodAll enc Tryd.prog W 0 (fun _ => true) true Tryd.f7.params.toList args.toList ds p := hA0
  have hsz : (DataW.weightsEach Tryd.prog (Tryd.f7.params.toList ++ Rows.portFramesSpec.plain.varTypes Tryd.prog) (ds ++ gs)).all (· ≤ reachBytes) = true := hsz0
  rw [Tryd.params7] at hA hval hsz
  obtain ⟨v0, vs0, d0, ds0, p0, q0, hargs, rfl, rfl, h0, r0⟩ := trodAll_cons hA
  obtain ⟨rfl, rfl, rfl⟩ := trodAll_nil r0
  obtain rfl : args = #[v0] := by cases args; simp_all
  obtain ⟨rfl, rfl⟩ := trodVars_none hV
  have k0 := h0
  have lt0 : ∀ x ∈ p0, x.block < W.heap.size := by obtain ⟨m, hm⟩ := k0; exact DataW.trod_lt m _ _ _ hm
  obtain ⟨ck, cs, cd, cr, ca, cn, cc, cl, cg, cD, pa, pn, pc, cP, qa, qn, qc, cV, ma, mn, mc, cC, rfl, w0, z0, wP, wV, wM, wS, bP, bQ, bM⟩ := open_caseT (hval 0 45 v0 rfl rfl) h0 hsz (j := 0) rfl rfl
  clear hA0 hval0 hsz0
  simp only [List.append_nil, Rows.uptoBulkAll] at hbulk
  have hL1 : laidMet Tryd.prog (Rows.portFramesUptoRow.laid.filter fun x => x.2.handleName?.isNone) W := hL.1
  obtain ⟨A, hE⟩ := errs_of_laid (S := [1, 2, 3, 4, 5, 6, 7, 8, 9, 10, 11, 12, 13, 14, 15, 16, 17, 18, 19, 20]) hL1 (by kernel_rfl) (by kernel_rfl)
  have hT : TypeVar W := typeVar_of_handles (hs := Rows.portFramesUptoRow.laid.filter fun x => x.2.handleName?.isSome) hL.2 (List.mem_filter.2 ⟨by unfold Rows.portFramesUptoRow; simp, by kernel_rfl⟩)
  refine (law_PortFrames A ck cs cd cr ca cn cc cg cD pa pn pc cP qa qn qc cV ma mn mc cC W wP wV wM wS (by omega) hE hT).mono fun e W' ⟨he, bel⟩ => ?_
  subst he
  exact ⟨_, rfl, _, _, _, [], _, [], hW', trodAll_mk1 (shut_bool Tryd.underlying4 _), (trodAll_cons_mk (Below.trod laidOut (by kernel_rfl) (of_decide_eq_true (by kernel_rfl)) k0 bel lt0) trodAll_mk0), rfl, bel.frame _, fun h => by cases h⟩

theorem PortFrames_row : Rows.PortFramesUptoSaid :=
  OpenClaim.holds_of_cond 7 Tryd.f7 rfl rfl rfl rfl rfl rfl rfl ⟨rfl, rfl, rfl, rfl, rfl⟩ rfl rfl rfl rfl rfl (by kernel_rfl) Tryd.func7 (by kernel_rfl)
    (of_decide_eq_true (by kernel_rfl)) (by unfold Func.isWrapper; rw [if_neg (of_decide_eq_false (by kernel_rfl))]; exact ⟨rfl, rfl⟩)
    (fun os started H enc _ FF => by rw [OpenClaim.pre_eq_preRow]; exact portFrames_lifted os started H enc FF)
theorem PortFrames_holds : Rows.PortFramesUptoCardSaid :=
  Claim7.holds_tied_plain_at .later [] _ true _ true
    PortFrames_row (fun _ h => by cases h) (by kernel_rfl) (fun _ h => by cases h) portFramesUpto_row_tie rfl ⟨rfl, rfl⟩ (by kernel_rfl) rfl
    (fun f fn hf hfn => by
      obtain rfl : f = 7 := Option.some.inj ((show Tryd.prog.funcNamed "ferry/ferrylaw07.PortFrames" = some 7 by kernel_rfl).symm.trans hf) |>.symm
      obtain rfl : fn = Tryd.f7 := (Option.some.inj (Tryd.func7.symm.trans hfn)).symm
      exact ⟨by kernel_rfl, fun j t ht => by
        rw [Tryd.params7] at ht
        rcases j with _ | j
        · cases (Option.some.inj (show some 45 = some t from ht)); exact (show Tryd.prog.wantsStandIn 45 = false by kernel_rfl)
        · simp at ht⟩)
    (by kernel_rfl)
#print axioms PortFrames_holds
end Go.Proofs.YtjlgnbjfgeppcaaDoor
