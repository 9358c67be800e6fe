/- PageMakes, walked. -/
import Derived.Test.YtkkclkmiaenipaaDoorPlanOwn
namespace Go.Proofs.YtkkclkmiaenipaaDoor
open Go Go.RowKit
set_option linter.unusedVariables false

theorem fieldsPlan : (Tryd.prog.fieldsOf 58).toList.map (fun f => (f.type, f.offset, f.name == "_")) = [(3, 0, false), (9, 1, false)] := by kernel_rfl
theorem undPlan : Tryd.prog.underlying 58 = some (.struct (Tryd.prog.fieldsOf 58)) := by kernel_rfl
theorem heldPlan : Tryd.prog.stoodInHeld 58 = false := by kernel_rfl
theorem plainStr : Tryd.prog.plainKey 9 = true := by kernel_rfl
theorem eqFields_plan (d : Nat) (p : PlanV) (w : World) (fs : List Field) (h : fs.map (fun f => (f.type, f.offset, f.name == "_")) = [(3, 0, false), (9, 1, false)]) :
    (Op.eqFields (d + 2) p.row.toArray p.row.toArray fs).run Tryd.prog w = .ok true w := by
  obtain ⟨f1, f2, rfl⟩ : ∃ f1 f2, fs = [f1, f2] := by
    match fs, (show fs.length = 2 by have := congrArg List.length h; simpa using this) with
    | [f1, f2], _ => exact ⟨f1, f2, rfl⟩
  simp only [List.map_cons, List.map_nil, List.cons.injEq, Prod.mk.injEq, and_true] at h
  obtain ⟨⟨t1, o1, n1⟩, ⟨t2, o2, n2⟩⟩ := h
  have n1' : f1.name ≠ "_" := by intro e; rw [e] at n1; simp at n1
  have n2' : f2.name ≠ "_" := by intro e; rw [e] at n2; simp at n2
  have a1 : (part 3 p.row.toArray 0).run Tryd.prog w = .ok (.int .i64 p.rights) w := run_part_plain w plainInt rfl
  have a2 : (part 9 p.row.toArray 1).run Tryd.prog w = .ok (.string p.init) w := run_part_plain w plainStr rfl
  have b1 : (Op.equalIn (d + 2) 3 (.int .i64 p.rights) (.int .i64 p.rights)).run Tryd.prog w = .ok true w := by
    rw [run_equalIn_int (P := Tryd.prog) w (d + 1) 3 .i64 .i64 p.rights p.rights Tryd.underlying3]; simp
  have b2 : (Op.equalIn (d + 2) 9 (.string p.init) (.string p.init)).run Tryd.prog w = .ok true w := by
    rw [run_equalIn_string (P := Tryd.prog) w (d + 1) 9 p.init p.init Tryd.underlying9]; simp
  simp only [Op.eqFields, t1, t2, o1, o2, n1', n2', ne_eq, not_false_eq_true, if_true, Sem.run_bind, a1, Result.andThen_ok, b1]
  simp only [Bool.not_true, Bool.false_eq_true, if_false, Sem.run_bind, a2, Result.andThen_ok, b2]
  simp
theorem plan_eq (d : Nat) (p : PlanV) (w : World) : (Op.equalIn (d + 3) 58 (.agg p.row.toArray) (.agg p.row.toArray)).run Tryd.prog w = .ok true w := by
  rw [run_equalIn_struct w (d + 2) 58 _ _ undPlan heldPlan]
  exact eqFields_plan d p w _ fieldsPlan
theorem ErrP.zero {w : World} {A : Nat → Addr} {pl : Int} {v : Value} (h : ErrP w A 0 pl v) : v = .nilIface := by
  rcases h with ⟨_, _, h⟩ | ⟨h, _⟩ | ⟨h, _⟩
  · exact h
  · omega
  · omega
theorem mkAB : (mkPg planAB).rights = 3 ∧ (mkPg planAB).data 1 = 98#8 := ⟨rfl, by decide⟩
set_option maxRecDepth 100000 in
set_option maxHeartbeats 8000000 in
theorem law_PageMakes (A : Nat → Addr) (a : Option Addr) (n cap : Nat) (C : Nat → PlanV) (w : World) (h : RdK w a n cap C) (hE : Errs w allCodes A) (hT : TypeVar w) :
    Calls Tryd.prog 5 #[.slice a n cap] w fun e w' => e = .returned (.bool true) ∧ Below w.heap.size w w' := by
  have H0 := Kp.mk h
  have HE := Kp.mk hE
  have HT := Kp.mk hT
  have hn := h.bound
  have HF := Kp.mk h.fits
  obtain ⟨L, c, pl, hM⟩ := made C n
  have HM := Kp.mk hM
  have hLn : L ≤ n := by cases hM <;> omega
  have HLN : Kp (L ≤ 1759218604441) := ⟨by cases hM <;> omega⟩
  clear h hE hT hM hLn
  obtain ⟨w1, e1⟩ : ∃ w1, w1 = w.alloc (.cells planAB.row.toArray 58) := ⟨_, rfl⟩
  have b1 : Below w.heap.size w w1 := by rw [e1]; exact (Below.refl _ _).alloc (Nat.le_refl _) _
  have hr1 : RdK w1 (some ⟨w.heap.size, 0, none⟩) 1 1 (fun _ => planAB) := by rw [e1]; exact RdK.lit1 w planAB (by decide)
  have K1 := Kp.mk (page_make A _ 1 1 _ w1 hr1 1 0 (-1) madeAB ((HE.out.later b1).sub (by decide)))
  have B1 := Kp.mk b1
  have E1 := Kp.mk e1
  have hcc : ((c : Int) == (c : Int)) = true := by simp
  have hpp : ((pl : Int) == (pl : Int)) = true := by simp
  clear b1 e1 hr1
  go_enter Tryd.func5, Tryd.ntmps5
  go_wp2_with (first
    | (refine build_ab rfl _ rfl builtAB ?_)
    | (refine build_plan rfl _ rfl planAB.row.toArray rfl rfl ?_; rw [← E1.out]))
  refine K1.out.mono ?_
  rintro e w2 ⟨v2, ev2, rfl, o2, he2, hb⟩
  obtain rfl := he2.zero
  have B2 := Kp.mk (B1.out.trans (hb.mono B1.out.size))
  obtain ⟨g, cap2, rfl, hg, _⟩ := o2.shape (by decide)
  have k1 : w2.cell? ⟨g, 3, none⟩ = some (.int .u8 98) := o2.cell 0 3 (by decide) (by decide)
  have k2 : w2.cell? ⟨g, 0, none⟩ = some (.int .i64 3) := o2.cell 0 0 (by decide) (by decide)
  clear hb he2 o2 hg
  have HR := Kp.mk (H0.out.later B2.out)
  go_wp2_with (first
    | (refine append_plans rfl _ _ rfl rfl a n cap C rfl HR.out ?_; rintro v3 w3 ho3 hb3))
  have B3 := Kp.mk (B2.out.trans (hb3.mono B2.out.size))
  obtain ⟨a3, cap3, rfl, hr3⟩ := own_plans ho3 hn HF.out
  have R3 := Kp.mk hr3
  clear hb3 ho3 hr3 k1 k2
  go_wp2_with fail
  refine (ref_make _ _ _ C w3 (H0.out.later B3.out) L c pl HM.out).mono ?_
  rintro e w4 ⟨v4, rfl, o4, hb⟩
  have N4 := Kp.mk o4
  have B4 := Kp.mk (B3.out.trans (hb.mono B3.out.size))
  have R4 := Kp.mk (R3.out.later hb)
  clear hb o4
  go_wp2_with fail
  refine (page_make A _ _ _ C w4 R4.out L c pl HM.out ((HE.out.later B4.out).sub (by decide))).mono ?_
  rintro e w5 ⟨v5, ev5, rfl, o5, he5, hb⟩
  have N5 := Kp.mk (N4.out.later hb)
  have M5 := Kp.mk o5
  have X5 := Kp.mk he5
  have B5 := Kp.mk (B4.out.trans (hb.mono B4.out.size))
  have R5 := Kp.mk (R4.out.later hb)
  have S5 := Kp.mk (H0.out.later B5.out)
  clear hb o5 he5
  have hgp := guardPlan
  go_wp2
  go_loopw [10] (fun iv wr => ∃ k : Nat, k ≤ n ∧ iv = .int .i64 (k : Int) ∧ Kp (Drew w5 wr)) (fun iv _ => n - (intOf iv).toNat)
  case atStart => exact ⟨0, by omega, rfl, ⟨Drew.refl _⟩⟩
  case round =>
    obtain ⟨k, hk, rfl, HD⟩ := hrel
    by_cases hlt : k < n
    · have hb : decide ((k : Int) < n) = true := decide_eq_true (by omega)
      obtain ⟨b1, o1, ha1, hc1⟩ := R5.out.cells (by omega)
      obtain ⟨b2, o2, ha2, hc2⟩ := S5.out.cells (by omega)
      have x1 := prange_later (hc1 k hlt) HD.out.below
      have x2 := prange_later (hc2 k hlt) HD.out.below
      have he := fun w => plan_eq 9997 (C k) w
      have hl := planLen (C k)
      obtain ⟨row, hrow⟩ : ∃ row, row = (C k).row := ⟨_, rfl⟩
      rw [← hrow] at x1 x2 he hl
      have M1 : Kp (∀ (w' : World), (∃ n, w' = wr.drewN n) → w'.rangeAt b1 (o1 + k * 2) row) := ⟨by
        rintro w' ⟨q, rfl⟩
        exact prange_later x1 (Drew.below ⟨q, rfl⟩)⟩
      have M2 : Kp (∀ (w' : World), (∃ n, w' = wr.drewN n) → w'.rangeAt b2 (o2 + k * 2) row) := ⟨by
        rintro w' ⟨q, rfl⟩
        exact prange_later x2 (Drew.below ⟨q, rfl⟩)⟩
      have HL := Kp.mk hl
      subst ha1
      subst ha2
      clear hc1 hc2 x1 x2 hl hrow
      go_wp2
      refine wp_region_quiet_lit (by kernel_rfl) (by kernel_rfl) ?_
      repeat (first
        | ((first
            | (refine quiet_load rfl 58 _ rfl b1 (o1 + k * 2) rfl row _ M1.out Tryd.underlying58 rfl HL.out ?_)
            | (refine quiet_load rfl 58 _ rfl b2 (o2 + k * 2) rfl row _ M2.out Tryd.underlying58 rfl HL.out ?_)); simp only [Act.put, List.setIfInBounds_toArray, List.set_cons_zero, List.set_cons_succ])
        | quiet_step (fail))
      refine wpQuiet_nil ?_
      rintro _ ⟨nq, rfl⟩
      have HD2 := Kp.mk (HD.out.trans ⟨nq, rfl⟩)
      go_wp2
      go_roundw
      case rel => exact ⟨k + 1, by omega, by go_num, HD2⟩
      case measure => simp [intOf]; omega
    · have : k = n := by omega
      subst this
      have hb : decide ((k : Int) < k) = false := by simp
      have B6 := Kp.mk (B5.out.trans (HD.out.below.mono B5.out.size))
      have N6 := Kp.mk (N5.out.later HD.out.below)
      have M6 := Kp.mk (M5.out.later HD.out.below)
      have X6 := Kp.mk (X5.out.later HD.out.below)
      go_wp2_with fail
      refine (uni_same L _ _ M6.out N6.out HLN.out (fun i hi => rfl)).mono ?_
      rintro e w7 ⟨rfl, hd⟩
      have B7 := Kp.mk (B6.out.trans (hd.below.mono B6.out.size))
      have X7 := Kp.mk (X6.out.later hd.below)
      clear hd
      go_wp2_with fail
      refine (X7.out.code (HE.out.later B7.out)).mono ?_
      rintro e w8 ⟨rfl, hw⟩
      obtain rfl := hw.symm
      go_wp2_with fail
      refine (X7.out.place (HT.out.later B7.out)).mono ?_
      rintro e w9 ⟨rfl, hb9⟩
      have B9 := Kp.mk (B7.out.trans (hb9.mono B7.out.size))
      clear hb9
      go_wp2
      go_ret
      exact ⟨rfl, B9.out⟩
end Go.Proofs.YtkkclkmiaenipaaDoor
