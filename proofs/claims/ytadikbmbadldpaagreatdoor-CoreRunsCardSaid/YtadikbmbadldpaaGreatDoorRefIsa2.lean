
/- ferryref04.Check, Encode, Decode, walked. -/
import Derived.Test.YtadikbmbadldpaaGreatDoorRefIsa
import Derived.Deep.QuietTactic
namespace Go.Proofs.YtadikbmbadldpaaGreatDoor
open Go Go.RowKit
set_option linter.unusedVariables false

abbrev codeIf (t : Bool) : Int := bif t then 0 else 4
set_option maxRecDepth 100000 in
set_option maxHeartbeats 4000000 in
theorem ref_check (op : Int) (f : Nat) (hf : formAt op = f) (h1 : 1 ≤ f) (a b c : Nat) (ha : a < 16) (hb : b < 16) (hc : c < 16) (imm : Int) (hlo : bLo (usI f) (usS f) ≤ imm) (hhi : imm ≤ bHi (usI f) (usS f)) (w : World) :
    Calls Tryz.prog 90 #[.agg (insA op a b c imm)] w fun e w' => e = .returned (.int .i64 (codeIf (fitsW f a b c))) ∧ Below w.heap.size w w' := by
  have hf7 : f ≤ 7 := hf ▸ form_le op
  have KF := Kp.mk (fun v => ref_Form op v)
  rw [hf] at KF
  have KUA := Kp.mk (fun v => ref_Uses_A f h1 hf7 v)
  have KUB := Kp.mk (fun v => ref_Uses_B f h1 hf7 v)
  have KUC := Kp.mk (fun v => ref_Uses_C f h1 hf7 v)
  have KUI := Kp.mk (fun v => ref_Uses_I f h1 hf7 v)
  have KUU := Kp.mk (fun v => ref_Uses_U f h1 hf7 v)
  have t0 : ((f : Int) == 0) = false := by rw [beq_eq_false_iff_ne]; omega
  have hin : ∀ n : Nat, n < 16 → ∀ u : Bool, (bif u then decide ((0 : Int) ≤ (n : Int)) && decide ((n : Int) ≤ 15) else decide ((n : Int) = 0)) = (decide (n = 0) || u) := fun n hn u => by
    cases u
    · rw [cond_false, Bool.or_false]
      by_cases h : n = 0
      · rw [decide_eq_true h, decide_eq_true (by omega)]
      · rw [decide_eq_false h, decide_eq_false (by omega)]
    · rw [cond_true, Bool.or_true, decide_eq_true (by omega), decide_eq_true (by omega)]; rfl
  have KWA := Kp.mk (fun v => ref_within (usA f) a 0 15 _ (hin a ha (usA f)) v)
  have KWB := Kp.mk (fun v => ref_within (usB f) b 0 15 _ (hin b hb (usB f)) v)
  have KWC := Kp.mk (fun v => ref_within (usC f) c 0 15 _ (hin c hc (usC f)) v)
  have KW1 : Kp (usS f = true → ∀ v, Calls Tryz.prog 95 #[.bool true, .int .i64 imm, .int .i64 (-32768), .int .i64 32767] v fun e w' => e = .returned (.bool true) ∧ w' = v) := ⟨fun hs v => ref_within true imm (-32768) 32767 true (by
    have hi : usI f = true := by rcases form_cases h1 hf7 with rfl | rfl | rfl | rfl | rfl | rfl | rfl <;> first | rfl | exact absurd hs (by decide)
    rw [hi, hs] at hlo hhi
    rw [cond_true, decide_eq_true (show (-32768 : Int) ≤ imm from hlo), decide_eq_true (show imm ≤ 32767 from hhi)]; rfl) v⟩
  have KW2 : Kp (usS f = false → ∀ v, Calls Tryz.prog 95 #[.bool (usU f), .int .i64 imm, .int .i64 0, .int .i64 65535] v fun e w' => e = .returned (.bool true) ∧ w' = v) := ⟨fun hs v => ref_within (usU f) imm 0 65535 true (by
    rw [hs] at hlo hhi
    by_cases h : f = 1
    · subst h
      have : imm = 0 := Int.le_antisymm hhi hlo
      subst this
      rfl
    · have hi : usI f = true := by unfold usI; rw [decide_eq_false h]; rfl
      have hu : usU f = true := by rcases form_cases h1 hf7 with rfl | rfl | rfl | rfl | rfl | rfl | rfl <;> first | rfl | exact absurd hs (by decide) | exact absurd rfl h
      rw [hi] at hlo hhi
      rw [hu, cond_true, decide_eq_true (show (0 : Int) ≤ imm from hlo), decide_eq_true (show imm ≤ 65535 from hhi)]; rfl) v⟩
  unfold fitsW
  obtain ⟨ua, hua⟩ : ∃ x, x = usA f := ⟨_, rfl⟩
  obtain ⟨ub, hub⟩ : ∃ x, x = usB f := ⟨_, rfl⟩
  obtain ⟨uc, huc⟩ : ∃ x, x = usC f := ⟨_, rfl⟩
  obtain ⟨us, hus⟩ : ∃ x, x = usS f := ⟨_, rfl⟩
  obtain ⟨uu, huu⟩ : ∃ x, x = usU f := ⟨_, rfl⟩
  rw [← hua] at KUA KWA ⊢
  rw [← hub] at KUB KWB ⊢
  rw [← huc] at KUC KWC ⊢
  rw [← hus] at KUI KW1 KW2
  rw [← huu] at KUU KW2
  obtain ⟨fa, hfa⟩ : ∃ x, x = (decide (a = 0) || ua) := ⟨_, rfl⟩
  obtain ⟨fb, hfb⟩ : ∃ x, x = (decide (b = 0) || ub) := ⟨_, rfl⟩
  obtain ⟨fc, hfc⟩ : ∃ x, x = (decide (c = 0) || uc) := ⟨_, rfl⟩
  rw [← hfa] at KWA ⊢
  rw [← hfb] at KWB ⊢
  rw [← hfc] at KWC ⊢
  obtain ⟨r, hr⟩ : ∃ r, r = codeIf (fa && fb && fc) := ⟨_, rfl⟩
  rw [← hr]
  have HR := Kp.mk hr
  obtain ⟨ai, hai⟩ : ∃ x : Int, x = (a : Int) := ⟨_, rfl⟩
  obtain ⟨bi, hbi⟩ : ∃ x : Int, x = (b : Int) := ⟨_, rfl⟩
  obtain ⟨ci, hci⟩ : ∃ x : Int, x = (c : Int) := ⟨_, rfl⟩
  rw [← hai] at KWA ⊢
  rw [← hbi] at KWB ⊢
  rw [← hci] at KWC ⊢
  clear hf h1 hf7 hlo hhi ha hb hc hua hub huc hus huu hfa hfb hfc hai hbi hci hr hin
  go_enter Tryz.func90, Tryz.ntmps90
  go_wp2_with fail
  refine (KF.out _).mono ?_
  rintro e w2 ⟨rfl, hw2⟩
  obtain rfl := hw2.symm
  clear hw2 KF
  cases fa
  · go_wp2_with fail
    go_quiet (first
      | (with_reducible exact Calls.quiet_of_same (KUA.out _))
      | (with_reducible exact Calls.quiet_of_same (KUB.out _))
      | (with_reducible exact Calls.quiet_of_same (KUC.out _))
      | (with_reducible exact Calls.quiet_of_same (KWA.out _))
      | (with_reducible exact Calls.quiet_of_same (KWB.out _))
      | (with_reducible exact Calls.quiet_of_same (KWC.out _)))
    go_wp2
    go_ret
    refine ⟨by rw [HR.out]; rfl, ?_⟩
    exact (below_alloc _ _).trans ((Drew.below ⟨_, rfl⟩).mono (Nat.le_of_lt (by simp)))
  cases fb
  · go_wp2_with fail
    go_quiet (first
      | (with_reducible exact Calls.quiet_of_same (KUA.out _))
      | (with_reducible exact Calls.quiet_of_same (KUB.out _))
      | (with_reducible exact Calls.quiet_of_same (KUC.out _))
      | (with_reducible exact Calls.quiet_of_same (KWA.out _))
      | (with_reducible exact Calls.quiet_of_same (KWB.out _))
      | (with_reducible exact Calls.quiet_of_same (KWC.out _)))
    go_wp2
    go_ret
    refine ⟨by rw [HR.out]; rfl, ?_⟩
    exact (below_alloc _ _).trans ((Drew.below ⟨_, rfl⟩).mono (Nat.le_of_lt (by simp)))
  cases fc
  · go_wp2_with fail
    go_quiet (first
      | (with_reducible exact Calls.quiet_of_same (KUA.out _))
      | (with_reducible exact Calls.quiet_of_same (KUB.out _))
      | (with_reducible exact Calls.quiet_of_same (KUC.out _))
      | (with_reducible exact Calls.quiet_of_same (KWA.out _))
      | (with_reducible exact Calls.quiet_of_same (KWB.out _))
      | (with_reducible exact Calls.quiet_of_same (KWC.out _)))
    go_wp2
    go_ret
    refine ⟨by rw [HR.out]; rfl, ?_⟩
    exact (below_alloc _ _).trans ((Drew.below ⟨_, rfl⟩).mono (Nat.le_of_lt (by simp)))
  cases us
  · have KW := Kp.mk (KW2.out rfl)
    clear KW1 KW2
    go_wp2_with fail
    go_quiet (first
      | (with_reducible exact Calls.quiet_of_same (KUA.out _))
      | (with_reducible exact Calls.quiet_of_same (KUB.out _))
      | (with_reducible exact Calls.quiet_of_same (KUC.out _))
      | (with_reducible exact Calls.quiet_of_same (KWA.out _))
      | (with_reducible exact Calls.quiet_of_same (KWB.out _))
      | (with_reducible exact Calls.quiet_of_same (KWC.out _)))
    go_wp2_with fail
    go_quiet (first
      | (with_reducible refine (KUI.out _).mono ?_; exact fun _ _ h => ⟨h.1, ⟨_, h.2⟩⟩)
      | (with_reducible refine (KUU.out _).mono ?_; exact fun _ _ h => ⟨h.1, ⟨_, h.2⟩⟩)
      | (with_reducible refine (KW.out _).mono ?_; exact fun _ _ h => ⟨h.1, ⟨_, h.2⟩⟩))
    go_wp2
    go_ret
    refine ⟨by rw [HR.out]; rfl, ?_⟩
    exact (below_alloc _ _).trans (((Drew.below ⟨_, rfl⟩).trans ((Drew.below ⟨_, rfl⟩).mono (by simp))).mono (Nat.le_of_lt (by simp)))
  · have KW := Kp.mk (KW1.out rfl)
    clear KW1 KW2
    go_wp2_with fail
    go_quiet (first
      | (with_reducible exact Calls.quiet_of_same (KUA.out _))
      | (with_reducible exact Calls.quiet_of_same (KUB.out _))
      | (with_reducible exact Calls.quiet_of_same (KUC.out _))
      | (with_reducible exact Calls.quiet_of_same (KWA.out _))
      | (with_reducible exact Calls.quiet_of_same (KWB.out _))
      | (with_reducible exact Calls.quiet_of_same (KWC.out _)))
    go_wp2_with fail
    go_quiet (first
      | (with_reducible refine (KUI.out _).mono ?_; exact fun _ _ h => ⟨h.1, ⟨_, h.2⟩⟩)
      | (with_reducible refine (KUU.out _).mono ?_; exact fun _ _ h => ⟨h.1, ⟨_, h.2⟩⟩)
      | (with_reducible refine (KW.out _).mono ?_; exact fun _ _ h => ⟨h.1, ⟨_, h.2⟩⟩))
    go_wp2
    go_ret
    refine ⟨by rw [HR.out]; rfl, ?_⟩
    exact (below_alloc _ _).trans (((Drew.below ⟨_, rfl⟩).trans ((Drew.below ⟨_, rfl⟩).mono (by simp))).mono (Nat.le_of_lt (by simp)))
end Go.Proofs.YtadikbmbadldpaaGreatDoor
