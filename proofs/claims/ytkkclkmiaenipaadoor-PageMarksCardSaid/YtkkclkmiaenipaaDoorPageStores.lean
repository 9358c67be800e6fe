/- The statements' stores, walked. -/
import Derived.Test.YtkkclkmiaenipaaDoorPagePokes
import Derived.Deep.RegionHeld3
namespace Go.Proofs.YtkkclkmiaenipaaDoor
open Go Go.RowKit
set_option linter.unusedVariables false

theorem OpAt.s4 {w : World} {b : Nat} {kind s : Int} {ad x : Nat} {D : ByteArray} (h : OpAt w b ⟨kind, s, ad, x, D⟩) : w.cell? ⟨b, 1, none⟩ = some (.int .i64 s) ∧ w.cell? ⟨b, 2, none⟩ = some (.int .u32 (ad : Int)) ∧ w.cell? ⟨b, 3, none⟩ = some (.int .u32 (x : Int)) ∧ w.cell? ⟨b, 4, none⟩ = some (.string D) := ⟨h.c1, h.c2, h.c3, h.c4⟩
theorem intEq {F : Nat} (h : F ≠ 0) : ((F : Int) == 0) = false := by simp; omega
set_option maxRecDepth 100000 in
set_option maxHeartbeats 4000000 in
theorem law_stores2 (A : Nat → Addr) (a : Option Addr) (n cap : Nat) (P : Nat → PageV) (o : PopV) (ho : o.fits) (hkd : o.kind = 2) (w : World) (h : RdP w a n cap P) (hE : Errs w allCodes A) (hT : TypeVar w) :
    Calls Tryd.prog 51 #[.slice a n cap, .agg o.row.toArray] w fun e w' => ∃ a' cap' P', e = .returned (.tuple #[.slice a' n cap', .bool true]) ∧ RdP w' a' n cap' P' ∧ Below w.heap.size w w' := by
  have H0 := Kp.mk h
  have HE := Kp.mk hE
  have HT := Kp.mk hT
  have hn := h.bound
  obtain ⟨kind, s, ad, x, D, hr, had, hx, hs, hD, hkk⟩ := o.num ho
  rw [hr]
  rw [← hkk] at hkd
  clear h hE hT hr ho hkk
  subst hkd
  obtain ⟨w1, hw1⟩ : ∃ w1, w1 = w.alloc (.cells (PopN.row ⟨2, s, ad, x, D⟩).toArray 41) := ⟨_, rfl⟩
  have B1 : Kp (Below w.heap.size w w1) := ⟨by rw [hw1]; exact (Below.refl _ _).alloc (Nat.le_refl _) _⟩
  have O1 : Kp (OpAt w1 w.heap.size ⟨2, s, ad, x, D⟩) := ⟨by rw [hw1]; exact OpAt.made w _⟩
  have W1 := Kp.mk hw1
  obtain ⟨g0, hg0⟩ : ∃ g0, g0 = w.heap.size := ⟨_, rfl⟩
  have G0 := Kp.mk hg0
  rw [← hg0] at O1
  clear hw1 hg0
  have hle := stC_le s
  have hok := stOk_iff P n ad s
  obtain ⟨F, hF⟩ : ∃ F, F = stF P n ad s 1 := ⟨_, rfl⟩
  obtain ⟨C, hC⟩ : ∃ C, C = stC s := ⟨_, rfl⟩
  obtain ⟨L, hLL⟩ : ∃ L, L = stL P n ad s := ⟨_, rfl⟩
  rw [← hF, ← hC] at hok
  rw [← hC] at hle
  have K1 := Kp.mk (uni_ref_store a n cap P w1 (H0.out.later B1.out) ad had s x hx)
  have KP := Kp.mk (fun (w' : World) a' cap' (hv : RdP w' a' n cap' P) (he : Errs w' [12] A) => uni_store A a' n cap' P w' hv ad had s x hx he)
  rw [← hF, ← hC, ← hLL] at K1 KP
  have hFF : ((F : Int) == (F : Int)) = true := by simp
  have hCC : ((C : Int) == (C : Int)) = true := by simp
  obtain ⟨T, hTT⟩ : ∃ T, T = stOk P n ad s := ⟨_, rfl⟩
  rw [← hTT] at hok
  have hL : L = bif T then n else 0 := by rw [hLL, hTT]; rfl
  have HLE := Kp.mk hle
  have HLn : Kp (L ≤ 1759218604441) := ⟨by rw [hL]; cases T <;> simp <;> omega⟩
  have c1 := O1.out.c1
  have c2 := O1.out.c2
  have c3 := O1.out.c3
  have c0 := O1.out.c0
  clear hF hC hTT hle hLL
  cases T
  · rw [cond_false] at hL
    have hz : F ≠ 0 ∨ F = 0 ∧ C ≠ 0 := by
      by_cases e : F = 0
      · exact .inr ⟨e, fun e2 => by have := hok.2 ⟨e, e2⟩; cases this⟩
      · exact .inl e
    clear hok hL
    rcases hz with hz | ⟨rfl, hz⟩
    all_goals (
      have hne := intEq hz
      clear hz
      go_enter Tryd.func51, Tryd.ntmps51
      go_wp2_with (refine Great.wpList_boxTo rfl 41 (.tmp 1) rfl _ rfl g0 G0.out.symm (PopN.row ⟨2, s, ad, x, D⟩).toArray rfl ?_; rw [← W1.out])
      refine K1.out.mono ?_
      rintro e w2 ⟨v2, rfl, ho2, hb⟩
      have B2 := Kp.mk (B1.out.trans (hb.mono B1.out.size))
      have O2 := Kp.mk (O1.out.later hb)
      have N2 := Kp.mk ho2
      clear hb c0 c1 c2 c3 K1 ho2
      go_wp2_with fail
      go_region_held3 (fun v => v.cell? ⟨g0, 1, none⟩ = some (.int .i64 s) ∧ v.cell? ⟨g0, 2, none⟩ = some (.int .u32 (ad : Int)) ∧ v.cell? ⟨g0, 3, none⟩ = some (.int .u32 (x : Int)) ∧ v.cell? ⟨g0, 4, none⟩ = some (.string D)) (first | exact (O2.out.later (Drew.once _).below).s4 | exact ((O2.out.later (Drew.once _).below).later hb3).s4 | exact (((O2.out.later (Drew.once _).below).later hb3).later hb4).s4) (first | (go_at_call 16; refine (ref_copy _ _ _ _ _ (H0.out.later (B2.out.trans ((Drew.once _).below.mono B2.out.size)))).mono ?_; rintro e w3 ⟨v3, rfl, o3, hb3⟩; obtain ⟨a3, cap3, rfl, hr3⟩ := o3.rd hn) | (go_at_call 17; refine (KP.out _ _ _ hr3 ((HE.out.later ((B2.out.trans ((Drew.once _).below.mono B2.out.size)).trans (hb3.mono (Nat.le_trans B2.out.size (Drew.once _).below.size)))).sub (by decide))).mono ?_; rintro e w4 ⟨v4, rfl, o4, hb4⟩))
      all_goals (
        have hb34 := (Drew.once w2).below.trans ((hb3.mono (Drew.once w2).below.size).trans (hb4.mono (Nat.le_trans (Drew.once w2).below.size hb3.size)))
        have B4 := Kp.mk (B2.out.trans (hb34.mono B2.out.size))
        have N4 := Kp.mk (N2.out.later hb34)
        have M4 := Kp.mk o4
        clear hb34 hb3 hb4 o3 o4 hr3
        go_wp2_with fail
        refine (uni_same L _ w4 M4.out N4.out HLn.out (fun i hi => rfl)).mono ?_
        rintro e w5 ⟨rfl, hd⟩
        have B5 := Kp.mk (B4.out.trans (hd.below.mono B4.out.size))
        clear hd
        go_wp2_with fail
        refine (law_code A _ w5 HLE.out (HE.out.later B5.out) (HT.out.later B5.out)).mono ?_
        rintro e w6 ⟨rfl, hb⟩
        have B6 := Kp.mk (B5.out.trans (hb.mono B5.out.size))
        clear hb
        go_wp2
        go_ret2
        exact ⟨_, _, _, rfl, (H0.out.later B6.out), B6.out⟩))
  · rw [cond_true] at hL
    obtain ⟨rfl, rfl⟩ := hok.1 rfl
    subst hL
    clear hok
    go_enter Tryd.func51, Tryd.ntmps51
    go_wp2_with (refine Great.wpList_boxTo rfl 41 (.tmp 1) rfl _ rfl g0 G0.out.symm (PopN.row ⟨2, s, ad, x, D⟩).toArray rfl ?_; rw [← W1.out])
    refine K1.out.mono ?_
    rintro e w2 ⟨v2, rfl, ho2, hb⟩
    have B2 := Kp.mk (B1.out.trans (hb.mono B1.out.size))
    have O2 := Kp.mk (O1.out.later hb)
    obtain ⟨a2, cap2, rfl, hr2⟩ := ho2.rd hn
    have RW2 := Kp.mk hr2
    clear hr2
    have N2 := Kp.mk ho2
    clear hb c0 c1 c2 c3 K1 ho2
    go_wp2_with fail
    go_region_held3 (fun v => v.cell? ⟨g0, 1, none⟩ = some (.int .i64 s) ∧ v.cell? ⟨g0, 2, none⟩ = some (.int .u32 (ad : Int)) ∧ v.cell? ⟨g0, 3, none⟩ = some (.int .u32 (x : Int)) ∧ v.cell? ⟨g0, 4, none⟩ = some (.string D)) (first | exact (O2.out.later (Drew.once _).below).s4 | exact ((O2.out.later (Drew.once _).below).later hb3).s4 | exact (((O2.out.later (Drew.once _).below).later hb3).later hb4).s4) (first | (go_at_call 16; refine (ref_copy _ _ _ _ _ (H0.out.later (B2.out.trans ((Drew.once _).below.mono B2.out.size)))).mono ?_; rintro e w3 ⟨v3, rfl, o3, hb3⟩; obtain ⟨a3, cap3, rfl, hr3⟩ := o3.rd hn) | (go_at_call 17; refine (KP.out _ _ _ hr3 ((HE.out.later ((B2.out.trans ((Drew.once _).below.mono B2.out.size)).trans (hb3.mono (Nat.le_trans B2.out.size (Drew.once _).below.size)))).sub (by decide))).mono ?_; rintro e w4 ⟨v4, rfl, o4, hb4⟩))
    all_goals (
      have hb34 := (Drew.once w2).below.trans ((hb3.mono (Drew.once w2).below.size).trans (hb4.mono (Nat.le_trans (Drew.once w2).below.size hb3.size)))
      have B4 := Kp.mk (B2.out.trans (hb34.mono B2.out.size))
      have N4 := Kp.mk (N2.out.later hb34)
      have M4 := Kp.mk o4
      have RW4 := Kp.mk (RW2.out.later hb34)
      clear hb34 hb3 hb4 o3 o4 hr3
      go_wp2_with fail
      refine (uni_same _ _ w4 M4.out N4.out HLn.out (fun i hi => rfl)).mono ?_
      rintro e w5 ⟨rfl, hd⟩
      have B5 := Kp.mk (B4.out.trans (hd.below.mono B4.out.size))
      have RW5 := Kp.mk (RW4.out.later hd.below)
      clear hd
      go_wp2_with fail
      refine (law_code A _ w5 HLE.out (HE.out.later B5.out) (HT.out.later B5.out)).mono ?_
      rintro e w6 ⟨rfl, hb⟩
      have B6 := Kp.mk (B5.out.trans (hb.mono B5.out.size))
      have RW6 := Kp.mk (RW5.out.later hb)
      clear hb
      go_wp2
      go_ret2
      exact ⟨_, _, _, rfl, RW6.out, B6.out⟩)
set_option maxRecDepth 100000 in
set_option maxHeartbeats 4000000 in
theorem law_stores5 (A : Nat → Addr) (a : Option Addr) (n cap : Nat) (P : Nat → PageV) (o : PopV) (ho : o.fits) (hkd : o.kind ≠ 2) (w : World) (h : RdP w a n cap P) (hE : Errs w allCodes A) (hT : TypeVar w) :
    Calls Tryd.prog 51 #[.slice a n cap, .agg o.row.toArray] w fun e w' => ∃ a' cap' P', e = .returned (.tuple #[.slice a' n cap', .bool true]) ∧ RdP w' a' n cap' P' ∧ Below w.heap.size w w' := by
  have H0 := Kp.mk h
  have HE := Kp.mk hE
  have HT := Kp.mk hT
  have hn := h.bound
  obtain ⟨kind, s, ad, x, D, hr, had, hx, hs, hD, hkk⟩ := o.num ho
  rw [hr]
  rw [← hkk] at hkd
  have hkb : (kind == 2) = false := by simpa using hkd
  clear h hE hT hr ho hkk
  obtain ⟨w1, hw1⟩ : ∃ w1, w1 = w.alloc (.cells (PopN.row ⟨kind, s, ad, x, D⟩).toArray 41) := ⟨_, rfl⟩
  have B1 : Kp (Below w.heap.size w w1) := ⟨by rw [hw1]; exact (Below.refl _ _).alloc (Nat.le_refl _) _⟩
  have O1 : Kp (OpAt w1 w.heap.size ⟨kind, s, ad, x, D⟩) := ⟨by rw [hw1]; exact OpAt.made w _⟩
  have W1 := Kp.mk hw1
  obtain ⟨g0, hg0⟩ : ∃ g0, g0 = w.heap.size := ⟨_, rfl⟩
  have G0 := Kp.mk hg0
  rw [← hg0] at O1
  clear hw1 hg0
  obtain ⟨F, hF⟩ : ∃ F, F = inF P n ad D := ⟨_, rfl⟩
  obtain ⟨L, hLL⟩ : ∃ L, L = inL P n ad D := ⟨_, rfl⟩
  have hL : L = bif decide (F = 0) then n else 0 := by rw [hLL, hF]; rfl
  have K1 := Kp.mk (uni_ref_in a n cap P w1 (H0.out.later B1.out) ad had D hD)
  have KP := Kp.mk (fun (w' : World) a' cap' (hv : RdP w' a' n cap' P) => uni_in a' n cap' P w' hv ad had D hD)
  rw [← hF, ← hLL] at K1 KP
  have hFF : ((F : Int) == (F : Int)) = true := by simp
  have HLn : Kp (L ≤ 1759218604441) := ⟨by rw [hL]; cases decide (F = 0) <;> simp <;> omega⟩
  have c2 := O1.out.c2
  have c4 := O1.out.c4
  have c0 := O1.out.c0
  clear hF hLL hkd
  by_cases hz : F = 0
  · subst hz
    have hL2 : L = n := by rw [hL]; rfl
    clear hL
    subst hL2
    go_enter Tryd.func51, Tryd.ntmps51
    go_wp2_with (refine Great.wpList_boxTo rfl 41 (.tmp 1) rfl _ rfl g0 G0.out.symm (PopN.row ⟨kind, s, ad, x, D⟩).toArray rfl ?_; rw [← W1.out])
    refine K1.out.mono ?_
    rintro e w2 ⟨v2, rfl, ho2, hb⟩
    have B2 := Kp.mk (B1.out.trans (hb.mono B1.out.size))
    have O2 := Kp.mk (O1.out.later hb)
    obtain ⟨a2, cap2, rfl, hr2⟩ := ho2.rd hn
    have RW2 := Kp.mk hr2
    clear hr2
    have N2 := Kp.mk ho2
    clear hb c0 c2 c4 K1 ho2
    go_wp2_with fail
    go_region_held3 (fun v => v.cell? ⟨g0, 1, none⟩ = some (.int .i64 s) ∧ v.cell? ⟨g0, 2, none⟩ = some (.int .u32 (ad : Int)) ∧ v.cell? ⟨g0, 3, none⟩ = some (.int .u32 (x : Int)) ∧ v.cell? ⟨g0, 4, none⟩ = some (.string D)) (first | exact (O2.out.later (Drew.once _).below).s4 | exact ((O2.out.later (Drew.once _).below).later hb3).s4 | exact (((O2.out.later (Drew.once _).below).later hb3).later hb4).s4) (first | (go_at_call 16; refine (ref_copy _ _ _ _ _ (H0.out.later (B2.out.trans ((Drew.once _).below.mono B2.out.size)))).mono ?_; rintro e w3 ⟨v3, rfl, o3, hb3⟩; obtain ⟨a3, cap3, rfl, hr3⟩ := o3.rd hn) | (go_at_call 18; refine (KP.out _ _ _ hr3).mono ?_; rintro e w4 ⟨v4, rfl, o4, hb4⟩))
    all_goals (
      have hb34 := (Drew.once w2).below.trans ((hb3.mono (Drew.once w2).below.size).trans (hb4.mono (Nat.le_trans (Drew.once w2).below.size hb3.size)))
      have B4 := Kp.mk (B2.out.trans (hb34.mono B2.out.size))
      have N4 := Kp.mk (N2.out.later hb34)
      have M4 := Kp.mk o4
      have RW4 := Kp.mk (RW2.out.later hb34)
      clear hb34 hb3 hb4 o3 o4 hr3
      go_wp2_with fail
      refine (uni_same _ _ w4 M4.out N4.out HLn.out (fun i hi => rfl)).mono ?_
      rintro e w6 ⟨rfl, hd⟩
      have B6 := Kp.mk (B4.out.trans (hd.below.mono B4.out.size))
      have RW6 := Kp.mk (RW4.out.later hd.below)
      clear hd
      go_wp2
      go_ret2
      exact ⟨_, _, _, rfl, RW6.out, B6.out⟩)
  · have hne := intEq hz
    clear hz hL
    go_enter Tryd.func51, Tryd.ntmps51
    go_wp2_with (refine Great.wpList_boxTo rfl 41 (.tmp 1) rfl _ rfl g0 G0.out.symm (PopN.row ⟨kind, s, ad, x, D⟩).toArray rfl ?_; rw [← W1.out])
    refine K1.out.mono ?_
    rintro e w2 ⟨v2, rfl, ho2, hb⟩
    have B2 := Kp.mk (B1.out.trans (hb.mono B1.out.size))
    have O2 := Kp.mk (O1.out.later hb)
    have N2 := Kp.mk ho2
    clear hb c0 c2 c4 K1 ho2
    go_wp2_with fail
    go_region_held3 (fun v => v.cell? ⟨g0, 1, none⟩ = some (.int .i64 s) ∧ v.cell? ⟨g0, 2, none⟩ = some (.int .u32 (ad : Int)) ∧ v.cell? ⟨g0, 3, none⟩ = some (.int .u32 (x : Int)) ∧ v.cell? ⟨g0, 4, none⟩ = some (.string D)) (first | exact (O2.out.later (Drew.once _).below).s4 | exact ((O2.out.later (Drew.once _).below).later hb3).s4 | exact (((O2.out.later (Drew.once _).below).later hb3).later hb4).s4) (first | (go_at_call 16; refine (ref_copy _ _ _ _ _ (H0.out.later (B2.out.trans ((Drew.once _).below.mono B2.out.size)))).mono ?_; rintro e w3 ⟨v3, rfl, o3, hb3⟩; obtain ⟨a3, cap3, rfl, hr3⟩ := o3.rd hn) | (go_at_call 18; refine (KP.out _ _ _ hr3).mono ?_; rintro e w4 ⟨v4, rfl, o4, hb4⟩))
    all_goals (
      have hb34 := (Drew.once w2).below.trans ((hb3.mono (Drew.once w2).below.size).trans (hb4.mono (Nat.le_trans (Drew.once w2).below.size hb3.size)))
      have B4 := Kp.mk (B2.out.trans (hb34.mono B2.out.size))
      have N4 := Kp.mk (N2.out.later hb34)
      have M4 := Kp.mk o4
      clear hb34 hb3 hb4 o3 o4 hr3
      go_wp2_with fail
      refine (uni_same L _ w4 M4.out N4.out HLn.out (fun i hi => rfl)).mono ?_
      rintro e w6 ⟨rfl, hd⟩
      have B6 := Kp.mk (B4.out.trans (hd.below.mono B4.out.size))
      clear hd
      go_wp2
      go_ret2
      exact ⟨_, _, _, rfl, (H0.out.later B6.out), B6.out⟩)
end Go.Proofs.YtkkclkmiaenipaaDoor
