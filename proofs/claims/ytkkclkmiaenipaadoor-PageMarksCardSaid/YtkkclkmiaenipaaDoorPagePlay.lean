/- The statements' plays, walked. -/
import Derived.Test.YtkkclkmiaenipaaDoorPageStores
namespace Go.Proofs.YtkkclkmiaenipaaDoor
open Go Go.RowKit
set_option linter.unusedVariables false

theorem opLen {kind s : Int} {ad x : Nat} {D : ByteArray} : (Tryd.prog.info? 41).map (·.size) = some (PopN.row ⟨kind, s, ad, x, D⟩).length := by
  have h : (Tryd.prog.info? 41).map (·.size) = some 5 := by kernel_rfl
  exact h
set_option maxRecDepth 100000 in
set_option maxHeartbeats 4000000 in
theorem law_plays1 (A : Nat → Addr) (a : Option Addr) (n cap : Nat) (P : Nat → PageV) (o : PopV) (ho : o.fits) (hkd : o.kind = 1) (w : World) (h : RdP w a n cap P) (hE : Errs w allCodes A) (hT : TypeVar w) :
    Calls Tryd.prog 33 #[.slice a n cap, .agg o.row.toArray] w fun e w' => ∃ a' cap' P', e = .returned (.tuple #[.slice a' n cap', .bool true]) ∧ RdP w' a' n cap' P' ∧ Below w.heap.size w w' := by
  have H0 := Kp.mk h
  have HE := Kp.mk hE
  have HT := Kp.mk hT
  have hn := h.bound
  obtain ⟨kind, s, ad, x, D, hr, had, hx, hs, hD, hkk⟩ := o.num ho
  rw [hr]
  rw [← hkk] at hkd
  clear h hE hT hr ho hkk
  subst hkd
  obtain ⟨w1, hw1⟩ : ∃ w1, w1 = w.alloc (.cells (PopN.row ⟨1, s, ad, x, D⟩).toArray 41) := ⟨_, rfl⟩
  have B1 : Kp (Below w.heap.size w w1) := ⟨by rw [hw1]; exact (Below.refl _ _).alloc (Nat.le_refl _) _⟩
  have O1 : Kp (OpAt w1 w.heap.size ⟨1, s, ad, x, D⟩) := ⟨by rw [hw1]; exact OpAt.made w _⟩
  have W1 := Kp.mk hw1
  obtain ⟨g0, hg0⟩ : ∃ g0, g0 = w.heap.size := ⟨_, rfl⟩
  have G0 := Kp.mk hg0
  rw [← hg0] at O1
  clear hw1 hg0
  have c0 := O1.out.c0
  have c1 := O1.out.c1
  have c2 := O1.out.c2
  have c3 := O1.out.c3
  have c4 := O1.out.c4
  have HLE := Kp.mk (stC_le s)
  have K1 := Kp.mk (uni_ref_load a n cap P w1 (H0.out.later B1.out) ad had s)
  have KP := Kp.mk (fun (w' : World) a' cap' (hv : RdP w' a' n cap' P) (he : Errs w' [12] A) => uni_load A a' n cap' P w' hv ad had s he)
  obtain ⟨F, hF⟩ : ∃ F, F = stF P n ad s 0 := ⟨_, rfl⟩
  obtain ⟨C, hC⟩ : ∃ C, C = stC s := ⟨_, rfl⟩
  obtain ⟨V, hV⟩ : ∃ V, V = ldV P n ad s 0 := ⟨_, rfl⟩
  rw [← hF, ← hC, ← hV] at K1 KP
  rw [← hC] at HLE
  clear hF hC hV
  have hFF : ((F : Int) == (F : Int)) = true := by simp
  have hCC : ((C : Int) == (C : Int)) = true := by simp
  have hVV : ((V : Int) == (V : Int)) = true := by simp
  go_enter Tryd.func33, Tryd.ntmps33
  go_wp2_with (first | (refine Great.wpList_boxTo rfl 41 (.tmp 1) rfl _ rfl g0 G0.out.symm (PopN.row ⟨1, s, ad, x, D⟩).toArray rfl ?_; rw [← W1.out]) | (refine K1.out.mono ?_; rintro e w' ⟨rfl, hw⟩; obtain rfl := hw.symm))
  go_region_held3 (fun v => v.cell? ⟨g0, 1, none⟩ = some (.int .i64 s) ∧ v.cell? ⟨g0, 2, none⟩ = some (.int .u32 (ad : Int)) ∧ v.cell? ⟨g0, 3, none⟩ = some (.int .u32 (x : Int)) ∧ v.cell? ⟨g0, 4, none⟩ = some (.string D)) (first | exact (O1.out.later (Drew.once _).below).s4 | exact ((O1.out.later (Drew.once _).below).later hb3).s4 | exact (((O1.out.later (Drew.once _).below).later hb3).later hb4).s4) (first | (go_at_call 16; refine (ref_copy _ _ _ _ _ (H0.out.later (B1.out.trans ((Drew.once _).below.mono B1.out.size)))).mono ?_; rintro e w3 ⟨v3, rfl, o3, hb3⟩; obtain ⟨a3, cap3, rfl, hr3⟩ := o3.rd hn) | (go_at_call 12; refine (KP.out _ _ _ hr3 ((HE.out.later ((B1.out.trans ((Drew.once _).below.mono B1.out.size)).trans (hb3.mono (Nat.le_trans B1.out.size (Drew.once _).below.size)))).sub (by decide))).mono ?_; rintro e w4 ⟨rfl, hb4⟩))
  all_goals (
    have hb34 := (Drew.once w1).below.trans ((hb3.mono (Drew.once w1).below.size).trans (hb4.mono (Nat.le_trans (Drew.once w1).below.size hb3.size)))
    have B4 := Kp.mk (B1.out.trans (hb34.mono B1.out.size))
    clear hb34 hb3 hb4 o3 hr3
    go_wp2_with fail
    refine (law_code A _ w4 HLE.out (HE.out.later B4.out) (HT.out.later B4.out)).mono ?_
    rintro e w5 ⟨rfl, hb⟩
    have B5 := Kp.mk (B4.out.trans (hb.mono B4.out.size))
    clear hb
    go_wp2
    go_ret2
    first | exact ⟨_, _, _, rfl, H0.out.later B5.out, B5.out⟩ | exact ⟨_, _, rfl, ⟨_, H0.out.later B5.out⟩, B5.out⟩)
set_option maxRecDepth 100000 in
set_option maxHeartbeats 4000000 in
theorem law_plays3 (A : Nat → Addr) (a : Option Addr) (n cap : Nat) (P : Nat → PageV) (o : PopV) (ho : o.fits) (hkd : o.kind = 3) (w : World) (h : RdP w a n cap P) (hE : Errs w allCodes A) (hT : TypeVar w) :
    Calls Tryd.prog 33 #[.slice a n cap, .agg o.row.toArray] w fun e w' => ∃ a' cap' P', e = .returned (.tuple #[.slice a' n cap', .bool true]) ∧ RdP w' a' n cap' P' ∧ Below w.heap.size w w' := by
  have H0 := Kp.mk h
  have HE := Kp.mk hE
  have HT := Kp.mk hT
  have hn := h.bound
  obtain ⟨kind, s, ad, x, D, hr, had, hx, hs, hD, hkk⟩ := o.num ho
  rw [hr]
  rw [← hkk] at hkd
  clear h hE hT hr ho hkk
  subst hkd
  obtain ⟨w1, hw1⟩ : ∃ w1, w1 = w.alloc (.cells (PopN.row ⟨3, s, ad, x, D⟩).toArray 41) := ⟨_, rfl⟩
  have B1 : Kp (Below w.heap.size w w1) := ⟨by rw [hw1]; exact (Below.refl _ _).alloc (Nat.le_refl _) _⟩
  have O1 : Kp (OpAt w1 w.heap.size ⟨3, s, ad, x, D⟩) := ⟨by rw [hw1]; exact OpAt.made w _⟩
  have W1 := Kp.mk hw1
  obtain ⟨g0, hg0⟩ : ∃ g0, g0 = w.heap.size := ⟨_, rfl⟩
  have G0 := Kp.mk hg0
  rw [← hg0] at O1
  clear hw1 hg0
  have c0 := O1.out.c0
  have c1 := O1.out.c1
  have c2 := O1.out.c2
  have c3 := O1.out.c3
  have c4 := O1.out.c4
  have K1 := Kp.mk (ref_fetch a n cap P w1 (H0.out.later B1.out) ad had)
  have KP := Kp.mk (fun (w' : World) a' cap' (hv : RdP w' a' n cap' P) => page_fetch a' n cap' P w' hv ad had)
  obtain ⟨F, hF⟩ : ∃ F, F = lookF P n ad 4 2 := ⟨_, rfl⟩
  obtain ⟨V, hV⟩ : ∃ V, V = loadV P n ad 4 2 := ⟨_, rfl⟩
  rw [← hF, ← hV] at K1 KP
  clear hF hV
  have hFF : ((F : Int) == (F : Int)) = true := by simp
  have hVV : ((V : Int) == (V : Int)) = true := by simp
  go_enter Tryd.func33, Tryd.ntmps33
  go_wp2_with (first | (refine Great.wpList_boxTo rfl 41 (.tmp 1) rfl _ rfl g0 G0.out.symm (PopN.row ⟨3, s, ad, x, D⟩).toArray rfl ?_; rw [← W1.out]) | (refine K1.out.mono ?_; rintro e w' ⟨rfl, hw⟩; obtain rfl := hw.symm))
  go_region_held3 (fun v => v.cell? ⟨g0, 1, none⟩ = some (.int .i64 s) ∧ v.cell? ⟨g0, 2, none⟩ = some (.int .u32 (ad : Int)) ∧ v.cell? ⟨g0, 3, none⟩ = some (.int .u32 (x : Int)) ∧ v.cell? ⟨g0, 4, none⟩ = some (.string D)) (first | exact (O1.out.later (Drew.once _).below).s4 | exact ((O1.out.later (Drew.once _).below).later hb3).s4 | exact (((O1.out.later (Drew.once _).below).later hb3).later hb4).s4) (first | (go_at_call 16; refine (ref_copy _ _ _ _ _ (H0.out.later (B1.out.trans ((Drew.once _).below.mono B1.out.size)))).mono ?_; rintro e w3 ⟨v3, rfl, o3, hb3⟩; obtain ⟨a3, cap3, rfl, hr3⟩ := o3.rd hn) | (go_at_call 13; refine (KP.out _ _ _ hr3).mono ?_; rintro e w4 ⟨rfl, hw4⟩; have hb4 : Below w3.heap.size w3 w4 := by rw [hw4]; exact Below.refl _ _))
  all_goals (
    obtain rfl := hw4.symm
    have hb34 := (Drew.once w1).below.trans (hb3.mono (Drew.once w1).below.size)
    have B4 := Kp.mk (B1.out.trans (hb34.mono B1.out.size))
    clear hb34 hb3 hb4 o3 hr3
    go_wp2
    go_ret2
    first | exact ⟨_, _, _, rfl, H0.out.later B4.out, B4.out⟩ | exact ⟨_, _, rfl, ⟨_, H0.out.later B4.out⟩, B4.out⟩)
set_option maxRecDepth 100000 in
set_option maxHeartbeats 4000000 in
theorem law_plays4 (A : Nat → Addr) (a : Option Addr) (n cap : Nat) (P : Nat → PageV) (o : PopV) (ho : o.fits) (hkd : o.kind = 4) (w : World) (h : RdP w a n cap P) (hE : Errs w allCodes A) (hT : TypeVar w) :
    Calls Tryd.prog 33 #[.slice a n cap, .agg o.row.toArray] w fun e w' => ∃ a' cap' P', e = .returned (.tuple #[.slice a' n cap', .bool true]) ∧ RdP w' a' n cap' P' ∧ Below w.heap.size w w' := by
  have H0 := Kp.mk h
  have HE := Kp.mk hE
  have HT := Kp.mk hT
  have hn := h.bound
  obtain ⟨kind, s, ad, x, D, hr, had, hx, hs, hD, hkk⟩ := o.num ho
  rw [hr]
  rw [← hkk] at hkd
  clear h hE hT hr ho hkk
  subst hkd
  obtain ⟨w1, hw1⟩ : ∃ w1, w1 = w.alloc (.cells (PopN.row ⟨4, s, ad, x, D⟩).toArray 41) := ⟨_, rfl⟩
  have B1 : Kp (Below w.heap.size w w1) := ⟨by rw [hw1]; exact (Below.refl _ _).alloc (Nat.le_refl _) _⟩
  have O1 : Kp (OpAt w1 w.heap.size ⟨4, s, ad, x, D⟩) := ⟨by rw [hw1]; exact OpAt.made w _⟩
  have W1 := Kp.mk hw1
  obtain ⟨g0, hg0⟩ : ∃ g0, g0 = w.heap.size := ⟨_, rfl⟩
  have G0 := Kp.mk hg0
  rw [← hg0] at O1
  clear hw1 hg0
  have c0 := O1.out.c0
  have c1 := O1.out.c1
  have c2 := O1.out.c2
  have c3 := O1.out.c3
  have c4 := O1.out.c4
  have HLE := Kp.mk (otC_le s)
  have K1 := Kp.mk (uni_ref_out a n cap P w1 (H0.out.later B1.out) ad had s hs)
  have KP := Kp.mk (fun (w' : World) a' cap' (hv : RdP w' a' n cap' P) (he : Errs w' [12] A) => uni_out A a' n cap' P w' hv ad had s hs he)
  obtain ⟨F, hF⟩ : ∃ F, F = otF P n ad s := ⟨_, rfl⟩
  obtain ⟨C, hC⟩ : ∃ C, C = otC s := ⟨_, rfl⟩
  obtain ⟨V, hV⟩ : ∃ V, V = otS P n ad s := ⟨_, rfl⟩
  rw [← hF, ← hC, ← hV] at K1 KP
  rw [← hC] at HLE
  clear hF hC hV
  have hFF : ((F : Int) == (F : Int)) = true := by simp
  have hCC : ((C : Int) == (C : Int)) = true := by simp
  go_enter Tryd.func33, Tryd.ntmps33
  go_wp2_with (refine Great.wpList_boxTo rfl 41 (.tmp 1) rfl _ rfl g0 G0.out.symm (PopN.row ⟨4, s, ad, x, D⟩).toArray rfl ?_; rw [← W1.out])
  refine K1.out.mono ?_
  rintro e w2 ⟨rfl, hb⟩
  have B2 := Kp.mk (B1.out.trans (hb.mono B1.out.size))
  have O2 := Kp.mk (O1.out.later hb)
  clear hb c0 c1 c2 c3 c4 K1
  go_wp2_with fail
  go_region_held3 (fun v => v.cell? ⟨g0, 1, none⟩ = some (.int .i64 s) ∧ v.cell? ⟨g0, 2, none⟩ = some (.int .u32 (ad : Int)) ∧ v.cell? ⟨g0, 3, none⟩ = some (.int .u32 (x : Int)) ∧ v.cell? ⟨g0, 4, none⟩ = some (.string D)) (first | exact (O2.out.later (Drew.once _).below).s4 | exact ((O2.out.later (Drew.once _).below).later hb3).s4 | exact (((O2.out.later (Drew.once _).below).later hb3).later hb4).s4) (first | (go_at_call 16; refine (ref_copy _ _ _ _ _ (H0.out.later (B2.out.trans ((Drew.once _).below.mono B2.out.size)))).mono ?_; rintro e w3 ⟨v3, rfl, o3, hb3⟩; obtain ⟨a3, cap3, rfl, hr3⟩ := o3.rd hn) | (go_at_call 14; refine (KP.out _ _ _ hr3 ((HE.out.later ((B2.out.trans ((Drew.once _).below.mono B2.out.size)).trans (hb3.mono (Nat.le_trans B2.out.size (Drew.once _).below.size)))).sub (by decide))).mono ?_; rintro e w4 ⟨rfl, hb4⟩))
  all_goals (
    have hb34 := (Drew.once w2).below.trans ((hb3.mono (Drew.once w2).below.size).trans (hb4.mono (Nat.le_trans (Drew.once w2).below.size hb3.size)))
    have B4 := Kp.mk (B2.out.trans (hb34.mono B2.out.size))
    clear hb34 hb3 hb4 o3 hr3
    go_wp2_with fail
    refine (law_code A _ w4 HLE.out (HE.out.later B4.out) (HT.out.later B4.out)).mono ?_
    rintro e w5 ⟨rfl, hb⟩
    have B5 := Kp.mk (B4.out.trans (hb.mono B4.out.size))
    clear hb
    go_wp2
    go_ret2
    first | exact ⟨_, _, _, rfl, H0.out.later B5.out, B5.out⟩ | exact ⟨_, _, rfl, ⟨_, H0.out.later B5.out⟩, B5.out⟩)
set_option maxRecDepth 100000 in
set_option maxHeartbeats 4000000 in
theorem law_plays2 (A : Nat → Addr) (a : Option Addr) (n cap : Nat) (P : Nat → PageV) (o : PopV) (ho : o.fits) (hkd : o.kind = 2) (w : World) (h : RdP w a n cap P) (hE : Errs w allCodes A) (hT : TypeVar w) :
    Calls Tryd.prog 33 #[.slice a n cap, .agg o.row.toArray] w fun e w' => ∃ a' cap' P', e = .returned (.tuple #[.slice a' n cap', .bool true]) ∧ RdP w' a' n cap' P' ∧ Below w.heap.size w w' := by
  have H0 := Kp.mk h
  have HE := Kp.mk hE
  have HT := Kp.mk hT
  have hn := h.bound
  have KX := Kp.mk (fun (w' : World) (hb : Below w.heap.size w w') => law_stores2 A a n cap P o ho hkd w' (h.later hb) (hE.later hb) (hT.later hb))
  obtain ⟨kind, s, ad, x, D, hr, had, hx, hs, hD, hkk⟩ := o.num ho
  rw [hr] at KX ⊢
  rw [← hkk] at hkd
  clear h hE hT hr ho hkk
  subst hkd
  obtain ⟨w1, hw1⟩ : ∃ w1, w1 = w.alloc (.cells (PopN.row ⟨2, s, ad, x, D⟩).toArray 41) := ⟨_, rfl⟩
  have B1 : Kp (Below w.heap.size w w1) := ⟨by rw [hw1]; exact (Below.refl _ _).alloc (Nat.le_refl _) _⟩
  have O1 : Kp (OpAt w1 w.heap.size ⟨2, s, ad, x, D⟩) := ⟨by rw [hw1]; exact OpAt.made w _⟩
  have W1 := Kp.mk hw1
  obtain ⟨g0, hg0⟩ : ∃ g0, g0 = w.heap.size := ⟨_, rfl⟩
  have G0 := Kp.mk hg0
  rw [← hg0] at O1
  clear hw1 hg0
  have c0 := O1.out.c0
  have c1 := O1.out.c1
  have c2 := O1.out.c2
  have c3 := O1.out.c3
  have c4 := O1.out.c4
  have K1 := Kp.mk (KX.out w1 B1.out)
  go_enter Tryd.func33, Tryd.ntmps33
  go_wp2_with (first | (refine Great.wpList_boxTo rfl 41 (.tmp 1) rfl _ rfl g0 G0.out.symm (PopN.row ⟨2, s, ad, x, D⟩).toArray rfl ?_; rw [← W1.out]) | (refine wpList_load_mid rfl 41 _ rfl g0 0 rfl (PopN.row ⟨2, s, ad, x, D⟩) _ O1.out Tryd.underlying41 rfl opLen ?_))
  refine K1.out.mono ?_
  rintro e w2 ⟨a2, cap2, P2, rfl, hr2, hb⟩
  have R2 := Kp.mk hr2
  have B2 := Kp.mk (B1.out.trans (hb.mono B1.out.size))
  clear hb hr2
  go_wp2
  go_ret2
  first | exact ⟨_, _, _, rfl, R2.out, B2.out⟩ | exact ⟨_, _, rfl, ⟨_, R2.out⟩, B2.out⟩
set_option maxRecDepth 100000 in
set_option maxHeartbeats 4000000 in
theorem law_plays5 (A : Nat → Addr) (a : Option Addr) (n cap : Nat) (P : Nat → PageV) (o : PopV) (ho : o.fits) (hkd : o.kind = 5) (w : World) (h : RdP w a n cap P) (hE : Errs w allCodes A) (hT : TypeVar w) :
    Calls Tryd.prog 33 #[.slice a n cap, .agg o.row.toArray] w fun e w' => ∃ a' cap' P', e = .returned (.tuple #[.slice a' n cap', .bool true]) ∧ RdP w' a' n cap' P' ∧ Below w.heap.size w w' := by
  have H0 := Kp.mk h
  have HE := Kp.mk hE
  have HT := Kp.mk hT
  have hn := h.bound
  have KX := Kp.mk (fun (w' : World) (hb : Below w.heap.size w w') => law_stores5 A a n cap P o ho (by rw [hkd]; decide) w' (h.later hb) (hE.later hb) (hT.later hb))
  obtain ⟨kind, s, ad, x, D, hr, had, hx, hs, hD, hkk⟩ := o.num ho
  rw [hr] at KX ⊢
  rw [← hkk] at hkd
  clear h hE hT hr ho hkk
  subst hkd
  obtain ⟨w1, hw1⟩ : ∃ w1, w1 = w.alloc (.cells (PopN.row ⟨5, s, ad, x, D⟩).toArray 41) := ⟨_, rfl⟩
  have B1 : Kp (Below w.heap.size w w1) := ⟨by rw [hw1]; exact (Below.refl _ _).alloc (Nat.le_refl _) _⟩
  have O1 : Kp (OpAt w1 w.heap.size ⟨5, s, ad, x, D⟩) := ⟨by rw [hw1]; exact OpAt.made w _⟩
  have W1 := Kp.mk hw1
  obtain ⟨g0, hg0⟩ : ∃ g0, g0 = w.heap.size := ⟨_, rfl⟩
  have G0 := Kp.mk hg0
  rw [← hg0] at O1
  clear hw1 hg0
  have c0 := O1.out.c0
  have c1 := O1.out.c1
  have c2 := O1.out.c2
  have c3 := O1.out.c3
  have c4 := O1.out.c4
  have K1 := Kp.mk (KX.out w1 B1.out)
  go_enter Tryd.func33, Tryd.ntmps33
  go_wp2_with (first | (refine Great.wpList_boxTo rfl 41 (.tmp 1) rfl _ rfl g0 G0.out.symm (PopN.row ⟨5, s, ad, x, D⟩).toArray rfl ?_; rw [← W1.out]) | (refine wpList_load_mid rfl 41 _ rfl g0 0 rfl (PopN.row ⟨5, s, ad, x, D⟩) _ O1.out Tryd.underlying41 rfl opLen ?_))
  refine K1.out.mono ?_
  rintro e w2 ⟨a2, cap2, P2, rfl, hr2, hb⟩
  have R2 := Kp.mk hr2
  have B2 := Kp.mk (B1.out.trans (hb.mono B1.out.size))
  clear hb hr2
  go_wp2
  go_ret2
  first | exact ⟨_, _, _, rfl, R2.out, B2.out⟩ | exact ⟨_, _, rfl, ⟨_, R2.out⟩, B2.out⟩
set_option maxRecDepth 100000 in
set_option maxHeartbeats 4000000 in
theorem law_plays6 (A : Nat → Addr) (a : Option Addr) (n cap : Nat) (P : Nat → PageV) (o : PopV) (ho : o.fits) (hkd : o.kind = 6) (w : World) (h : RdP w a n cap P) (hE : Errs w allCodes A) (hT : TypeVar w) :
    Calls Tryd.prog 33 #[.slice a n cap, .agg o.row.toArray] w fun e w' => ∃ a' cap' P', e = .returned (.tuple #[.slice a' n cap', .bool true]) ∧ RdP w' a' n cap' P' ∧ Below w.heap.size w w' := by
  have H0 := Kp.mk h
  have HE := Kp.mk hE
  have HT := Kp.mk hT
  have hn := h.bound
  have KX := Kp.mk (fun (w' : World) (hb : Below w.heap.size w w') => law_pokes A a n cap P o ho w' (h.later hb) (hE.later hb) (hT.later hb))
  obtain ⟨kind, s, ad, x, D, hr, had, hx, hs, hD, hkk⟩ := o.num ho
  rw [hr] at KX ⊢
  rw [← hkk] at hkd
  clear h hE hT hr ho hkk
  subst hkd
  obtain ⟨w1, hw1⟩ : ∃ w1, w1 = w.alloc (.cells (PopN.row ⟨6, s, ad, x, D⟩).toArray 41) := ⟨_, rfl⟩
  have B1 : Kp (Below w.heap.size w w1) := ⟨by rw [hw1]; exact (Below.refl _ _).alloc (Nat.le_refl _) _⟩
  have O1 : Kp (OpAt w1 w.heap.size ⟨6, s, ad, x, D⟩) := ⟨by rw [hw1]; exact OpAt.made w _⟩
  have W1 := Kp.mk hw1
  obtain ⟨g0, hg0⟩ : ∃ g0, g0 = w.heap.size := ⟨_, rfl⟩
  have G0 := Kp.mk hg0
  rw [← hg0] at O1
  clear hw1 hg0
  have c0 := O1.out.c0
  have c1 := O1.out.c1
  have c2 := O1.out.c2
  have c3 := O1.out.c3
  have c4 := O1.out.c4
  have K1 := Kp.mk (KX.out w1 B1.out)
  go_enter Tryd.func33, Tryd.ntmps33
  go_wp2_with (first | (refine Great.wpList_boxTo rfl 41 (.tmp 1) rfl _ rfl g0 G0.out.symm (PopN.row ⟨6, s, ad, x, D⟩).toArray rfl ?_; rw [← W1.out]) | (refine wpList_load_mid rfl 41 _ rfl g0 0 rfl (PopN.row ⟨6, s, ad, x, D⟩) _ O1.out Tryd.underlying41 rfl opLen ?_))
  refine K1.out.mono ?_
  rintro e w2 ⟨a2, cap2, P2, rfl, hr2, hb⟩
  have R2 := Kp.mk hr2
  have B2 := Kp.mk (B1.out.trans (hb.mono B1.out.size))
  clear hb hr2
  go_wp2
  go_ret2
  first | exact ⟨_, _, _, rfl, R2.out, B2.out⟩ | exact ⟨_, _, rfl, ⟨_, R2.out⟩, B2.out⟩
set_option maxRecDepth 100000 in
set_option maxHeartbeats 4000000 in
theorem law_plays7 (A : Nat → Addr) (a : Option Addr) (n cap : Nat) (P : Nat → PageV) (o : PopV) (ho : o.fits) (hkd : o.kind = 7) (w : World) (h : RdP w a n cap P) (hE : Errs w allCodes A) (hT : TypeVar w) :
    Calls Tryd.prog 33 #[.slice a n cap, .agg o.row.toArray] w fun e w' => ∃ a' cap' P', e = .returned (.tuple #[.slice a' n cap', .bool true]) ∧ RdP w' a' n cap' P' ∧ Below w.heap.size w w' := by
  have H0 := Kp.mk h
  have HE := Kp.mk hE
  have HT := Kp.mk hT
  have hn := h.bound
  obtain ⟨kind, s, ad, x, D, hr, had, hx, hs, hD, hkk⟩ := o.num ho
  rw [hr]
  rw [← hkk] at hkd
  clear h hE hT hr ho hkk
  subst hkd
  obtain ⟨w1, hw1⟩ : ∃ w1, w1 = w.alloc (.cells (PopN.row ⟨7, s, ad, x, D⟩).toArray 41) := ⟨_, rfl⟩
  have B1 : Kp (Below w.heap.size w w1) := ⟨by rw [hw1]; exact (Below.refl _ _).alloc (Nat.le_refl _) _⟩
  have O1 : Kp (OpAt w1 w.heap.size ⟨7, s, ad, x, D⟩) := ⟨by rw [hw1]; exact OpAt.made w _⟩
  have W1 := Kp.mk hw1
  obtain ⟨g0, hg0⟩ : ∃ g0, g0 = w.heap.size := ⟨_, rfl⟩
  have G0 := Kp.mk hg0
  rw [← hg0] at O1
  clear hw1 hg0
  have c0 := O1.out.c0
  have c1 := O1.out.c1
  have c2 := O1.out.c2
  have c3 := O1.out.c3
  have c4 := O1.out.c4
  go_enter Tryd.func33, Tryd.ntmps33
  go_wp2_with (refine Great.wpList_boxTo rfl 41 (.tmp 1) rfl _ rfl g0 G0.out.symm (PopN.row ⟨7, s, ad, x, D⟩).toArray rfl ?_; rw [← W1.out])
  refine (ref_clean _ _ _ _ w1 (H0.out.later B1.out)).mono ?_
  rintro e w2 ⟨v2, rfl, o2, hb⟩
  obtain ⟨a2, cap2, rfl, hr2⟩ := o2.rd hn
  have R2 := Kp.mk hr2
  have B2 := Kp.mk (B1.out.trans (hb.mono B1.out.size))
  clear hb hr2 o2
  go_wp2_with fail
  refine (ref_copy _ _ _ _ w2 (H0.out.later B2.out)).mono ?_
  rintro e w3 ⟨v3, rfl, o3, hb⟩
  obtain ⟨a3, cap3, rfl, hr3⟩ := o3.rd hn
  have R3 := Kp.mk hr3
  have S3 := Kp.mk (R2.out.later hb)
  have B3 := Kp.mk (B2.out.trans (hb.mono B2.out.size))
  clear hb hr3 o3
  go_wp2_with fail
  refine (page_clean _ _ _ _ w3 R3.out).mono ?_
  rintro e w4 ⟨v4, rfl, o4, hb⟩
  have N4 := Kp.mk o4
  have S4 := Kp.mk (S3.out.later hb)
  have B4 := Kp.mk (B3.out.trans (hb.mono B3.out.size))
  clear hb o4
  go_wp2_with fail
  refine (ref_clean _ _ _ _ w4 (H0.out.later B4.out)).mono ?_
  rintro e w5 ⟨v5, rfl, o5, hb⟩
  have N5 := Kp.mk (N4.out.later hb)
  have M5 := Kp.mk o5
  have S5 := Kp.mk (S4.out.later hb)
  have B5 := Kp.mk (B4.out.trans (hb.mono B4.out.size))
  clear hb o5
  go_wp2_with fail
  refine (uni_same n _ w5 N5.out M5.out hn (fun i hi => rfl)).mono ?_
  rintro e w6 ⟨rfl, hd⟩
  have S6 := Kp.mk (S5.out.later hd.below)
  have B6 := Kp.mk (B5.out.trans (hd.below.mono B5.out.size))
  clear hd
  go_wp2
  go_ret2
  first | exact ⟨_, _, _, rfl, S6.out, B6.out⟩ | exact ⟨_, _, rfl, ⟨_, S6.out⟩, B6.out⟩
set_option maxRecDepth 100000 in
set_option maxHeartbeats 4000000 in
theorem law_plays8 (A : Nat → Addr) (a : Option Addr) (n cap : Nat) (P : Nat → PageV) (o : PopV) (ho : o.fits) (hkd : o.kind = 8) (w : World) (h : RdP w a n cap P) (hE : Errs w allCodes A) (hT : TypeVar w) :
    Calls Tryd.prog 33 #[.slice a n cap, .agg o.row.toArray] w fun e w' => ∃ a' cap' P', e = .returned (.tuple #[.slice a' n cap', .bool true]) ∧ RdP w' a' n cap' P' ∧ Below w.heap.size w w' := by
  have H0 := Kp.mk h
  have HE := Kp.mk hE
  have HT := Kp.mk hT
  have hn := h.bound
  obtain ⟨kind, s, ad, x, D, hr, had, hx, hs, hD, hkk⟩ := o.num ho
  rw [hr]
  rw [← hkk] at hkd
  clear h hE hT hr ho hkk
  subst hkd
  obtain ⟨w1, hw1⟩ : ∃ w1, w1 = w.alloc (.cells (PopN.row ⟨8, s, ad, x, D⟩).toArray 41) := ⟨_, rfl⟩
  have B1 : Kp (Below w.heap.size w w1) := ⟨by rw [hw1]; exact (Below.refl _ _).alloc (Nat.le_refl _) _⟩
  have O1 : Kp (OpAt w1 w.heap.size ⟨8, s, ad, x, D⟩) := ⟨by rw [hw1]; exact OpAt.made w _⟩
  have W1 := Kp.mk hw1
  obtain ⟨g0, hg0⟩ : ∃ g0, g0 = w.heap.size := ⟨_, rfl⟩
  have G0 := Kp.mk hg0
  rw [← hg0] at O1
  clear hw1 hg0
  have c0 := O1.out.c0
  have c1 := O1.out.c1
  have c2 := O1.out.c2
  have c3 := O1.out.c3
  have c4 := O1.out.c4
  go_enter Tryd.func33, Tryd.ntmps33
  go_wp2_with (refine Great.wpList_boxTo rfl 41 (.tmp 1) rfl _ rfl g0 G0.out.symm (PopN.row ⟨8, s, ad, x, D⟩).toArray rfl ?_; rw [← W1.out])
  refine (ref_copy _ _ _ _ w1 (H0.out.later B1.out)).mono ?_
  rintro e w2 ⟨v2, rfl, o2, hb⟩
  obtain ⟨a2, cap2, rfl, hr2⟩ := o2.rd hn
  have R2 := Kp.mk hr2
  have B2 := Kp.mk (B1.out.trans (hb.mono B1.out.size))
  clear hb hr2 o2
  go_wp2_with fail
  refine (page_copy _ _ _ _ w2 R2.out).mono ?_
  rintro e w3 ⟨v3, rfl, o3, hb⟩
  obtain ⟨a3, cap3, rfl, hr3⟩ := o3.rd hn
  have R3 := Kp.mk hr3
  have B3 := Kp.mk (B2.out.trans (hb.mono B2.out.size))
  clear hb hr3 o3
  go_wp2_with fail
  refine (ref_same _ _ n _ _ _ _ w3 R3.out (H0.out.later B3.out) (fun i hi => rfl)).mono ?_
  rintro e w4 ⟨rfl, hd⟩
  have B4 := Kp.mk (B3.out.trans (hd.below.mono B3.out.size))
  clear hd
  go_wp2_with fail
  refine (ref_copy _ _ _ _ w4 (H0.out.later B4.out)).mono ?_
  rintro e w5 ⟨v5, rfl, o5, hb⟩
  obtain ⟨a5, cap5, rfl, hr5⟩ := o5.rd hn
  have R5 := Kp.mk hr5
  have B5 := Kp.mk (B4.out.trans (hb.mono B4.out.size))
  clear hb hr5 o5
  go_wp2_with fail
  refine (page_written _ _ _ _ w5 R5.out).mono ?_
  rintro e w6 ⟨v6, rfl, o6, hb⟩
  have N6 := Kp.mk o6
  have B6 := Kp.mk (B5.out.trans (hb.mono B5.out.size))
  clear hb o6
  go_wp2_with fail
  refine (ref_written _ _ _ _ w6 (H0.out.later B6.out)).mono ?_
  rintro e w7 ⟨v7, rfl, o7, hb⟩
  have N7 := Kp.mk (N6.out.later hb)
  have M7 := Kp.mk o7
  have B7 := Kp.mk (B6.out.trans (hb.mono B6.out.size))
  have HLen := Kp.mk (dirtyL_length P n)
  clear hb o7
  go_wp2_with fail
  refine (law_ints _ _ _ _ _ w7 N7.out M7.out (by have := HLen.out; omega)).mono ?_
  rintro e w8 ⟨rfl, hd⟩
  have B8 := Kp.mk (B7.out.trans (hd.below.mono B7.out.size))
  clear hd
  go_wp2
  go_ret2
  first | exact ⟨_, _, _, rfl, H0.out.later B8.out, B8.out⟩ | exact ⟨_, _, rfl, ⟨_, H0.out.later B8.out⟩, B8.out⟩
set_option maxRecDepth 100000 in
set_option maxHeartbeats 4000000 in
theorem law_plays0 (A : Nat → Addr) (a : Option Addr) (n cap : Nat) (P : Nat → PageV) (o : PopV) (ho : o.fits) (hkd : o.kind ≠ 1 ∧ o.kind ≠ 2 ∧ o.kind ≠ 3 ∧ o.kind ≠ 4 ∧ o.kind ≠ 5 ∧ o.kind ≠ 6 ∧ o.kind ≠ 7 ∧ o.kind ≠ 8) (w : World) (h : RdP w a n cap P) (hE : Errs w allCodes A) (hT : TypeVar w) :
    Calls Tryd.prog 33 #[.slice a n cap, .agg o.row.toArray] w fun e w' => ∃ a' cap' P', e = .returned (.tuple #[.slice a' n cap', .bool true]) ∧ RdP w' a' n cap' P' ∧ Below w.heap.size w w' := by
  have H0 := Kp.mk h
  have HE := Kp.mk hE
  have HT := Kp.mk hT
  have hn := h.bound
  obtain ⟨kind, s, ad, x, D, hr, had, hx, hs, hD, hkk⟩ := o.num ho
  rw [hr]
  rw [← hkk] at hkd
  clear h hE hT hr ho hkk
  obtain ⟨w1, hw1⟩ : ∃ w1, w1 = w.alloc (.cells (PopN.row ⟨kind, s, ad, x, D⟩).toArray 41) := ⟨_, rfl⟩
  have B1 : Kp (Below w.heap.size w w1) := ⟨by rw [hw1]; exact (Below.refl _ _).alloc (Nat.le_refl _) _⟩
  have O1 : Kp (OpAt w1 w.heap.size ⟨kind, s, ad, x, D⟩) := ⟨by rw [hw1]; exact OpAt.made w _⟩
  have W1 := Kp.mk hw1
  obtain ⟨g0, hg0⟩ : ∃ g0, g0 = w.heap.size := ⟨_, rfl⟩
  have G0 := Kp.mk hg0
  rw [← hg0] at O1
  clear hw1 hg0
  have c0 := O1.out.c0
  have c1 := O1.out.c1
  have c2 := O1.out.c2
  have c3 := O1.out.c3
  have c4 := O1.out.c4
  have n1 : (kind == 1) = false := by have := hkd; simp; omega
  have n2 : (kind == 2) = false := by have := hkd; simp; omega
  have n3 : (kind == 3) = false := by have := hkd; simp; omega
  have n4 : (kind == 4) = false := by have := hkd; simp; omega
  have n5 : (kind == 5) = false := by have := hkd; simp; omega
  have n6 : (kind == 6) = false := by have := hkd; simp; omega
  have n7 : (kind == 7) = false := by have := hkd; simp; omega
  have n8 : (kind == 8) = false := by have := hkd; simp; omega
  clear hkd
  go_enter Tryd.func33, Tryd.ntmps33
  go_wp2_with (refine Great.wpList_boxTo rfl 41 (.tmp 1) rfl _ rfl g0 G0.out.symm (PopN.row ⟨kind, s, ad, x, D⟩).toArray rfl ?_; rw [← W1.out])
  go_ret2
  first | exact ⟨_, _, _, rfl, H0.out.later B1.out, B1.out⟩ | exact ⟨_, _, rfl, ⟨_, H0.out.later B1.out⟩, B1.out⟩
theorem law_plays (A : Nat → Addr) (a : Option Addr) (n cap : Nat) (P : Nat → PageV) (o : PopV) (ho : o.fits) (w : World) (h : RdP w a n cap P) (hE : Errs w allCodes A) (hT : TypeVar w) :
    Calls Tryd.prog 33 #[.slice a n cap, .agg o.row.toArray] w fun e w' => ∃ a' cap' P', e = .returned (.tuple #[.slice a' n cap', .bool true]) ∧ RdP w' a' n cap' P' ∧ Below w.heap.size w w' := by
  by_cases h1 : o.kind = 1
  · exact law_plays1 A a n cap P o ho h1 w h hE hT
  by_cases h2 : o.kind = 2
  · exact law_plays2 A a n cap P o ho h2 w h hE hT
  by_cases h3 : o.kind = 3
  · exact law_plays3 A a n cap P o ho h3 w h hE hT
  by_cases h4 : o.kind = 4
  · exact law_plays4 A a n cap P o ho h4 w h hE hT
  by_cases h5 : o.kind = 5
  · exact law_plays5 A a n cap P o ho h5 w h hE hT
  by_cases h6 : o.kind = 6
  · exact law_plays6 A a n cap P o ho h6 w h hE hT
  by_cases h7 : o.kind = 7
  · exact law_plays7 A a n cap P o ho h7 w h hE hT
  by_cases h8 : o.kind = 8
  · exact law_plays8 A a n cap P o ho h8 w h hE hT
  exact law_plays0 A a n cap P o ho ⟨h1, h2, h3, h4, h5, h6, h7, h8⟩ w h hE hT
end Go.Proofs.YtkkclkmiaenipaaDoor
