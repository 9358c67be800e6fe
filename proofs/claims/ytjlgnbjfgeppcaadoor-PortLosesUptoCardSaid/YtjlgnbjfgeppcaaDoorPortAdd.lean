/- add of both sides, walked. -/
import Derived.Test.YtjlgnbjfgeppcaaDoorPortMisc
import Derived.Deep.DeepMust
namespace Go.Proofs.YtjlgnbjfgeppcaaDoor
open Go Go.RowKit
set_option linter.unusedVariables false
attribute [local go_sem ↓] Go.wp_at_zero Go.wp_at_succ

theorem far1 {g s : Nat} (h : g < s) : ¬ g = s + 2 := by omega
theorem far2 {g s : Nat} (h : g < s) : ¬ s + 2 = g := by omega
theorem far3 {g s : Nat} (h : g < s) : ¬ g = s + 1 + 1 := by omega
theorem far4 {g s : Nat} (h : g < s) : ¬ s + 1 + 1 = g := by omega
theorem far5 {g s : Nat} (h : g < s) : ¬ s = g - 2 := by omega
theorem far6 {g s : Nat} (h : g < s) : ¬ g - 2 = s := by omega
theorem addC_bad {p : PortP} {l : List ByteArray} {g : Int} {D : ByteArray} {kd : Bool} (h : portC p l g ≠ 0) : addC p l g D kd = portC p l g := by unfold addC; rw [decide_eq_false h]; rfl
theorem addC_kind {p : PortP} {l : List ByteArray} {g : Int} {D : ByteArray} (h : portC p l g = 0) : addC p l g D false = 7 := by unfold addC; rw [decide_eq_true h]; rfl
theorem addC_size {p : PortP} {l : List ByteArray} {g : Int} {D : ByteArray} (h : portC p l g = 0) (h2 : p.size < (D.size : Int)) : addC p l g D true = 11 := by unfold addC; rw [decide_eq_true h, decide_eq_true h2]; rfl
theorem addC_one {p : PortP} {l : List ByteArray} {g : Int} {D : ByteArray} (h : portC p l g = 0) (h2 : ¬ p.size < (D.size : Int)) (h3 : p.kind ≤ 2) : addC p l g D true = 0 := by unfold addC; rw [decide_eq_true h, decide_eq_false h2, decide_eq_true h3]; rfl
theorem addC_full {p : PortP} {l : List ByteArray} {g : Int} {D : ByteArray} (h : portC p l g = 0) (h2 : ¬ p.size < (D.size : Int)) (h3 : ¬ p.kind ≤ 2) (h4 : (l.length : Int) = p.depth) : addC p l g D true = 14 := by unfold addC; rw [decide_eq_true h, decide_eq_false h2, decide_eq_false h3, decide_eq_true h4]; rfl
theorem addC_more {p : PortP} {l : List ByteArray} {g : Int} {D : ByteArray} (h : portC p l g = 0) (h2 : ¬ p.size < (D.size : Int)) (h3 : ¬ p.kind ≤ 2) (h4 : ¬ (l.length : Int) = p.depth) : addC p l g D true = 0 := by unfold addC; rw [decide_eq_true h, decide_eq_false h2, decide_eq_false h3, decide_eq_false h4]; rfl
theorem addL_not {p : PortP} {l : List ByteArray} {g : Int} {D : ByteArray} {kd : Bool} (h : addC p l g D kd ≠ 0) : addL p l g D kd = [] := by unfold addL; rw [decide_eq_false h]; rfl
theorem addL_one {p : PortP} {l : List ByteArray} {g : Int} {D : ByteArray} {kd : Bool} (h : addC p l g D kd = 0) (h3 : p.kind ≤ 2) : addL p l g D kd = [D] := by unfold addL; rw [decide_eq_true h, decide_eq_true h3]; rfl
theorem addL_more {p : PortP} {l : List ByteArray} {g : Int} {D : ByteArray} {kd : Bool} (h : addC p l g D kd = 0) (h3 : ¬ p.kind ≤ 2) : addL p l g D kd = l ++ [D] := by unfold addL; rw [decide_eq_true h, decide_eq_false h3]; rfl
theorem own_one (w : World) (D : ByteArray) : OwnS (w.alloc (.cells #[.string D] 9)) w.heap.size (.slice (some ⟨w.heap.size, 0, none⟩) 1 1) [D] :=
  World.ownsRow_lit w (sv [D]).toArray 1 (base := w.heap.size) (e := 9) (size := 1) (Nat.le_refl _) (by decide) rfl
theorem rd_one (w : World) (D : ByteArray) (hD : D.size < 9223372036854775808) : RdS (w.alloc (.cells #[.string D] 9)) (some ⟨w.heap.size, 0, none⟩) 1 1 [D] :=
  ⟨rfl, by omega, by omega, by simpa using hD, (fun h => by cases h), fun _ => ⟨w.heap.size, 0, rfl, fun i hi => by
    have : i = 0 := by omega
    subst this
    rw [World.cell?_alloc_new]
    rfl⟩⟩
theorem bool_ne {ik io : Bool} (h : false = (ik == io)) : ik = !io := by cases ik <;> cases io <;> simp_all
theorem bool_eq {ik io : Bool} (h : true = (ik == io)) : io = ik := by cases ik <;> cases io <;> simp_all
theorem OwnS.shapeN {w : World} {B : Nat} {v : Value} {l : List ByteArray} (h : OwnS w B v l) : ∃ a c m, Kp (m = l.length) ∧ v = .slice a m c := by
  obtain ⟨a, c, h⟩ := h.shape
  exact ⟨a, c, _, ⟨rfl⟩, h⟩
set_option maxRecDepth 100000 in
theorem ref_with (a : Option Addr) (n cap : Nat) (l : List ByteArray) (D : ByteArray) (w : World) (h : RdS w a n cap l) (hD : D.size < 9223372036854775808) (hn : n < 1000) :
    Calls Tryd.prog 61 #[.slice a n cap, .string D] w fun e w' => ∃ v, e = .returned v ∧ OwnS w' w.heap.size v (l ++ [D]) ∧ Below w.heap.size w w' := by
  have H := Kp.mk h
  have hl := h.len
  clear h
  have b1 : Below w.heap.size w (w.alloc (.cells #[] 9)) := (Below.refl _ _).alloc (Nat.le_refl _) _
  have R1 := Kp.mk (H.out.later b1)
  have B1 := Kp.mk b1
  have HLN : Kp (l.length = n) := ⟨hl⟩
  clear b1 hl
  go_enter Tryd.func61, Tryd.ntmps61
  go_wp2_with (at_builtin; first
    | (refine append_full rfl (.tmp 5) (.tmp 6) rfl (some ⟨w.heap.size, 0, none⟩) 0 [] rfl (rdEmpty _ _) a n cap l rfl R1.out (by omega) w.heap.size B1.out.size (fun _ => (Blk.new w #[] 9).ownNil (Nat.le_refl _)) ?_; rintro v2 w2 ho2 hb2 _; have B2 := Kp.mk (B1.out.trans (hb2.mono B1.out.size)); have O2 := Kp.mk (show OwnS w2 w.heap.size v2 l by simpa using ho2); clear ho2 hb2)
    | (refine append_str rfl (.tmp 7) (.tmp 9) rfl w2 D hD rfl w.heap.size v2 l rfl O2.out rfl (by rw [HLN.out]; omega) B2.out.size ?_; rintro v3 w3 ho hb))
  have B3 := Kp.mk (B2.out.trans hb)
  clear hb
  go_ret
  exact ⟨_, rfl, ho, B3.out⟩
theorem own_set2 (w : World) (b : Nat) (v0 v1 : Value) (D : ByteArray) : OwnS (((w.setCell ⟨b, 0, none⟩ v0).setCell ⟨b, 1, none⟩ v1).alloc (.cells #[.string D] 9)) w.heap.size (.slice (some ⟨w.heap.size, 0, none⟩) 1 1) [D] := by
  have h := own_one ((w.setCell ⟨b, 0, none⟩ v0).setCell ⟨b, 1, none⟩ v1) D
  have e : ((w.setCell ⟨b, 0, none⟩ v0).setCell ⟨b, 1, none⟩ v1).heap.size = w.heap.size := by simp
  rwa [e] at h
theorem RdS.clip {w : World} {a : Option Addr} {n cap : Nat} {l : List ByteArray} (h : RdS w a n cap l) : RdS w a n n l :=
  ⟨h.len, Nat.le_refl _, h.bound, h.size, fun e => by have := h.nil e; have := h.fits; omega, h.cells⟩
set_option maxRecDepth 100000 in
theorem ref_isIn (p : PortP) (w : World) :
    Calls Tryd.prog 60 #[.agg p.row.toArray] w fun e w' => e = .returned (.bool (inK p.kind)) ∧ Below w.heap.size w w' := by
  obtain ⟨k, s, d, r⟩ := p
  have b1 : Below w.heap.size w (w.alloc (.cells (rowK k s d r) 23)) := (Below.refl _ _).alloc (Nat.le_refl _) _
  show Calls Tryd.prog 60 #[.agg (rowK k s d r)] w fun e w' => e = .returned (.bool (inK k)) ∧ Below w.heap.size w w'
  have B1 := Kp.mk b1
  clear b1
  by_cases h1 : k = 1
  · have e1 : (k == 1) = true := by simpa using h1
    have hk : inK k = true := decide_eq_true (by omega)
    rw [hk]
    clear h1 hk
    go_enter Tryd.func60, Tryd.ntmps60
    go_wp2
    go_ret
    exact ⟨rfl, B1.out⟩
  · have e1 : (k == 1) = false := by simpa using h1
    by_cases h2 : k = 3
    · have e2 : (k == 3) = true := by simpa using h2
      have hk : inK k = true := decide_eq_true (by omega)
      rw [hk]
      clear h1 h2 hk
      go_enter Tryd.func60, Tryd.ntmps60
      go_wp2
      go_ret
      exact ⟨rfl, B1.out⟩
    · have e2 : (k == 3) = false := by simpa using h2
      have hk : inK k = false := decide_eq_false (by omega)
      rw [hk]
      clear h1 h2 hk
      go_enter Tryd.func60, Tryd.ntmps60
      go_wp2
      go_ret
      exact ⟨rfl, B1.out⟩
set_option maxRecDepth 100000 in
set_option maxHeartbeats 16000000 in
theorem port_add (A : Nat → Addr) (p : PortP) (a : Option Addr) (n cap : Nat) (l : List ByteArray) (g : Int) (D : ByteArray) (kd : Bool) (w : World) (h : RdS w a n cap l) (hD : D.size < 9223372036854775808) (hE : Errs w [4, 7, 8, 9, 11, 14] A) :
    Calls Tryd.prog 50 #[.agg p.row.toArray, .agg (portA a n cap g), .string D, .bool kd] w fun e w' => ∃ v, e = .returned (.tuple #[.agg #[v, .int .i64 0], errOf A (addC p l g D kd)]) ∧ OwnS w' w.heap.size v (addL p l g D kd) ∧ Below w.heap.size w w' := by
  obtain ⟨k, s, d, r⟩ := p
  obtain ⟨w3, e3, p3, q3, z3, b3⟩ := tri_box w k s d r a n cap g
  have E3 := Kp.mk e3
  have B3 := Kp.mk b3
  have H0 := Kp.mk h
  have P3 := Kp.mk p3
  have Q3 := Kp.mk q3
  have Z3 := Kp.mk z3
  have HLN := Kp.mk h.len
  have hnb := h.bound
  have HE := Kp.mk hE
  have HC := Kp.mk (port_check A ⟨k, s, d, r⟩ a n cap l g w3 (h.later b3) ((hE.later b3).sub (by decide)))
  clear h e3 p3 q3 z3 b3 hE
  have HQ : Kp (∀ w, Calls Tryd.prog 52 #[.agg (rowK k s d r)] w fun e w' => e = .returned (.bool (queueK k)) ∧ Below w.heap.size w w') := ⟨fun w => port_isQueue ⟨k, s, d, r⟩ w⟩
  by_cases hc : portC ⟨k, s, d, r⟩ l g = 0
  · cases kd with
    | false =>
      have e1 := addC_kind (D := D) hc
      have e2 := addL_not (p := ⟨k, s, d, r⟩) (l := l) (g := g) (D := D) (kd := false) (by rw [e1]; decide)
      rw [e1, e2]
      clear e1 e2
      rw [hc] at HC
      show Calls Tryd.prog 50 #[.agg (rowK k s d r), .agg (portA a n cap g), .string D, .bool false] w fun e w' => ∃ v, e = .returned (.tuple #[.agg #[v, .int .i64 0], errv (A 7)]) ∧ OwnS w' w.heap.size v ([]) ∧ Below w.heap.size w w'
      clear hc
      go_enter Tryd.func50, Tryd.ntmps50
      go_wp2_with fail
      rw [← E3.out]
      refine HC.out.mono ?_
      rintro e w4 ⟨rfl, hb⟩
      have B4 := Kp.mk (B3.out.trans (hb.mono B3.out.size))
      have Q4 := Kp.mk (Q3.out.later hb)
      have P4 := Kp.mk (P3.out.later hb)
      have Z4 := Kp.mk (Z3.out.later hb)
      clear hb
      have q0 := Q4.out.cell 0 _ rfl
      have q1 := Q4.out.cell 1 _ rfl
      have c0 := P4.out.c0
      have c1 := P4.out.c1
      have c2 := P4.out.c2
      have c3 := P4.out.c3
      have z0 := Z4.out.cell 0 _ rfl
      have z1 := Z4.out.cell 1 _ rfl
      have f0 := Z4.out.free 0
      have f1 := Z4.out.free 1
      have l2 := Z4.out.lt
      have hnil : errOf A 0 = Value.nilIface := rfl
      simp only [hnil]
      clear hnil
      go_wp2_with fail
      have x := (HE.out.later B4.out).cell 7 (by decide)
      have xl := World.block_lt_of_cell? w ⟨errVar 7, 0, none⟩ (HE.out.cell 7 (by decide))
      simp only [errVar] at x xl
      have x1 := far1 xl
      have x2 := far2 xl
      have x3 := far3 xl
      have x4 := far4 xl
      have x5 := far5 xl
      have x6 := far6 xl
      simp only [Nat.reduceSub] at x5 x6
      clear xl
      have HZ := Kp.mk (Z4.out.set2 (.slice none 0 0) (.int .i64 0))
      have BF := Kp.mk (below_set2 (B4.out.trans ((Drew.once w4).below.mono B4.out.size)) (w.heap.size + 2) (.slice none 0 0) (.int .i64 0) (by omega))
      have BG := Kp.mk (BF.out.drew)
      have BH := Kp.mk ((below_set2 B4.out (w.heap.size + 2) (.slice none 0 0) (.int .i64 0) (by omega)).drew)
      go_region
      all_goals (
        go_wp2
        refine bodyPost_ret (res2 (p := 8) (q := 9) (ty := 29) rfl _ rfl (by exact HZ.out) _ Tryd.underlying29 (portInfo _ rfl)) rfl ⟨_, rfl, OwnS.nil _ _, by first | exact BF.out | exact BH.out⟩)
    | true =>
      have hf := (portC_zero hc).2
      have hpl := planC_zero (portC_plan0 hc)
      have hk1 : 1 ≤ k := hpl.1
      have hk4 : k ≤ 4 := hpl.2.1
      have hd8 : d ≤ 8 := Int.le_trans hpl.2.2.2.2.2.1 (depthM_le k)
      have hdn : (n : Int) ≤ d := by have := (fitsP_parts hf).1; rw [HLN.out] at this; exact this
      clear hpl hf
      by_cases hs : s < (D.size : Int)
      · have hs' : decide ((D.size : Int) > s) = true := decide_eq_true hs
        have e1 := addC_size (D := D) hc hs
        have e2 := addL_not (p := ⟨k, s, d, r⟩) (l := l) (g := g) (D := D) (kd := true) (by rw [e1]; decide)
        rw [e1, e2]
        clear e1 e2
        rw [hc] at HC
        show Calls Tryd.prog 50 #[.agg (rowK k s d r), .agg (portA a n cap g), .string D, .bool true] w fun e w' => ∃ v, e = .returned (.tuple #[.agg #[v, .int .i64 0], errv (A 11)]) ∧ OwnS w' w.heap.size v ([]) ∧ Below w.heap.size w w'
        clear hc hs hk1 hk4 hd8 hdn
        go_enter Tryd.func50, Tryd.ntmps50
        go_wp2_with fail
        rw [← E3.out]
        refine HC.out.mono ?_
        rintro e w4 ⟨rfl, hb⟩
        have B4 := Kp.mk (B3.out.trans (hb.mono B3.out.size))
        have Q4 := Kp.mk (Q3.out.later hb)
        have P4 := Kp.mk (P3.out.later hb)
        have Z4 := Kp.mk (Z3.out.later hb)
        clear hb
        have q0 := Q4.out.cell 0 _ rfl
        have q1 := Q4.out.cell 1 _ rfl
        have c0 := P4.out.c0
        have c1 := P4.out.c1
        have c2 := P4.out.c2
        have c3 := P4.out.c3
        have z0 := Z4.out.cell 0 _ rfl
        have z1 := Z4.out.cell 1 _ rfl
        have f0 := Z4.out.free 0
        have f1 := Z4.out.free 1
        have l2 := Z4.out.lt
        have hnil : errOf A 0 = Value.nilIface := rfl
        simp only [hnil]
        clear hnil
        go_wp2_with fail
        have x := (HE.out.later B4.out).cell 11 (by decide)
        have xl := World.block_lt_of_cell? w ⟨errVar 11, 0, none⟩ (HE.out.cell 11 (by decide))
        simp only [errVar] at x xl
        have x1 := far1 xl
        have x2 := far2 xl
        have x3 := far3 xl
        have x4 := far4 xl
        have x5 := far5 xl
        have x6 := far6 xl
        simp only [Nat.reduceSub] at x5 x6
        clear xl
        have HZ := Kp.mk (Z4.out.set2 (.slice none 0 0) (.int .i64 0))
        have BF := Kp.mk (below_set2 (B4.out.trans ((Drew.once w4).below.mono B4.out.size)) (w.heap.size + 2) (.slice none 0 0) (.int .i64 0) (by omega))
        have BG := Kp.mk (BF.out.drew)
        have BH := Kp.mk ((below_set2 B4.out (w.heap.size + 2) (.slice none 0 0) (.int .i64 0) (by omega)).drew)
        go_region
        all_goals (
          go_wp2
          refine bodyPost_ret (res2 (p := 8) (q := 9) (ty := 29) rfl _ rfl (by exact HZ.out) _ Tryd.underlying29 (portInfo _ rfl)) rfl ⟨_, rfl, OwnS.nil _ _, by first | exact BF.out | exact BH.out⟩)
      have hs' : decide ((D.size : Int) > s) = false := decide_eq_false hs
      by_cases hk : (PortP.mk k s d r).kind ≤ 2
      · have e1 := addC_one (D := D) hc hs hk
        have e2 := addL_one e1 hk
        rw [e1, e2]
        clear e1 e2
        rw [hc] at HC
        show Calls Tryd.prog 50 #[.agg (rowK k s d r), .agg (portA a n cap g), .string D, .bool true] w fun e w' => ∃ v, e = .returned (.tuple #[.agg #[v, .int .i64 0], .nilIface]) ∧ OwnS w' w.heap.size v ([D]) ∧ Below w.heap.size w w'
        have hq : queueK k = false := decide_eq_false (by have hk : k ≤ 2 := hk; omega)
        rw [hq] at HQ
        clear hq
        clear hc hs hk hk1 hk4 hd8 hdn
        go_enter Tryd.func50, Tryd.ntmps50
        go_wp2_with fail
        rw [← E3.out]
        refine HC.out.mono ?_
        rintro e w4 ⟨rfl, hb⟩
        have B4 := Kp.mk (B3.out.trans (hb.mono B3.out.size))
        have Q4 := Kp.mk (Q3.out.later hb)
        have P4 := Kp.mk (P3.out.later hb)
        have Z4 := Kp.mk (Z3.out.later hb)
        clear hb
        have q0 := Q4.out.cell 0 _ rfl
        have q1 := Q4.out.cell 1 _ rfl
        have c0 := P4.out.c0
        have c1 := P4.out.c1
        have c2 := P4.out.c2
        have c3 := P4.out.c3
        have z0 := Z4.out.cell 0 _ rfl
        have z1 := Z4.out.cell 1 _ rfl
        have f0 := Z4.out.free 0
        have f1 := Z4.out.free 1
        have l2 := Z4.out.lt
        have hnil : errOf A 0 = Value.nilIface := rfl
        simp only [hnil]
        clear hnil
        go_wp2_with fail
        refine (HQ.out _).mono ?_
        rintro e w5 ⟨rfl, hb⟩
        have B5 := Kp.mk (B4.out.trans (hb.mono B4.out.size))
        have Q5 := Kp.mk (Q4.out.later hb)
        have P5 := Kp.mk (P4.out.later hb)
        have Z5 := Kp.mk (Z4.out.later hb)
        clear hb
        clear q0 q1 c0 c1 c2 c3 z0 z1 f0 f1 l2
        have q0 := Q5.out.cell 0 _ rfl
        have q1 := Q5.out.cell 1 _ rfl
        have c0 := P5.out.c0
        have c1 := P5.out.c1
        have c2 := P5.out.c2
        have c3 := P5.out.c3
        have z0 := Z5.out.cell 0 _ rfl
        have z1 := Z5.out.cell 1 _ rfl
        have f0 := Z5.out.free 0
        have f1 := Z5.out.free 1
        have l2 := Z5.out.lt
        go_wp2_with fail
        have HZ := Kp.mk ((Z5.out.set2 (.slice (some ⟨w5.heap.size, 0, none⟩) 1 1) (.int .i64 0)).alloc (.cells #[.string D] 9))
        have BF := Kp.mk ((below_set2 B5.out (w.heap.size + 2) (.slice (some ⟨w5.heap.size, 0, none⟩) 1 1) (.int .i64 0) (by omega)).alloc (below_set2 B5.out (w.heap.size + 2) (.slice (some ⟨w5.heap.size, 0, none⟩) 1 1) (.int .i64 0) (by omega)).size (.cells #[.string D] 9))
        have OF := Kp.mk ((own_set2 w5 (w.heap.size + 2) (.slice (some ⟨w5.heap.size, 0, none⟩) 1 1) (.int .i64 0) D).mono (B' := w.heap.size) B5.out.size)
        refine bodyPost_ret (res2 (p := 8) (q := 9) (ty := 29) rfl _ rfl HZ.out _ Tryd.underlying29 (portInfo _ rfl)) rfl ⟨_, rfl, OF.out, BF.out⟩
      by_cases hd : (n : Int) = d
      · have e1 := addC_full (D := D) hc hs hk (by rw [HLN.out]; exact hd)
        have e2 := addL_not (p := ⟨k, s, d, r⟩) (l := l) (g := g) (D := D) (kd := true) (by rw [e1]; decide)
        rw [e1, e2]
        clear e1 e2
        rw [hc] at HC
        show Calls Tryd.prog 50 #[.agg (rowK k s d r), .agg (portA a n cap g), .string D, .bool true] w fun e w' => ∃ v, e = .returned (.tuple #[.agg #[v, .int .i64 0], errv (A 14)]) ∧ OwnS w' w.heap.size v ([]) ∧ Below w.heap.size w w'
        have hq : queueK k = true := decide_eq_true (by have hk : ¬ k ≤ 2 := hk; omega)
        rw [hq] at HQ
        clear hq
        have hd' : ((n : Int) == d) = true := by simpa using hd
        clear hc hs hk hk1 hk4 hd8 hdn hd
        go_enter Tryd.func50, Tryd.ntmps50
        go_wp2_with fail
        rw [← E3.out]
        refine HC.out.mono ?_
        rintro e w4 ⟨rfl, hb⟩
        have B4 := Kp.mk (B3.out.trans (hb.mono B3.out.size))
        have Q4 := Kp.mk (Q3.out.later hb)
        have P4 := Kp.mk (P3.out.later hb)
        have Z4 := Kp.mk (Z3.out.later hb)
        clear hb
        have q0 := Q4.out.cell 0 _ rfl
        have q1 := Q4.out.cell 1 _ rfl
        have c0 := P4.out.c0
        have c1 := P4.out.c1
        have c2 := P4.out.c2
        have c3 := P4.out.c3
        have z0 := Z4.out.cell 0 _ rfl
        have z1 := Z4.out.cell 1 _ rfl
        have f0 := Z4.out.free 0
        have f1 := Z4.out.free 1
        have l2 := Z4.out.lt
        have hnil : errOf A 0 = Value.nilIface := rfl
        simp only [hnil]
        clear hnil
        go_wp2_with fail
        refine (HQ.out _).mono ?_
        rintro e w5 ⟨rfl, hb⟩
        have B5 := Kp.mk (B4.out.trans (hb.mono B4.out.size))
        have Q5 := Kp.mk (Q4.out.later hb)
        have P5 := Kp.mk (P4.out.later hb)
        have Z5 := Kp.mk (Z4.out.later hb)
        clear hb
        clear q0 q1 c0 c1 c2 c3 z0 z1 f0 f1 l2
        have q0 := Q5.out.cell 0 _ rfl
        have q1 := Q5.out.cell 1 _ rfl
        have c0 := P5.out.c0
        have c1 := P5.out.c1
        have c2 := P5.out.c2
        have c3 := P5.out.c3
        have z0 := Z5.out.cell 0 _ rfl
        have z1 := Z5.out.cell 1 _ rfl
        have f0 := Z5.out.free 0
        have f1 := Z5.out.free 1
        have l2 := Z5.out.lt
        go_wp2_with fail
        have x := (HE.out.later B5.out).cell 14 (by decide)
        have xl := World.block_lt_of_cell? w ⟨errVar 14, 0, none⟩ (HE.out.cell 14 (by decide))
        simp only [errVar] at x xl
        have x1 := far1 xl
        have x2 := far2 xl
        have x3 := far3 xl
        have x4 := far4 xl
        have x5 := far5 xl
        have x6 := far6 xl
        simp only [Nat.reduceSub] at x5 x6
        clear xl
        have HZ := Kp.mk (Z5.out.set2 (.slice none 0 0) (.int .i64 0))
        have BF := Kp.mk (below_set2 (B5.out.trans ((Drew.once w5).below.mono B5.out.size)) (w.heap.size + 2) (.slice none 0 0) (.int .i64 0) (by omega))
        have BG := Kp.mk (BF.out.drew)
        have BH := Kp.mk ((below_set2 B5.out (w.heap.size + 2) (.slice none 0 0) (.int .i64 0) (by omega)).drew)
        go_region
        all_goals (
          go_wp2
          refine bodyPost_ret (res2 (p := 8) (q := 9) (ty := 29) rfl _ rfl (by exact HZ.out) _ Tryd.underlying29 (portInfo _ rfl)) rfl ⟨_, rfl, OwnS.nil _ _, by first | exact BF.out | exact BH.out⟩)
      have e1 := addC_more (D := D) hc hs hk (by rw [HLN.out]; exact hd)
      have e2 := addL_more e1 hk
      rw [e1, e2]
      clear e1 e2
      rw [hc] at HC
      show Calls Tryd.prog 50 #[.agg (rowK k s d r), .agg (portA a n cap g), .string D, .bool true] w fun e w' => ∃ v, e = .returned (.tuple #[.agg #[v, .int .i64 0], .nilIface]) ∧ OwnS w' w.heap.size v (l ++ [D]) ∧ Below w.heap.size w w'
      have hq : queueK k = true := decide_eq_true (by have hk : ¬ k ≤ 2 := hk; omega)
      rw [hq] at HQ
      clear hq
      have hd' : ((n : Int) == d) = false := by simpa using hd
      have hn8 : n ≤ 8 := by omega
      clear hc hs hk hk1 hk4 hd8 hdn hd
      go_enter Tryd.func50, Tryd.ntmps50
      go_wp2_with fail
      rw [← E3.out]
      refine HC.out.mono ?_
      rintro e w4 ⟨rfl, hb⟩
      have B4 := Kp.mk (B3.out.trans (hb.mono B3.out.size))
      have Q4 := Kp.mk (Q3.out.later hb)
      have P4 := Kp.mk (P3.out.later hb)
      have Z4 := Kp.mk (Z3.out.later hb)
      clear hb
      have q0 := Q4.out.cell 0 _ rfl
      have q1 := Q4.out.cell 1 _ rfl
      have c0 := P4.out.c0
      have c1 := P4.out.c1
      have c2 := P4.out.c2
      have c3 := P4.out.c3
      have z0 := Z4.out.cell 0 _ rfl
      have z1 := Z4.out.cell 1 _ rfl
      have f0 := Z4.out.free 0
      have f1 := Z4.out.free 1
      have l2 := Z4.out.lt
      have hnil : errOf A 0 = Value.nilIface := rfl
      simp only [hnil]
      clear hnil
      go_wp2_with fail
      refine (HQ.out _).mono ?_
      rintro e w5 ⟨rfl, hb⟩
      have B5 := Kp.mk (B4.out.trans (hb.mono B4.out.size))
      have Q5 := Kp.mk (Q4.out.later hb)
      have P5 := Kp.mk (P4.out.later hb)
      have Z5 := Kp.mk (Z4.out.later hb)
      clear hb
      clear q0 q1 c0 c1 c2 c3 z0 z1 f0 f1 l2
      have q0 := Q5.out.cell 0 _ rfl
      have q1 := Q5.out.cell 1 _ rfl
      have c0 := P5.out.c0
      have c1 := P5.out.c1
      have c2 := P5.out.c2
      have c3 := P5.out.c3
      have z0 := Z5.out.cell 0 _ rfl
      have z1 := Z5.out.cell 1 _ rfl
      have f0 := Z5.out.free 0
      have f1 := Z5.out.free 1
      have l2 := Z5.out.lt
      go_wp2_with fail
      refine (str_clone a n cap l w5 (H0.out.later B5.out)).mono ?_
      rintro e w6 ⟨v, rfl, ho, hb⟩
      obtain ⟨a', c', rfl, hr⟩ := ho.rd (by rw [HLN.out]; omega) (H0.out.size)
      have B6 := Kp.mk (B5.out.trans (hb.mono B5.out.size))
      have Q6 := Kp.mk (Q5.out.later hb)
      have P6 := Kp.mk (P5.out.later hb)
      have Z6 := Kp.mk (Z5.out.later hb)
      clear hb
      clear q0 q1 c0 c1 c2 c3 z0 z1 f0 f1 l2
      have q0 := Q6.out.cell 0 _ rfl
      have q1 := Q6.out.cell 1 _ rfl
      have c0 := P6.out.c0
      have c1 := P6.out.c1
      have c2 := P6.out.c2
      have c3 := P6.out.c3
      have z0 := Z6.out.cell 0 _ rfl
      have z1 := Z6.out.cell 1 _ rfl
      have f0 := Z6.out.free 0
      have f1 := Z6.out.free 1
      have l2 := Z6.out.lt
      have R6 := Kp.mk hr
      clear hr ho
      go_wp2_with fail
      refine (str_clip a' l.length c' l w6 R6.out).mono ?_
      rintro e w' ⟨rfl, rfl⟩
      have hln := HLN.out
      have RC := Kp.mk (R6.out.clip)
      obtain ⟨wx, ex⟩ : ∃ wx, wx = w6.alloc (.cells #[.string D] 9) := ⟨_, rfl⟩
      have bx : Below w6.heap.size w6 wx := by rw [ex]; exact (Below.refl _ _).alloc (Nat.le_refl _) _
      have BX := Kp.mk bx
      have EX := Kp.mk ex
      have RX := Kp.mk (RC.out.later bx)
      have RD : Kp (RdS wx (some ⟨w6.heap.size, 0, none⟩) 1 1 [D]) := ⟨by rw [ex]; exact rd_one _ _ hD⟩
      clear bx ex hln
      go_wp2_with (rw [← EX.out]; refine append_full rfl (.tmp 50) (.tmp 52) rfl a' l.length l rfl RX.out (some ⟨w6.heap.size, 0, none⟩) 1 1 [D] rfl RD.out (by rw [HLN.out]; omega) w6.heap.size BX.out.size (fun h => by omega) ?_; rintro v2 wy ho hb _; obtain ⟨a2, c2', m2, hm2, rfl⟩ := ho.shapeN; have BY := Kp.mk (BX.out.trans (hb.mono BX.out.size)); have HO := Kp.mk ho; have HZY := Kp.mk (Z6.out.later BY.out); clear z0 z1 f0 f1 l2; have z0 := HZY.out.cell 0 _ rfl; have z1 := HZY.out.cell 1 _ rfl; have f0 := HZY.out.free 0; have f1 := HZY.out.free 1; have HZ := Kp.mk (HZY.out.set2 (.slice a2 m2 c2') (.int .i64 0)); have BF := Kp.mk (below_set2 (B6.out.trans (BY.out.mono B6.out.size)) (w.heap.size + 2) (.slice a2 m2 c2') (.int .i64 0) (by omega)); have OF := Kp.mk ((HO.out.set2 (w.heap.size + 2) (.slice a2 m2 c2') (.int .i64 0) Z6.out.lt).mono (B' := w.heap.size) B6.out.size); clear ho hb)
      refine bodyPost_ret (res2 (p := 8) (q := 9) (ty := 29) rfl _ rfl HZ.out _ Tryd.underlying29 (portInfo _ rfl)) rfl ⟨_, rfl, OF.out, BF.out⟩
  · rw [addC_bad hc, addL_not (by rw [addC_bad hc]; exact hc)]
    obtain ⟨c, ec⟩ : ∃ c, portC ⟨k, s, d, r⟩ l g = c + 1 := ⟨portC ⟨k, s, d, r⟩ l g - 1, by omega⟩
    rw [ec] at HC ⊢
    have hx : errOf A (c + 1) = errv (A (c + 1)) := rfl
    rw [hx] at HC ⊢
    clear hx hc ec
    show Calls Tryd.prog 50 #[.agg (rowK k s d r), .agg (portA a n cap g), .string D, .bool kd] w _
    go_enter Tryd.func50, Tryd.ntmps50
    go_wp2_with fail
    rw [← E3.out]
    refine HC.out.mono ?_
    rintro e w4 ⟨rfl, hb⟩
    have B4 := Kp.mk (B3.out.trans (hb.mono B3.out.size))
    have Q4 := Kp.mk (Q3.out.later hb)
    have P4 := Kp.mk (P3.out.later hb)
    have Z4 := Kp.mk (Z3.out.later hb)
    clear hb
    have q0 := Q4.out.cell 0 _ rfl
    have q1 := Q4.out.cell 1 _ rfl
    have c0 := P4.out.c0
    have c1 := P4.out.c1
    have c2 := P4.out.c2
    have c3 := P4.out.c3
    have z0 := Z4.out.cell 0 _ rfl
    have z1 := Z4.out.cell 1 _ rfl
    have f0 := Z4.out.free 0
    have f1 := Z4.out.free 1
    have l2 := Z4.out.lt
    go_wp2_with fail
    have HZ := Kp.mk (Z4.out.set2 (.slice none 0 0) (.int .i64 0))
    have BF := Kp.mk (below_set2 B4.out (w.heap.size + 2) (.slice none 0 0) (.int .i64 0) (by omega))
    refine bodyPost_ret (res2 (p := 8) (q := 9) (ty := 29) rfl _ rfl HZ.out _ Tryd.underlying29 (portInfo _ rfl)) rfl ⟨_, rfl, OwnS.nil _ _, BF.out⟩
set_option maxRecDepth 100000 in
set_option maxHeartbeats 16000000 in
theorem ref_add (p : PortP) (a : Option Addr) (n cap : Nat) (l : List ByteArray) (g : Int) (D : ByteArray) (io : Bool) (w : World) (h : RdS w a n cap l) (hD : D.size < 9223372036854775808) :
    Calls Tryd.prog 57 #[.agg p.row.toArray, .agg (portA a n cap g), .string D, .bool io] w fun e w' => ∃ v, e = .returned (.tuple #[.agg #[v, .int .i64 0], .int .i64 (addC p l g D (inK p.kind == io) : Nat)]) ∧ OwnS w' w.heap.size v (addL p l g D (inK p.kind == io)) ∧ Below w.heap.size w w' := by
  obtain ⟨k, s, d, r⟩ := p
  obtain ⟨w3, e3, p3, q3, z3, b3⟩ := tri_box w k s d r a n cap g
  have E3 := Kp.mk e3
  have B3 := Kp.mk b3
  have H0 := Kp.mk h
  have P3 := Kp.mk p3
  have Q3 := Kp.mk q3
  have Z3 := Kp.mk z3
  have HLN := Kp.mk h.len
  have hnb := h.bound
  have HC := Kp.mk (ref_check ⟨k, s, d, r⟩ a n cap l g w3 (h.later b3))
  clear h e3 p3 q3 z3 b3
  obtain ⟨kd, hkd⟩ : ∃ kd, kd = (inK k == io) := ⟨_, rfl⟩
  obtain ⟨ik, hik⟩ : ∃ ik, ik = inK k := ⟨_, rfl⟩
  have HI : Kp (∀ w, Calls Tryd.prog 60 #[.agg (rowK k s d r)] w fun e w' => e = .returned (.bool ik) ∧ Below w.heap.size w w') := ⟨fun w => by rw [hik]; exact ref_isIn ⟨k, s, d, r⟩ w⟩
  rw [← hik] at hkd
  show Calls Tryd.prog 57 #[.agg (rowK k s d r), .agg (portA a n cap g), .string D, .bool io] w fun e w' => ∃ v, e = .returned (.tuple #[.agg #[v, .int .i64 0], .int .i64 (addC ⟨k, s, d, r⟩ l g D (inK k == io) : Nat)]) ∧ OwnS w' w.heap.size v (addL ⟨k, s, d, r⟩ l g D (inK k == io)) ∧ Below w.heap.size w w'
  rw [← hik, ← hkd]
  clear hik
  by_cases hc : portC ⟨k, s, d, r⟩ l g = 0
  · cases kd with
    | false =>
      have e1 := addC_kind (D := D) hc
      have e2 := addL_not (p := ⟨k, s, d, r⟩) (l := l) (g := g) (D := D) (kd := false) (by rw [e1]; decide)
      rw [e1, e2]
      clear e1 e2
      rw [hc] at HC
      show Calls Tryd.prog 57 #[.agg (rowK k s d r), .agg (portA a n cap g), .string D, .bool io] w fun e w' => ∃ v, e = .returned (.tuple #[.agg #[v, .int .i64 0], .int .i64 7]) ∧ OwnS w' w.heap.size v ([]) ∧ Below w.heap.size w w'
      clear hc
      obtain rfl := bool_ne hkd
      clear hkd
      cases io
      all_goals (
        go_enter Tryd.func57, Tryd.ntmps57
        go_wp2_with fail
        rw [← E3.out]
        refine HC.out.mono ?_
        rintro e w4 ⟨rfl, hb⟩
        have B4 := Kp.mk (B3.out.trans (hb.mono B3.out.size))
        have Q4 := Kp.mk (Q3.out.later hb)
        have P4 := Kp.mk (P3.out.later hb)
        have Z4 := Kp.mk (Z3.out.later hb)
        clear hb
        have q0 := Q4.out.cell 0 _ rfl
        have q1 := Q4.out.cell 1 _ rfl
        have c0 := P4.out.c0
        have c1 := P4.out.c1
        have c2 := P4.out.c2
        have c3 := P4.out.c3
        have z0 := Z4.out.cell 0 _ rfl
        have z1 := Z4.out.cell 1 _ rfl
        have f0 := Z4.out.free 0
        have f1 := Z4.out.free 1
        have l2 := Z4.out.lt
        go_wp2_with fail
        refine (HI.out _).mono ?_
        rintro e w5 ⟨rfl, hb⟩
        have B5 := Kp.mk (B4.out.trans (hb.mono B4.out.size))
        have Q5 := Kp.mk (Q4.out.later hb)
        have P5 := Kp.mk (P4.out.later hb)
        have Z5 := Kp.mk (Z4.out.later hb)
        clear hb
        clear q0 q1 c0 c1 c2 c3 z0 z1 f0 f1 l2
        have q0 := Q5.out.cell 0 _ rfl
        have q1 := Q5.out.cell 1 _ rfl
        have c0 := P5.out.c0
        have c1 := P5.out.c1
        have c2 := P5.out.c2
        have c3 := P5.out.c3
        have z0 := Z5.out.cell 0 _ rfl
        have z1 := Z5.out.cell 1 _ rfl
        have f0 := Z5.out.free 0
        have f1 := Z5.out.free 1
        have l2 := Z5.out.lt
        go_wp2_with fail
        have HZ := Kp.mk (Z5.out.set2 (.slice none 0 0) (.int .i64 0))
        have BF := Kp.mk (below_set2 B5.out (w.heap.size + 2) (.slice none 0 0) (.int .i64 0) (by omega))
        refine bodyPost_ret (res2 (p := 8) (q := 9) (ty := 29) rfl _ rfl HZ.out _ Tryd.underlying29 (portInfo _ rfl)) rfl ⟨_, rfl, OwnS.nil _ _, BF.out⟩)
    | true =>
      obtain rfl := bool_eq hkd
      clear hkd
      have hf := (portC_zero hc).2
      have hpl := planC_zero (portC_plan0 hc)
      have hk1 : 1 ≤ k := hpl.1
      have hk4 : k ≤ 4 := hpl.2.1
      have hd8 : d ≤ 8 := Int.le_trans hpl.2.2.2.2.2.1 (depthM_le k)
      have hdn : (n : Int) ≤ d := by have := (fitsP_parts hf).1; rw [HLN.out] at this; exact this
      clear hpl hf
      by_cases hs : s < (D.size : Int)
      · have hs' : decide ((D.size : Int) > s) = true := decide_eq_true hs
        have e1 := addC_size (D := D) hc hs
        have e2 := addL_not (p := ⟨k, s, d, r⟩) (l := l) (g := g) (D := D) (kd := true) (by rw [e1]; decide)
        rw [e1, e2]
        clear e1 e2
        rw [hc] at HC
        show Calls Tryd.prog 57 #[.agg (rowK k s d r), .agg (portA a n cap g), .string D, .bool io] w fun e w' => ∃ v, e = .returned (.tuple #[.agg #[v, .int .i64 0], .int .i64 11]) ∧ OwnS w' w.heap.size v ([]) ∧ Below w.heap.size w w'
        clear hc hs hk1 hk4 hd8 hdn
        go_enter Tryd.func57, Tryd.ntmps57
        go_wp2_with fail
        rw [← E3.out]
        refine HC.out.mono ?_
        rintro e w4 ⟨rfl, hb⟩
        have B4 := Kp.mk (B3.out.trans (hb.mono B3.out.size))
        have Q4 := Kp.mk (Q3.out.later hb)
        have P4 := Kp.mk (P3.out.later hb)
        have Z4 := Kp.mk (Z3.out.later hb)
        clear hb
        have q0 := Q4.out.cell 0 _ rfl
        have q1 := Q4.out.cell 1 _ rfl
        have c0 := P4.out.c0
        have c1 := P4.out.c1
        have c2 := P4.out.c2
        have c3 := P4.out.c3
        have z0 := Z4.out.cell 0 _ rfl
        have z1 := Z4.out.cell 1 _ rfl
        have f0 := Z4.out.free 0
        have f1 := Z4.out.free 1
        have l2 := Z4.out.lt
        go_wp2_with fail
        refine (HI.out _).mono ?_
        rintro e w5 ⟨rfl, hb⟩
        have B5 := Kp.mk (B4.out.trans (hb.mono B4.out.size))
        have Q5 := Kp.mk (Q4.out.later hb)
        have P5 := Kp.mk (P4.out.later hb)
        have Z5 := Kp.mk (Z4.out.later hb)
        clear hb
        clear q0 q1 c0 c1 c2 c3 z0 z1 f0 f1 l2
        have q0 := Q5.out.cell 0 _ rfl
        have q1 := Q5.out.cell 1 _ rfl
        have c0 := P5.out.c0
        have c1 := P5.out.c1
        have c2 := P5.out.c2
        have c3 := P5.out.c3
        have z0 := Z5.out.cell 0 _ rfl
        have z1 := Z5.out.cell 1 _ rfl
        have f0 := Z5.out.free 0
        have f1 := Z5.out.free 1
        have l2 := Z5.out.lt
        go_wp2_with fail
        have HZ := Kp.mk (Z5.out.set2 (.slice none 0 0) (.int .i64 0))
        have BF := Kp.mk (below_set2 B5.out (w.heap.size + 2) (.slice none 0 0) (.int .i64 0) (by omega))
        refine bodyPost_ret (res2 (p := 8) (q := 9) (ty := 29) rfl _ rfl HZ.out _ Tryd.underlying29 (portInfo _ rfl)) rfl ⟨_, rfl, OwnS.nil _ _, BF.out⟩
      have hs' : decide ((D.size : Int) > s) = false := decide_eq_false hs
      by_cases hk : (PortP.mk k s d r).kind ≤ 2
      · have e1 := addC_one (D := D) hc hs hk
        have e2 := addL_one e1 hk
        rw [e1, e2]
        clear e1 e2
        rw [hc] at HC
        show Calls Tryd.prog 57 #[.agg (rowK k s d r), .agg (portA a n cap g), .string D, .bool io] w fun e w' => ∃ v, e = .returned (.tuple #[.agg #[v, .int .i64 0], .int .i64 0]) ∧ OwnS w' w.heap.size v ([D]) ∧ Below w.heap.size w w'
        have hk' : decide (k ≤ 2) = true := decide_eq_true hk
        clear hc hs hk hk1 hk4 hd8 hdn
        go_enter Tryd.func57, Tryd.ntmps57
        go_wp2_with fail
        rw [← E3.out]
        refine HC.out.mono ?_
        rintro e w4 ⟨rfl, hb⟩
        have B4 := Kp.mk (B3.out.trans (hb.mono B3.out.size))
        have Q4 := Kp.mk (Q3.out.later hb)
        have P4 := Kp.mk (P3.out.later hb)
        have Z4 := Kp.mk (Z3.out.later hb)
        clear hb
        have q0 := Q4.out.cell 0 _ rfl
        have q1 := Q4.out.cell 1 _ rfl
        have c0 := P4.out.c0
        have c1 := P4.out.c1
        have c2 := P4.out.c2
        have c3 := P4.out.c3
        have z0 := Z4.out.cell 0 _ rfl
        have z1 := Z4.out.cell 1 _ rfl
        have f0 := Z4.out.free 0
        have f1 := Z4.out.free 1
        have l2 := Z4.out.lt
        go_wp2_with fail
        refine (HI.out _).mono ?_
        rintro e w5 ⟨rfl, hb⟩
        have B5 := Kp.mk (B4.out.trans (hb.mono B4.out.size))
        have Q5 := Kp.mk (Q4.out.later hb)
        have P5 := Kp.mk (P4.out.later hb)
        have Z5 := Kp.mk (Z4.out.later hb)
        clear hb
        clear q0 q1 c0 c1 c2 c3 z0 z1 f0 f1 l2
        have q0 := Q5.out.cell 0 _ rfl
        have q1 := Q5.out.cell 1 _ rfl
        have c0 := P5.out.c0
        have c1 := P5.out.c1
        have c2 := P5.out.c2
        have c3 := P5.out.c3
        have z0 := Z5.out.cell 0 _ rfl
        have z1 := Z5.out.cell 1 _ rfl
        have f0 := Z5.out.free 0
        have f1 := Z5.out.free 1
        have l2 := Z5.out.lt
        go_wp2_with fail
        have HZ := Kp.mk ((Z5.out.set2 (.slice (some ⟨w5.heap.size, 0, none⟩) 1 1) (.int .i64 0)).alloc (.cells #[.string D] 9))
        have BF := Kp.mk ((below_set2 B5.out (w.heap.size + 2) (.slice (some ⟨w5.heap.size, 0, none⟩) 1 1) (.int .i64 0) (by omega)).alloc (below_set2 B5.out (w.heap.size + 2) (.slice (some ⟨w5.heap.size, 0, none⟩) 1 1) (.int .i64 0) (by omega)).size (.cells #[.string D] 9))
        have OF := Kp.mk ((own_set2 w5 (w.heap.size + 2) (.slice (some ⟨w5.heap.size, 0, none⟩) 1 1) (.int .i64 0) D).mono (B' := w.heap.size) B5.out.size)
        refine bodyPost_ret (res2 (p := 8) (q := 9) (ty := 29) rfl _ rfl HZ.out _ Tryd.underlying29 (portInfo _ rfl)) rfl ⟨_, rfl, OF.out, BF.out⟩
      by_cases hd : (n : Int) = d
      · have e1 := addC_full (D := D) hc hs hk (by rw [HLN.out]; exact hd)
        have e2 := addL_not (p := ⟨k, s, d, r⟩) (l := l) (g := g) (D := D) (kd := true) (by rw [e1]; decide)
        rw [e1, e2]
        clear e1 e2
        rw [hc] at HC
        show Calls Tryd.prog 57 #[.agg (rowK k s d r), .agg (portA a n cap g), .string D, .bool io] w fun e w' => ∃ v, e = .returned (.tuple #[.agg #[v, .int .i64 0], .int .i64 14]) ∧ OwnS w' w.heap.size v ([]) ∧ Below w.heap.size w w'
        have hk' : decide (k ≤ 2) = false := decide_eq_false hk
        have hd' : ((n : Int) == d) = true := by simpa using hd
        clear hc hs hk hk1 hk4 hd8 hdn hd
        go_enter Tryd.func57, Tryd.ntmps57
        go_wp2_with fail
        rw [← E3.out]
        refine HC.out.mono ?_
        rintro e w4 ⟨rfl, hb⟩
        have B4 := Kp.mk (B3.out.trans (hb.mono B3.out.size))
        have Q4 := Kp.mk (Q3.out.later hb)
        have P4 := Kp.mk (P3.out.later hb)
        have Z4 := Kp.mk (Z3.out.later hb)
        clear hb
        have q0 := Q4.out.cell 0 _ rfl
        have q1 := Q4.out.cell 1 _ rfl
        have c0 := P4.out.c0
        have c1 := P4.out.c1
        have c2 := P4.out.c2
        have c3 := P4.out.c3
        have z0 := Z4.out.cell 0 _ rfl
        have z1 := Z4.out.cell 1 _ rfl
        have f0 := Z4.out.free 0
        have f1 := Z4.out.free 1
        have l2 := Z4.out.lt
        go_wp2_with fail
        refine (HI.out _).mono ?_
        rintro e w5 ⟨rfl, hb⟩
        have B5 := Kp.mk (B4.out.trans (hb.mono B4.out.size))
        have Q5 := Kp.mk (Q4.out.later hb)
        have P5 := Kp.mk (P4.out.later hb)
        have Z5 := Kp.mk (Z4.out.later hb)
        clear hb
        clear q0 q1 c0 c1 c2 c3 z0 z1 f0 f1 l2
        have q0 := Q5.out.cell 0 _ rfl
        have q1 := Q5.out.cell 1 _ rfl
        have c0 := P5.out.c0
        have c1 := P5.out.c1
        have c2 := P5.out.c2
        have c3 := P5.out.c3
        have z0 := Z5.out.cell 0 _ rfl
        have z1 := Z5.out.cell 1 _ rfl
        have f0 := Z5.out.free 0
        have f1 := Z5.out.free 1
        have l2 := Z5.out.lt
        go_wp2_with fail
        have HZ := Kp.mk (Z5.out.set2 (.slice none 0 0) (.int .i64 0))
        have BF := Kp.mk (below_set2 B5.out (w.heap.size + 2) (.slice none 0 0) (.int .i64 0) (by omega))
        refine bodyPost_ret (res2 (p := 8) (q := 9) (ty := 29) rfl _ rfl HZ.out _ Tryd.underlying29 (portInfo _ rfl)) rfl ⟨_, rfl, OwnS.nil _ _, BF.out⟩
      have e1 := addC_more (D := D) hc hs hk (by rw [HLN.out]; exact hd)
      have e2 := addL_more e1 hk
      rw [e1, e2]
      clear e1 e2
      rw [hc] at HC
      show Calls Tryd.prog 57 #[.agg (rowK k s d r), .agg (portA a n cap g), .string D, .bool io] w fun e w' => ∃ v, e = .returned (.tuple #[.agg #[v, .int .i64 0], .int .i64 0]) ∧ OwnS w' w.heap.size v (l ++ [D]) ∧ Below w.heap.size w w'
      have hk' : decide (k ≤ 2) = false := decide_eq_false hk
      have hd' : ((n : Int) == d) = false := by simpa using hd
      have hn8 : n ≤ 8 := by omega
      clear hc hs hk hk1 hk4 hd8 hdn hd
      go_enter Tryd.func57, Tryd.ntmps57
      go_wp2_with fail
      rw [← E3.out]
      refine HC.out.mono ?_
      rintro e w4 ⟨rfl, hb⟩
      have B4 := Kp.mk (B3.out.trans (hb.mono B3.out.size))
      have Q4 := Kp.mk (Q3.out.later hb)
      have P4 := Kp.mk (P3.out.later hb)
      have Z4 := Kp.mk (Z3.out.later hb)
      clear hb
      have q0 := Q4.out.cell 0 _ rfl
      have q1 := Q4.out.cell 1 _ rfl
      have c0 := P4.out.c0
      have c1 := P4.out.c1
      have c2 := P4.out.c2
      have c3 := P4.out.c3
      have z0 := Z4.out.cell 0 _ rfl
      have z1 := Z4.out.cell 1 _ rfl
      have f0 := Z4.out.free 0
      have f1 := Z4.out.free 1
      have l2 := Z4.out.lt
      go_wp2_with fail
      refine (HI.out _).mono ?_
      rintro e w5 ⟨rfl, hb⟩
      have B5 := Kp.mk (B4.out.trans (hb.mono B4.out.size))
      have Q5 := Kp.mk (Q4.out.later hb)
      have P5 := Kp.mk (P4.out.later hb)
      have Z5 := Kp.mk (Z4.out.later hb)
      clear hb
      clear q0 q1 c0 c1 c2 c3 z0 z1 f0 f1 l2
      have q0 := Q5.out.cell 0 _ rfl
      have q1 := Q5.out.cell 1 _ rfl
      have c0 := P5.out.c0
      have c1 := P5.out.c1
      have c2 := P5.out.c2
      have c3 := P5.out.c3
      have z0 := Z5.out.cell 0 _ rfl
      have z1 := Z5.out.cell 1 _ rfl
      have f0 := Z5.out.free 0
      have f1 := Z5.out.free 1
      have l2 := Z5.out.lt
      go_wp2_with fail
      refine (ref_with a n cap l D w5 (H0.out.later B5.out) hD (by omega)).mono ?_
      rintro e w6 ⟨v, rfl, ho, hb⟩
      obtain ⟨a2, c2', m2, hm2, rfl⟩ := ho.shapeN
      have ZS := Kp.mk Z5.out.lt
      have B6 := Kp.mk (B5.out.trans (hb.mono B5.out.size))
      have Q6 := Kp.mk (Q5.out.later hb)
      have P6 := Kp.mk (P5.out.later hb)
      have Z6 := Kp.mk (Z5.out.later hb)
      have HO := Kp.mk ho
      clear hb ho
      clear q0 q1 c0 c1 c2 c3 z0 z1 f0 f1 l2
      have q0 := Q6.out.cell 0 _ rfl
      have q1 := Q6.out.cell 1 _ rfl
      have c0 := P6.out.c0
      have c1 := P6.out.c1
      have c2 := P6.out.c2
      have c3 := P6.out.c3
      have z0 := Z6.out.cell 0 _ rfl
      have z1 := Z6.out.cell 1 _ rfl
      have f0 := Z6.out.free 0
      have f1 := Z6.out.free 1
      have l2 := Z6.out.lt
      have HZ := Kp.mk (Z6.out.set2 (.slice a2 m2 c2') (.int .i64 0))
      have BF := Kp.mk (below_set2 B6.out (w.heap.size + 2) (.slice a2 m2 c2') (.int .i64 0) (by omega))
      have OF := Kp.mk ((HO.out.set2 (w.heap.size + 2) (.slice a2 m2 c2') (.int .i64 0) ZS.out).mono (B' := w.heap.size) B5.out.size)
      go_wp2_with fail
      refine bodyPost_ret (res2 (p := 8) (q := 9) (ty := 29) rfl _ rfl HZ.out _ Tryd.underlying29 (portInfo _ rfl)) rfl ⟨_, rfl, OF.out, BF.out⟩
  · clear hkd
    rw [addC_bad hc, addL_not (by rw [addC_bad hc]; exact hc)]
    have hz : (((portC ⟨k, s, d, r⟩ l g : Nat) : Int) != 0) = true := by simpa using hc
    obtain ⟨c, ec⟩ : ∃ c, c = portC ⟨k, s, d, r⟩ l g := ⟨_, rfl⟩
    rw [← ec] at HC hz ⊢
    clear hc ec
    go_enter Tryd.func57, Tryd.ntmps57
    go_wp2_with fail
    rw [← E3.out]
    refine HC.out.mono ?_
    rintro e w4 ⟨rfl, hb⟩
    have B4 := Kp.mk (B3.out.trans (hb.mono B3.out.size))
    have Q4 := Kp.mk (Q3.out.later hb)
    have P4 := Kp.mk (P3.out.later hb)
    have Z4 := Kp.mk (Z3.out.later hb)
    clear hb
    have q0 := Q4.out.cell 0 _ rfl
    have q1 := Q4.out.cell 1 _ rfl
    have c0 := P4.out.c0
    have c1 := P4.out.c1
    have c2 := P4.out.c2
    have c3 := P4.out.c3
    have z0 := Z4.out.cell 0 _ rfl
    have z1 := Z4.out.cell 1 _ rfl
    have f0 := Z4.out.free 0
    have f1 := Z4.out.free 1
    have l2 := Z4.out.lt
    go_wp2_with fail
    have HZ := Kp.mk (Z4.out.set2 (.slice none 0 0) (.int .i64 0))
    have BF := Kp.mk (below_set2 B4.out (w.heap.size + 2) (.slice none 0 0) (.int .i64 0) (by omega))
    refine bodyPost_ret (res2 (p := 8) (q := 9) (ty := 29) rfl _ rfl HZ.out _ Tryd.underlying29 (portInfo _ rfl)) rfl ⟨_, rfl, OwnS.nil _ _, BF.out⟩
end Go.Proofs.YtjlgnbjfgeppcaaDoor
