/- Age of the program, walked. -/
import Derived.Test.YtjlgnbjfgeppcaaDoorPortCopy
import Derived.Outline
namespace Go.Proofs.YtjlgnbjfgeppcaaDoor
open Go Go.RowKit
set_option linter.unusedVariables false

/-- A plan and a port boxed, and a port's cells for the result. -/
theorem tri_box (w : World) (k s d r : Int) (a : Option Addr) (n cap : Nat) (g : Int) : ∃ w3, w3 = ((w.alloc (.cells (rowK k s d r) 23)).alloc (.cells (portA a n cap g) 29)).alloc (.cells (portA none 0 0 0) 29) ∧
    PlanAt w3 w.heap.size ⟨k, s, d, r⟩ ∧ Blk w3 (w.heap.size + 1) (portA a n cap g) 29 ∧ Blk w3 (w.heap.size + 2) (portA none 0 0 0) 29 ∧ Below w.heap.size w w3 := by
  obtain ⟨w1, e1, p1, b1⟩ := plan_box w k s d r
  have hz : w1.heap.size = w.heap.size + 1 := by rw [e1]; simp
  obtain ⟨w3, e3, q, z, b3⟩ := port_two w1 a n cap g
  rw [hz] at q z
  exact ⟨w3, by rw [e3, e1], p1.later b3, q, z, b1.trans (b3.mono b1.size)⟩
/-- The age and the messages behind Age. -/
def ageUp (p : PortP) (n : Nat) (g : Int) : Int := bif decide (p.kind = 1) && decide (0 < n) then (bif decide (254 < g) then 255 else g + 1) else g
def ageG (p : PortP) (l : List ByteArray) (g : Int) : Int := bif decide (portC p l g = 0) then ageUp p l.length g else 0
def ageL (p : PortP) (l : List ByteArray) (g : Int) : List ByteArray := bif decide (portC p l g = 0) then l else []
theorem fitsP_parts {p : PortP} {l : List ByteArray} {g : Int} (h : fitsP p l g = true) : (l.length : Int) ≤ p.depth ∧ 0 ≤ g ∧ g ≤ 255 ∧ (g = 0 ∨ (p.kind = 1 ∧ 0 < l.length)) ∧ allLe p.size l = true := by
  unfold fitsP at h
  simp only [Bool.and_eq_true, Bool.or_eq_true, decide_eq_true_eq] at h
  obtain ⟨⟨⟨⟨h1, h2⟩, h3⟩, h4⟩, h5⟩ := h
  exact ⟨h1, h2, h3, h4, h5⟩
theorem portC_zero {p : PortP} {l : List ByteArray} {g : Int} (h : portC p l g = 0) : planC p = 0 ∧ fitsP p l g = true := by
  unfold portC at h
  by_cases hp : planC p = 0
  · refine ⟨hp, ?_⟩
    rw [decide_eq_true hp] at h
    cases hf : fitsP p l g with
    | true => rfl
    | false => rw [hf] at h; simp at h
  · rw [decide_eq_false hp] at h; simp at h
set_option maxRecDepth 100000 in
set_option maxHeartbeats 8000000 in
theorem port_age (A : Nat → Addr) (p : PortP) (a : Option Addr) (n cap : Nat) (l : List ByteArray) (g : Int) (w : World) (h : RdS w a n cap l) (hE : Errs w [4, 7, 8, 9, 11] A) :
    Calls Tryd.prog 13 #[.agg p.row.toArray, .agg (portA a n cap g)] w fun e w' => ∃ v, e = .returned (.tuple #[.agg #[v, .int .i64 (ageG p l g)], errOf A (portC p l g)]) ∧ OwnS w' w.heap.size v (ageL p l g) ∧ Below w.heap.size w w' := by
  obtain ⟨k, s, d, r⟩ := p
  obtain ⟨w3, e3, p3, q3, z3, b3⟩ := tri_box w k s d r a n cap g
  have E3 := Kp.mk e3
  have B3 := Kp.mk b3
  have H0 := Kp.mk h
  have P3 := Kp.mk p3
  have Q3 := Kp.mk q3
  have Z3 := Kp.mk z3
  have HC := Kp.mk (port_check A ⟨k, s, d, r⟩ a n cap l g w3 (h.later b3) (hE.later b3))
  have hln := h.len
  clear h hE e3 p3 q3 z3 b3
  by_cases hc : portC ⟨k, s, d, r⟩ l g = 0
  · obtain ⟨hp, hf⟩ := portC_zero hc
    obtain ⟨_, hg0, hg1, _, _⟩ := fitsP_parts hf
    have e1 : ageG ⟨k, s, d, r⟩ l g = ageUp ⟨k, s, d, r⟩ n g := by unfold ageG; rw [decide_eq_true hc, hln]; rfl
    have e2 : ageL ⟨k, s, d, r⟩ l g = l := by unfold ageL; rw [decide_eq_true hc]; rfl
    rw [e1, e2, hc]
    rw [hc] at HC
    clear e1 e2 hc hp hf
    have HCP : Kp (∀ w4, Below w.heap.size w w4 → Calls Tryd.prog 54 #[.agg (portA a n cap g)] w4 fun e w' => ∃ v, e = .returned (.agg #[v, .int .i64 g]) ∧ OwnS w' w4.heap.size v l ∧ Below w4.heap.size w4 w') := ⟨fun w4 hb => port_copied a n cap l g w4 (H0.out.later hb)⟩
    have HLN := Kp.mk hln
    clear hln
    show Calls Tryd.prog 13 #[.agg (rowK k s d r), .agg (portA a n cap g)] w fun e w' => ∃ v, e = .returned (.tuple #[.agg #[v, .int .i64 (ageUp ⟨k, s, d, r⟩ n g)], .nilIface]) ∧ OwnS w' w.heap.size v l ∧ Below w.heap.size w w'
    by_cases hk : k = 1
    · by_cases hn : 0 < n
      · by_cases hg : 254 < g
        · have HU : Kp (ageUp ⟨k, s, d, r⟩ n g = 255) := ⟨by unfold ageUp; rw [decide_eq_true (p := (PortP.mk k s d r).kind = 1) hk, decide_eq_true hn, decide_eq_true hg]; rfl⟩
          have hg' : g = 255 := by omega
          subst hk
          subst hg'
          have hn' : decide (0 < n) = true := decide_eq_true hn
          have hn'' : decide ((n : Int) > 0) = true := decide_eq_true (by omega)
          clear hn hg hg0 hg1
          go_enter Tryd.func13, Tryd.ntmps13
          go_wp2_with fail
          rw [← E3.out]
          refine HC.out.mono ?_
          rintro e w4 ⟨rfl, hb⟩
          have B4 := Kp.mk (B3.out.trans (hb.mono B3.out.size))
          have Q4 := Kp.mk (Q3.out.later hb)
          have P4 := Kp.mk (P3.out.later hb)
          have Z4 := Kp.mk (Z3.out.later hb)
          have q0 := Q4.out.cell 0 _ rfl
          have q1 := Q4.out.cell 1 _ rfl
          have hnil : errOf A 0 = Value.nilIface := rfl
          simp only [hnil]
          clear hb hnil
          go_wp2_with fail
          refine (HCP.out w4 B4.out).mono ?_
          rintro e w5 ⟨v, rfl, ho, hb⟩
          obtain ⟨a', c', rfl⟩ := ho.shape
          have B5 := Kp.mk (B4.out.trans (hb.mono B4.out.size))
          have Q5 := Kp.mk (Q4.out.later hb)
          have P5 := Kp.mk (P4.out.later hb)
          have Z5 := Kp.mk (Z4.out.later hb)
          have HO5 := Kp.mk ho
          clear q0 q1 ho hb
          have q0 := Q5.out.cell 0 _ rfl
          have q1 := Q5.out.cell 1 _ rfl
          have c0 := P5.out.c0
          have z0 := Z5.out.cell 0 _ rfl
          have z1 := Z5.out.cell 1 _ rfl
          have f0 := Z5.out.free 0
          have f1 := Z5.out.free 1
          have l0 : w.heap.size < w5.heap.size := Nat.lt_trans (by omega) Z5.out.lt
          have l1 : w.heap.size + 1 < w5.heap.size := Q5.out.lt
          have l2 : w.heap.size + 2 < w5.heap.size := Z5.out.lt
          go_wp2_with fail
          have HZ := Kp.mk ((Z5.out.set2 (.slice a' l.length c') (.int .i64 (min 256 255))).alloc (.cells #[.slice a' l.length c', .int .i64 (min 256 255)] 29))
          have HO := Kp.mk (((HO5.out.set2 (w.heap.size + 2) (.slice a' l.length c') (.int .i64 (min 256 255)) Z4.out.lt).later ((Below.refl _ _).alloc (Nat.le_refl _) (.cells #[.slice a' l.length c', .int .i64 (min 256 255)] 29))).mono (B' := w.heap.size) B4.out.size)
          have BF := Kp.mk ((below_set2 B5.out (w.heap.size + 2) (.slice a' l.length c') (.int .i64 (min 256 255)) (by omega)).alloc (below_set2 B5.out (w.heap.size + 2) (.slice a' l.length c') (.int .i64 (min 256 255)) (by omega)).size (.cells #[.slice a' l.length c', .int .i64 (min 256 255)] 29))
          refine bodyPost_ret (res2 (p := 4) (q := 5) (ty := 29) rfl _ rfl HZ.out _ Tryd.underlying29 (portInfo _ rfl)) rfl ⟨_, ?_, HO.out, BF.out⟩
          rw [HU.out]
          rfl
        · have HU : Kp (ageUp ⟨k, s, d, r⟩ n g = g + 1) := ⟨by unfold ageUp; rw [decide_eq_true (p := (PortP.mk k s d r).kind = 1) hk, decide_eq_true hn, decide_eq_false hg]; rfl⟩
          subst hk
          have hn' : decide (0 < n) = true := decide_eq_true hn
          have hn'' : decide ((n : Int) > 0) = true := decide_eq_true (by omega)
          have hmin : min (g + 1) 255 = g + 1 := by omega
          clear hn
          go_enter Tryd.func13, Tryd.ntmps13
          go_wp2_with fail
          rw [← E3.out]
          refine HC.out.mono ?_
          rintro e w4 ⟨rfl, hb⟩
          have B4 := Kp.mk (B3.out.trans (hb.mono B3.out.size))
          have Q4 := Kp.mk (Q3.out.later hb)
          have P4 := Kp.mk (P3.out.later hb)
          have Z4 := Kp.mk (Z3.out.later hb)
          have q0 := Q4.out.cell 0 _ rfl
          have q1 := Q4.out.cell 1 _ rfl
          have hnil : errOf A 0 = Value.nilIface := rfl
          simp only [hnil]
          clear hb hnil
          go_wp2_with fail
          refine (HCP.out w4 B4.out).mono ?_
          rintro e w5 ⟨v, rfl, ho, hb⟩
          obtain ⟨a', c', rfl⟩ := ho.shape
          have B5 := Kp.mk (B4.out.trans (hb.mono B4.out.size))
          have Q5 := Kp.mk (Q4.out.later hb)
          have P5 := Kp.mk (P4.out.later hb)
          have Z5 := Kp.mk (Z4.out.later hb)
          have HO5 := Kp.mk ho
          clear q0 q1 ho hb
          have q0 := Q5.out.cell 0 _ rfl
          have q1 := Q5.out.cell 1 _ rfl
          have c0 := P5.out.c0
          have z0 := Z5.out.cell 0 _ rfl
          have z1 := Z5.out.cell 1 _ rfl
          have f0 := Z5.out.free 0
          have f1 := Z5.out.free 1
          have l0 : w.heap.size < w5.heap.size := Nat.lt_trans (by omega) Z5.out.lt
          have l1 : w.heap.size + 1 < w5.heap.size := Q5.out.lt
          have l2 : w.heap.size + 2 < w5.heap.size := Z5.out.lt
          go_wp2_with fail
          have HZ := Kp.mk ((Z5.out.set2 (.slice a' l.length c') (.int .i64 (g + 1))).alloc (.cells #[.slice a' l.length c', .int .i64 (g + 1)] 29))
          have HO := Kp.mk (((HO5.out.set2 (w.heap.size + 2) (.slice a' l.length c') (.int .i64 (g + 1)) Z4.out.lt).later ((Below.refl _ _).alloc (Nat.le_refl _) (.cells #[.slice a' l.length c', .int .i64 (g + 1)] 29))).mono (B' := w.heap.size) B4.out.size)
          have BF := Kp.mk ((below_set2 B5.out (w.heap.size + 2) (.slice a' l.length c') (.int .i64 (g + 1)) (by omega)).alloc (below_set2 B5.out (w.heap.size + 2) (.slice a' l.length c') (.int .i64 (g + 1)) (by omega)).size (.cells #[.slice a' l.length c', .int .i64 (g + 1)] 29))
          refine bodyPost_ret (res2 (p := 4) (q := 5) (ty := 29) rfl _ rfl HZ.out _ Tryd.underlying29 (portInfo _ rfl)) rfl ⟨_, ?_, HO.out, BF.out⟩
          rw [HU.out]
          rfl
      · have HU : Kp (ageUp ⟨k, s, d, r⟩ n g = g) := ⟨by unfold ageUp; rw [decide_eq_false hn, Bool.and_false]; rfl⟩
        subst hk
        have hn' : decide (0 < n) = false := decide_eq_false hn
        have hn'' : decide ((n : Int) > 0) = false := decide_eq_false (by omega)
        clear hn
        go_enter Tryd.func13, Tryd.ntmps13
        go_wp2_with fail
        rw [← E3.out]
        refine HC.out.mono ?_
        rintro e w4 ⟨rfl, hb⟩
        have B4 := Kp.mk (B3.out.trans (hb.mono B3.out.size))
        have Q4 := Kp.mk (Q3.out.later hb)
        have P4 := Kp.mk (P3.out.later hb)
        have Z4 := Kp.mk (Z3.out.later hb)
        have q0 := Q4.out.cell 0 _ rfl
        have q1 := Q4.out.cell 1 _ rfl
        have hnil : errOf A 0 = Value.nilIface := rfl
        simp only [hnil]
        clear hb hnil
        go_wp2_with fail
        refine (HCP.out w4 B4.out).mono ?_
        rintro e w5 ⟨v, rfl, ho, hb⟩
        obtain ⟨a', c', rfl⟩ := ho.shape
        have B5 := Kp.mk (B4.out.trans (hb.mono B4.out.size))
        have Q5 := Kp.mk (Q4.out.later hb)
        have P5 := Kp.mk (P4.out.later hb)
        have Z5 := Kp.mk (Z4.out.later hb)
        have HO5 := Kp.mk ho
        clear q0 q1 ho hb
        have q0 := Q5.out.cell 0 _ rfl
        have q1 := Q5.out.cell 1 _ rfl
        have c0 := P5.out.c0
        have z0 := Z5.out.cell 0 _ rfl
        have z1 := Z5.out.cell 1 _ rfl
        have f0 := Z5.out.free 0
        have f1 := Z5.out.free 1
        have l0 : w.heap.size < w5.heap.size := Nat.lt_trans (by omega) Z5.out.lt
        have l1 : w.heap.size + 1 < w5.heap.size := Q5.out.lt
        have l2 : w.heap.size + 2 < w5.heap.size := Z5.out.lt
        go_wp2_with fail
        have HZ := Kp.mk ((Z5.out.set2 (.slice a' l.length c') (.int .i64 (g))).alloc (.cells #[.slice a' l.length c', .int .i64 (g)] 29))
        have HO := Kp.mk (((HO5.out.set2 (w.heap.size + 2) (.slice a' l.length c') (.int .i64 (g)) Z4.out.lt).later ((Below.refl _ _).alloc (Nat.le_refl _) (.cells #[.slice a' l.length c', .int .i64 (g)] 29))).mono (B' := w.heap.size) B4.out.size)
        have BF := Kp.mk ((below_set2 B5.out (w.heap.size + 2) (.slice a' l.length c') (.int .i64 (g)) (by omega)).alloc (below_set2 B5.out (w.heap.size + 2) (.slice a' l.length c') (.int .i64 (g)) (by omega)).size (.cells #[.slice a' l.length c', .int .i64 (g)] 29))
        refine bodyPost_ret (res2 (p := 4) (q := 5) (ty := 29) rfl _ rfl HZ.out _ Tryd.underlying29 (portInfo _ rfl)) rfl ⟨_, ?_, HO.out, BF.out⟩
        rw [HU.out]
        rfl
    · have HU : Kp (ageUp ⟨k, s, d, r⟩ n g = g) := ⟨by unfold ageUp; rw [decide_eq_false (p := (PortP.mk k s d r).kind = 1) hk, Bool.false_and]; rfl⟩
      have hk' : (k == 1) = false := by simpa using hk
      clear hk
      go_enter Tryd.func13, Tryd.ntmps13
      go_wp2_with fail
      rw [← E3.out]
      refine HC.out.mono ?_
      rintro e w4 ⟨rfl, hb⟩
      have B4 := Kp.mk (B3.out.trans (hb.mono B3.out.size))
      have Q4 := Kp.mk (Q3.out.later hb)
      have P4 := Kp.mk (P3.out.later hb)
      have Z4 := Kp.mk (Z3.out.later hb)
      have q0 := Q4.out.cell 0 _ rfl
      have q1 := Q4.out.cell 1 _ rfl
      have hnil : errOf A 0 = Value.nilIface := rfl
      simp only [hnil]
      clear hb hnil
      go_wp2_with fail
      refine (HCP.out w4 B4.out).mono ?_
      rintro e w5 ⟨v, rfl, ho, hb⟩
      obtain ⟨a', c', rfl⟩ := ho.shape
      have B5 := Kp.mk (B4.out.trans (hb.mono B4.out.size))
      have Q5 := Kp.mk (Q4.out.later hb)
      have P5 := Kp.mk (P4.out.later hb)
      have Z5 := Kp.mk (Z4.out.later hb)
      have HO5 := Kp.mk ho
      clear q0 q1 ho hb
      have q0 := Q5.out.cell 0 _ rfl
      have q1 := Q5.out.cell 1 _ rfl
      have c0 := P5.out.c0
      have z0 := Z5.out.cell 0 _ rfl
      have z1 := Z5.out.cell 1 _ rfl
      have f0 := Z5.out.free 0
      have f1 := Z5.out.free 1
      have l0 : w.heap.size < w5.heap.size := Nat.lt_trans (by omega) Z5.out.lt
      have l1 : w.heap.size + 1 < w5.heap.size := Q5.out.lt
      have l2 : w.heap.size + 2 < w5.heap.size := Z5.out.lt
      go_wp2_with fail
      have HZ := Kp.mk ((Z5.out.set2 (.slice a' l.length c') (.int .i64 (g))).alloc (.cells #[.slice a' l.length c', .int .i64 (g)] 29))
      have HO := Kp.mk (((HO5.out.set2 (w.heap.size + 2) (.slice a' l.length c') (.int .i64 (g)) Z4.out.lt).later ((Below.refl _ _).alloc (Nat.le_refl _) (.cells #[.slice a' l.length c', .int .i64 (g)] 29))).mono (B' := w.heap.size) B4.out.size)
      have BF := Kp.mk ((below_set2 B5.out (w.heap.size + 2) (.slice a' l.length c') (.int .i64 (g)) (by omega)).alloc (below_set2 B5.out (w.heap.size + 2) (.slice a' l.length c') (.int .i64 (g)) (by omega)).size (.cells #[.slice a' l.length c', .int .i64 (g)] 29))
      refine bodyPost_ret (res2 (p := 4) (q := 5) (ty := 29) rfl _ rfl HZ.out _ Tryd.underlying29 (portInfo _ rfl)) rfl ⟨_, ?_, HO.out, BF.out⟩
      rw [HU.out]
      rfl
  · have e1 : ageG ⟨k, s, d, r⟩ l g = 0 := by unfold ageG; rw [decide_eq_false hc]; rfl
    have e2 : ageL ⟨k, s, d, r⟩ l g = [] := by unfold ageL; rw [decide_eq_false hc]; rfl
    rw [e1, e2]
    obtain ⟨c, ec⟩ : ∃ c, portC ⟨k, s, d, r⟩ l g = c + 1 := ⟨portC ⟨k, s, d, r⟩ l g - 1, by omega⟩
    rw [ec] at HC ⊢
    clear e1 e2 hc ec hln
    show Calls Tryd.prog 13 #[.agg (rowK k s d r), .agg (portA a n cap g)] w fun e w' => ∃ v, e = .returned (.tuple #[.agg #[v, .int .i64 0], errv (A (c + 1))]) ∧ OwnS w' w.heap.size v [] ∧ Below w.heap.size w w'
    have hx : errOf A (c + 1) = errv (A (c + 1)) := rfl
    rw [hx] at HC
    clear hx
    go_enter Tryd.func13, Tryd.ntmps13
    go_wp2_with fail
    rw [← E3.out]
    refine HC.out.mono ?_
    rintro e w4 ⟨rfl, hb⟩
    have z0 := (Z3.out.later hb).cell 0 _ rfl
    have z1 := (Z3.out.later hb).cell 1 _ rfl
    have f0 := (Z3.out.later hb).free 0
    have f1 := (Z3.out.later hb).free 1
    have HZ := Kp.mk ((Z3.out.later hb).set2 (.slice none 0 0) (.int .i64 0))
    have B4 := Kp.mk (below_set2 (B3.out.trans (hb.mono B3.out.size)) (w.heap.size + 2) (.slice none 0 0) (.int .i64 0) (by omega))
    clear hb
    go_wp2_with fail
    refine bodyPost_ret (res2 (p := 4) (q := 5) (ty := 29) rfl _ rfl HZ.out _ Tryd.underlying29 (portInfo _ rfl)) rfl ⟨_, rfl, OwnS.nil _ _, B4.out⟩
end Go.Proofs.YtjlgnbjfgeppcaaDoor
