/- Put and Write of both sides, walked. -/
import Derived.Test.YtjlgnbjfgeppcaaDoorPortAdd
namespace Go.Proofs.YtjlgnbjfgeppcaaDoor
open Go Go.RowKit
set_option linter.unusedVariables false
attribute [local go_sem ↓] Go.wp_at_zero Go.wp_at_succ

theorem PlanAt.other2 {w : World} {b : Nat} {p : PortP} (h : PlanAt w b p) (g : Nat) (v0 v1 : Value) (hg : b ≠ g) : PlanAt ((w.setCell ⟨g, 0, none⟩ v0).setCell ⟨g, 1, none⟩ v1) b p := fun j v hv => by
  have h0 := h j v hv
  rw [← h0]
  exact World.cell?_of_block (a := ⟨b, 0 + j, none⟩) ((heap_setCell_other _ ⟨g, 1, none⟩ b _ hg).trans (heap_setCell_other _ ⟨g, 0, none⟩ b _ hg))
/-- The cells of the plan and the port. -/
def PQS (w : World) (b : Nat) (k s d r : Int) (a : Option Addr) (n cap : Nat) (g : Int) : Prop :=
  w.cell? ⟨b, 0, none⟩ = some (.int .i64 k) ∧ w.cell? ⟨b, 1, none⟩ = some (.int .i64 s) ∧ w.cell? ⟨b, 2, none⟩ = some (.int .i64 d) ∧ w.cell? ⟨b, 3, none⟩ = some (.int .i64 r) ∧
  w.cell? ⟨b + 1, 0, none⟩ = some (.slice a n cap) ∧ w.cell? ⟨b + 1, 1, none⟩ = some (.int .i64 g)
theorem pqs_of {w : World} {b : Nat} {k s d r : Int} {a : Option Addr} {n cap : Nat} {g : Int} (h : PlanAt w b ⟨k, s, d, r⟩) (h2 : Blk w (b + 1) (portA a n cap g) 29) : PQS w b k s d r a n cap g :=
  ⟨h.c0, h.c1, h.c2, h.c3, h2.cell 0 _ rfl, h2.cell 1 _ rfl⟩
theorem addC_write (p : PortP) (l : List ByteArray) (g : Int) (D : ByteArray) : addC p l g D (outK p.kind) = addC p l g D (!inK p.kind) ∧ addL p l g D (outK p.kind) = addL p l g D (!inK p.kind) := by
  by_cases hc : portC p l g = 0
  · have h := planC_zero (portC_plan0 hc)
    have e : outK p.kind = !inK p.kind := by
      unfold outK inK
      rcases (by omega : p.kind = 1 ∨ p.kind = 2 ∨ p.kind = 3 ∨ p.kind = 4) with h | h | h | h <;> rw [h] <;> decide
    rw [e]
    exact ⟨rfl, rfl⟩
  · have e1 : ∀ b, addC p l g D b = portC p l g := fun b => addC_bad hc
    have e2 : ∀ b, addL p l g D b = [] := fun b => addL_not (by rw [e1]; exact hc)
    rw [e1, e1, e2, e2]
    exact ⟨rfl, rfl⟩
set_option maxRecDepth 100000 in
set_option maxHeartbeats 8000000 in
theorem port_put (A : Nat → Addr) (p : PortP) (a : Option Addr) (n cap : Nat) (l : List ByteArray) (g : Int) (D : ByteArray) (w : World) (h : RdS w a n cap l) (hD : D.size < 9223372036854775808) (hE : Errs w [4, 7, 8, 9, 11, 14] A) :
    Calls Tryd.prog 11 #[.agg p.row.toArray, .agg (portA a n cap g), .string D] w fun e w' => ∃ v, e = .returned (.tuple #[.agg #[v, .int .i64 0], errOf A (addC p l g D (inK p.kind))]) ∧ OwnS w' w.heap.size v (addL p l g D (inK p.kind)) ∧ Below w.heap.size w w' := by
  obtain ⟨k, s, d, r⟩ := p
  obtain ⟨w3, e3, p3, q3, z3, b3⟩ := tri_box w k s d r a n cap g
  have E3 := Kp.mk e3
  have B3 := Kp.mk b3
  have H3 := Kp.mk (h.later b3)
  have Z3 := Kp.mk z3
  have SQ : Kp (∀ v, Below w3.heap.size w3 v → PQS v w.heap.size k s d r a n cap g) := ⟨fun v hv => pqs_of (p3.later hv) (q3.later hv)⟩
  have SR : Kp (∀ v x y, Below w3.heap.size w3 v → PQS ((v.setCell ⟨w.heap.size + 2, 0, none⟩ x).setCell ⟨w.heap.size + 2, 1, none⟩ y) w.heap.size k s d r a n cap g) := ⟨fun v x y hv => pqs_of ((p3.later hv).other2 _ _ _ (by omega)) ((q3.later hv).other2 _ _ _ (by omega))⟩
  have c0 := p3.c0
  have c1 := p3.c1
  have c2 := p3.c2
  have c3 := p3.c3
  have q0 := q3.cell 0 _ rfl
  have q1 := q3.cell 1 _ rfl
  have HE := Kp.mk (hE.later b3)
  obtain ⟨ik, hik⟩ : ∃ ik, ik = inK k := ⟨_, rfl⟩
  have HI : Kp (∀ w, Calls Tryd.prog 51 #[.agg (rowK k s d r)] w fun e w' => e = .returned (.bool ik) ∧ Below w.heap.size w w') := ⟨fun w => by rw [hik]; exact port_isIn ⟨k, s, d, r⟩ w⟩
  have HA : Kp (∀ v, Below w3.heap.size w3 v → Calls Tryd.prog 50 #[.agg (rowK k s d r), .agg (portA a n cap g), .string D, .bool ik] v fun e w' => ∃ x, e = .returned (.tuple #[.agg #[x, .int .i64 0], errOf A (addC ⟨k, s, d, r⟩ l g D ik)]) ∧ OwnS w' v.heap.size x (addL ⟨k, s, d, r⟩ l g D ik) ∧ Below v.heap.size v w') := ⟨fun v hv => port_add A ⟨k, s, d, r⟩ a n cap l g D ik v (H3.out.later hv) hD (HE.out.later hv)⟩
  show Calls Tryd.prog 11 #[.agg (rowK k s d r), .agg (portA a n cap g), .string D] w fun e w' => ∃ v, e = .returned (.tuple #[.agg #[v, .int .i64 0], errOf A (addC ⟨k, s, d, r⟩ l g D (inK k))]) ∧ OwnS w' w.heap.size v (addL ⟨k, s, d, r⟩ l g D (inK k)) ∧ Below w.heap.size w w'
  rw [← hik]
  obtain ⟨ev, hev⟩ : ∃ ev, ev = errOf A (addC ⟨k, s, d, r⟩ l g D ik) := ⟨_, rfl⟩
  rw [← hev] at HA ⊢
  clear h hE e3 p3 q3 z3 b3 hik hev
  go_enter Tryd.func11, Tryd.ntmps11
  go_wp2
  rw [← E3.out]
  go_region_held3 (fun v => v.cell? ⟨w.heap.size, 0, none⟩ = some (.int .i64 k) ∧ v.cell? ⟨w.heap.size, 1, none⟩ = some (.int .i64 s) ∧ v.cell? ⟨w.heap.size, 2, none⟩ = some (.int .i64 d) ∧ v.cell? ⟨w.heap.size, 3, none⟩ = some (.int .i64 r) ∧ v.cell? ⟨w.heap.size + 1, 0, none⟩ = some (.slice a n cap) ∧ v.cell? ⟨w.heap.size + 1, 1, none⟩ = some (.int .i64 g)) (first | exact SQ.out _ (Drew.once _).below | exact SQ.out _ HX1.out | exact SQ.out _ HX2.out | exact SR.out _ _ _ HX2.out)
    (first
      | (go_at_call 51; refine (HI.out _).mono ?_; rintro e w4 ⟨rfl, hb⟩; have HX1 := Kp.mk ((Drew.once w3).below.trans (hb.mono (Drew.once w3).below.size)); clear hb)
      | (go_at_call 50; refine (HA.out _ HX1.out).mono ?_; rintro e w5 ⟨v, rfl, ho, hb⟩; obtain ⟨a', c', m', hm', rfl⟩ := ho.shapeN; have HX2 := Kp.mk (HX1.out.trans (hb.mono HX1.out.size)); have HO := Kp.mk (ho.mono (B' := w3.heap.size) HX1.out.size); have z0 := (Z3.out.later HX2.out).cell 0 _ rfl; have z1 := (Z3.out.later HX2.out).cell 1 _ rfl; have f0 := (Z3.out.later HX2.out).free 0; have f1 := (Z3.out.later HX2.out).free 1; clear hb ho))
  all_goals (
    have HZ := Kp.mk ((Z3.out.later HX2.out).set2 (.slice a' m' c') (.int .i64 0))
    have OF := Kp.mk ((HO.out.set2 (w.heap.size + 2) (.slice a' m' c') (.int .i64 0) Z3.out.lt).mono (B' := w.heap.size) B3.out.size)
    have BF := Kp.mk (below_set2 (B3.out.trans (HX2.out.mono B3.out.size)) (w.heap.size + 2) (.slice a' m' c') (.int .i64 0) (by omega))
    go_wp2
    refine bodyPost_ret (res2 (p := 6) (q := 7) (ty := 29) rfl _ rfl HZ.out _ Tryd.underlying29 (portInfo _ rfl)) rfl ⟨_, rfl, OF.out, BF.out⟩)
set_option maxRecDepth 100000 in
set_option maxHeartbeats 8000000 in
theorem port_write (A : Nat → Addr) (p : PortP) (a : Option Addr) (n cap : Nat) (l : List ByteArray) (g : Int) (D : ByteArray) (w : World) (h : RdS w a n cap l) (hD : D.size < 9223372036854775808) (hE : Errs w [4, 7, 8, 9, 11, 14] A) :
    Calls Tryd.prog 27 #[.agg p.row.toArray, .agg (portA a n cap g), .string D] w fun e w' => ∃ v, e = .returned (.tuple #[.agg #[v, .int .i64 0], errOf A (addC p l g D (!inK p.kind))]) ∧ OwnS w' w.heap.size v (addL p l g D (!inK p.kind)) ∧ Below w.heap.size w w' := by
  obtain ⟨k, s, d, r⟩ := p
  obtain ⟨w3, e3, p3, q3, z3, b3⟩ := tri_box w k s d r a n cap g
  have E3 := Kp.mk e3
  have B3 := Kp.mk b3
  have H3 := Kp.mk (h.later b3)
  have Z3 := Kp.mk z3
  have SQ : Kp (∀ v, Below w3.heap.size w3 v → PQS v w.heap.size k s d r a n cap g) := ⟨fun v hv => pqs_of (p3.later hv) (q3.later hv)⟩
  have SR : Kp (∀ v x y, Below w3.heap.size w3 v → PQS ((v.setCell ⟨w.heap.size + 2, 0, none⟩ x).setCell ⟨w.heap.size + 2, 1, none⟩ y) w.heap.size k s d r a n cap g) := ⟨fun v x y hv => pqs_of ((p3.later hv).other2 _ _ _ (by omega)) ((q3.later hv).other2 _ _ _ (by omega))⟩
  have c0 := p3.c0
  have c1 := p3.c1
  have c2 := p3.c2
  have c3 := p3.c3
  have q0 := q3.cell 0 _ rfl
  have q1 := q3.cell 1 _ rfl
  have HE := Kp.mk (hE.later b3)
  rw [← (addC_write ⟨k, s, d, r⟩ l g D).1, ← (addC_write ⟨k, s, d, r⟩ l g D).2]
  obtain ⟨ik, hik⟩ : ∃ ik, ik = outK k := ⟨_, rfl⟩
  have HI : Kp (∀ w, Calls Tryd.prog 59 #[.agg (rowK k s d r)] w fun e w' => e = .returned (.bool ik) ∧ Below w.heap.size w w') := ⟨fun w => by rw [hik]; exact port_isOut ⟨k, s, d, r⟩ w⟩
  have HA : Kp (∀ v, Below w3.heap.size w3 v → Calls Tryd.prog 50 #[.agg (rowK k s d r), .agg (portA a n cap g), .string D, .bool ik] v fun e w' => ∃ x, e = .returned (.tuple #[.agg #[x, .int .i64 0], errOf A (addC ⟨k, s, d, r⟩ l g D ik)]) ∧ OwnS w' v.heap.size x (addL ⟨k, s, d, r⟩ l g D ik) ∧ Below v.heap.size v w') := ⟨fun v hv => port_add A ⟨k, s, d, r⟩ a n cap l g D ik v (H3.out.later hv) hD (HE.out.later hv)⟩
  show Calls Tryd.prog 27 #[.agg (rowK k s d r), .agg (portA a n cap g), .string D] w fun e w' => ∃ v, e = .returned (.tuple #[.agg #[v, .int .i64 0], errOf A (addC ⟨k, s, d, r⟩ l g D (outK k))]) ∧ OwnS w' w.heap.size v (addL ⟨k, s, d, r⟩ l g D (outK k)) ∧ Below w.heap.size w w'
  rw [← hik]
  obtain ⟨ev, hev⟩ : ∃ ev, ev = errOf A (addC ⟨k, s, d, r⟩ l g D ik) := ⟨_, rfl⟩
  rw [← hev] at HA ⊢
  clear h hE e3 p3 q3 z3 b3 hik hev
  go_enter Tryd.func27, Tryd.ntmps27
  go_wp2
  rw [← E3.out]
  go_region_held3 (fun v => v.cell? ⟨w.heap.size, 0, none⟩ = some (.int .i64 k) ∧ v.cell? ⟨w.heap.size, 1, none⟩ = some (.int .i64 s) ∧ v.cell? ⟨w.heap.size, 2, none⟩ = some (.int .i64 d) ∧ v.cell? ⟨w.heap.size, 3, none⟩ = some (.int .i64 r) ∧ v.cell? ⟨w.heap.size + 1, 0, none⟩ = some (.slice a n cap) ∧ v.cell? ⟨w.heap.size + 1, 1, none⟩ = some (.int .i64 g)) (first | exact SQ.out _ (Drew.once _).below | exact SQ.out _ HX1.out | exact SQ.out _ HX2.out | exact SR.out _ _ _ HX2.out)
    (first
      | (go_at_call 59; refine (HI.out _).mono ?_; rintro e w4 ⟨rfl, hb⟩; have HX1 := Kp.mk ((Drew.once w3).below.trans (hb.mono (Drew.once w3).below.size)); clear hb)
      | (go_at_call 50; refine (HA.out _ HX1.out).mono ?_; rintro e w5 ⟨v, rfl, ho, hb⟩; obtain ⟨a', c', m', hm', rfl⟩ := ho.shapeN; have HX2 := Kp.mk (HX1.out.trans (hb.mono HX1.out.size)); have HO := Kp.mk (ho.mono (B' := w3.heap.size) HX1.out.size); have z0 := (Z3.out.later HX2.out).cell 0 _ rfl; have z1 := (Z3.out.later HX2.out).cell 1 _ rfl; have f0 := (Z3.out.later HX2.out).free 0; have f1 := (Z3.out.later HX2.out).free 1; clear hb ho))
  all_goals (
    have HZ := Kp.mk ((Z3.out.later HX2.out).set2 (.slice a' m' c') (.int .i64 0))
    have OF := Kp.mk ((HO.out.set2 (w.heap.size + 2) (.slice a' m' c') (.int .i64 0) Z3.out.lt).mono (B' := w.heap.size) B3.out.size)
    have BF := Kp.mk (below_set2 (B3.out.trans (HX2.out.mono B3.out.size)) (w.heap.size + 2) (.slice a' m' c') (.int .i64 0) (by omega))
    go_wp2
    refine bodyPost_ret (res2 (p := 6) (q := 7) (ty := 29) rfl _ rfl HZ.out _ Tryd.underlying29 (portInfo _ rfl)) rfl ⟨_, rfl, OF.out, BF.out⟩)
set_option maxRecDepth 100000 in
set_option maxHeartbeats 8000000 in
theorem ref_put (p : PortP) (a : Option Addr) (n cap : Nat) (l : List ByteArray) (g : Int) (D : ByteArray) (w : World) (h : RdS w a n cap l) (hD : D.size < 9223372036854775808) :
    Calls Tryd.prog 24 #[.agg p.row.toArray, .agg (portA a n cap g), .string D] w fun e w' => ∃ v, e = .returned (.tuple #[.agg #[v, .int .i64 0], .int .i64 (addC p l g D (inK p.kind) : Nat)]) ∧ OwnS w' w.heap.size v (addL p l g D (inK p.kind)) ∧ Below w.heap.size w w' := by
  obtain ⟨k, s, d, r⟩ := p
  obtain ⟨w3, e3, p3, q3, z3, b3⟩ := tri_box w k s d r a n cap g
  have E3 := Kp.mk e3
  have B3 := Kp.mk b3
  have H3 := Kp.mk (h.later b3)
  have Z3 := Kp.mk z3
  have SQ : Kp (∀ v, Below w3.heap.size w3 v → PQS v w.heap.size k s d r a n cap g) := ⟨fun v hv => pqs_of (p3.later hv) (q3.later hv)⟩
  have SR : Kp (∀ v x y, Below w3.heap.size w3 v → PQS ((v.setCell ⟨w.heap.size + 2, 0, none⟩ x).setCell ⟨w.heap.size + 2, 1, none⟩ y) w.heap.size k s d r a n cap g) := ⟨fun v x y hv => pqs_of ((p3.later hv).other2 _ _ _ (by omega)) ((q3.later hv).other2 _ _ _ (by omega))⟩
  have c0 := p3.c0
  have c1 := p3.c1
  have c2 := p3.c2
  have c3 := p3.c3
  have q0 := q3.cell 0 _ rfl
  have q1 := q3.cell 1 _ rfl
  have HA := Kp.mk (ref_add ⟨k, s, d, r⟩ a n cap l g D true w3 H3.out hD)
  have hio : ∀ b : Bool, (b == true) = b := fun b => by cases b <;> rfl
  rw [hio] at HA
  show Calls Tryd.prog 24 #[.agg (rowK k s d r), .agg (portA a n cap g), .string D] w fun e w' => ∃ v, e = .returned (.tuple #[.agg #[v, .int .i64 0], .int .i64 (addC ⟨k, s, d, r⟩ l g D (inK k) : Nat)]) ∧ OwnS w' w.heap.size v (addL ⟨k, s, d, r⟩ l g D (inK k)) ∧ Below w.heap.size w w'
  obtain ⟨ev, hev⟩ : ∃ ev, ev = Value.int .i64 (addC ⟨k, s, d, r⟩ l g D (inK k) : Nat) := ⟨_, rfl⟩
  rw [← hev] at HA ⊢
  clear h e3 p3 q3 z3 b3 hev hio
  go_enter Tryd.func24, Tryd.ntmps24
  go_wp2_with fail
  rw [← E3.out]
  refine HA.out.mono ?_
  rintro e w5 ⟨v, rfl, ho, hb⟩
  obtain ⟨a', c', m', hm', rfl⟩ := ho.shapeN
  have z0 := (Z3.out.later hb).cell 0 _ rfl
  have z1 := (Z3.out.later hb).cell 1 _ rfl
  have f0 := (Z3.out.later hb).free 0
  have f1 := (Z3.out.later hb).free 1
  have HZ := Kp.mk ((Z3.out.later hb).set2 (.slice a' m' c') (.int .i64 0))
  have OF := Kp.mk ((ho.set2 (w.heap.size + 2) (.slice a' m' c') (.int .i64 0) Z3.out.lt).mono (B' := w.heap.size) B3.out.size)
  have BF := Kp.mk (below_set2 (B3.out.trans (hb.mono B3.out.size)) (w.heap.size + 2) (.slice a' m' c') (.int .i64 0) (by omega))
  clear hb ho
  go_wp2_with fail
  refine bodyPost_ret (res2 (p := 6) (q := 7) (ty := 29) rfl _ rfl HZ.out _ Tryd.underlying29 (portInfo _ rfl)) rfl ⟨_, rfl, OF.out, BF.out⟩
set_option maxRecDepth 100000 in
set_option maxHeartbeats 8000000 in
theorem ref_write (p : PortP) (a : Option Addr) (n cap : Nat) (l : List ByteArray) (g : Int) (D : ByteArray) (w : World) (h : RdS w a n cap l) (hD : D.size < 9223372036854775808) :
    Calls Tryd.prog 28 #[.agg p.row.toArray, .agg (portA a n cap g), .string D] w fun e w' => ∃ v, e = .returned (.tuple #[.agg #[v, .int .i64 0], .int .i64 (addC p l g D (!inK p.kind) : Nat)]) ∧ OwnS w' w.heap.size v (addL p l g D (!inK p.kind)) ∧ Below w.heap.size w w' := by
  obtain ⟨k, s, d, r⟩ := p
  obtain ⟨w3, e3, p3, q3, z3, b3⟩ := tri_box w k s d r a n cap g
  have E3 := Kp.mk e3
  have B3 := Kp.mk b3
  have H3 := Kp.mk (h.later b3)
  have Z3 := Kp.mk z3
  have SQ : Kp (∀ v, Below w3.heap.size w3 v → PQS v w.heap.size k s d r a n cap g) := ⟨fun v hv => pqs_of (p3.later hv) (q3.later hv)⟩
  have SR : Kp (∀ v x y, Below w3.heap.size w3 v → PQS ((v.setCell ⟨w.heap.size + 2, 0, none⟩ x).setCell ⟨w.heap.size + 2, 1, none⟩ y) w.heap.size k s d r a n cap g) := ⟨fun v x y hv => pqs_of ((p3.later hv).other2 _ _ _ (by omega)) ((q3.later hv).other2 _ _ _ (by omega))⟩
  have c0 := p3.c0
  have c1 := p3.c1
  have c2 := p3.c2
  have c3 := p3.c3
  have q0 := q3.cell 0 _ rfl
  have q1 := q3.cell 1 _ rfl
  have HA := Kp.mk (ref_add ⟨k, s, d, r⟩ a n cap l g D false w3 H3.out hD)
  have hio : ∀ b : Bool, (b == false) = !b := fun b => by cases b <;> rfl
  rw [hio] at HA
  show Calls Tryd.prog 28 #[.agg (rowK k s d r), .agg (portA a n cap g), .string D] w fun e w' => ∃ v, e = .returned (.tuple #[.agg #[v, .int .i64 0], .int .i64 (addC ⟨k, s, d, r⟩ l g D (!inK k) : Nat)]) ∧ OwnS w' w.heap.size v (addL ⟨k, s, d, r⟩ l g D (!inK k)) ∧ Below w.heap.size w w'
  obtain ⟨ev, hev⟩ : ∃ ev, ev = Value.int .i64 (addC ⟨k, s, d, r⟩ l g D (!inK k) : Nat) := ⟨_, rfl⟩
  rw [← hev] at HA ⊢
  clear h e3 p3 q3 z3 b3 hev hio
  go_enter Tryd.func28, Tryd.ntmps28
  go_wp2_with fail
  rw [← E3.out]
  refine HA.out.mono ?_
  rintro e w5 ⟨v, rfl, ho, hb⟩
  obtain ⟨a', c', m', hm', rfl⟩ := ho.shapeN
  have z0 := (Z3.out.later hb).cell 0 _ rfl
  have z1 := (Z3.out.later hb).cell 1 _ rfl
  have f0 := (Z3.out.later hb).free 0
  have f1 := (Z3.out.later hb).free 1
  have HZ := Kp.mk ((Z3.out.later hb).set2 (.slice a' m' c') (.int .i64 0))
  have OF := Kp.mk ((ho.set2 (w.heap.size + 2) (.slice a' m' c') (.int .i64 0) Z3.out.lt).mono (B' := w.heap.size) B3.out.size)
  have BF := Kp.mk (below_set2 (B3.out.trans (hb.mono B3.out.size)) (w.heap.size + 2) (.slice a' m' c') (.int .i64 0) (by omega))
  clear hb ho
  go_wp2_with fail
  refine bodyPost_ret (res2 (p := 6) (q := 7) (ty := 29) rfl _ rfl HZ.out _ Tryd.underlying29 (portInfo _ rfl)) rfl ⟨_, rfl, OF.out, BF.out⟩
end Go.Proofs.YtjlgnbjfgeppcaaDoor
