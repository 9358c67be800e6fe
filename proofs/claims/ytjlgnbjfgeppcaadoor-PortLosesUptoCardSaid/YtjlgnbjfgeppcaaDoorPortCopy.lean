/- Clone of strings; ports copied; walked. -/
import Derived.Test.YtjlgnbjfgeppcaaDoorPortCheck
import Derived.Test.YtjlgnbjfgeppcaaDoorBlk
import Derived.Deep.RegionHeld3
import Derived.Deep.RegionLaw
import Derived.Deep.DrawnRows
namespace Go.Proofs.YtjlgnbjfgeppcaaDoor
open Go Go.RowKit
set_option linter.unusedVariables false
attribute [local go_sem ↓] Go.wp_at_zero Go.wp_at_succ

theorem ownS_lit (w : World) : OwnS (w.alloc (.cells #[] 9)) w.heap.size (.slice (some ⟨w.heap.size, 0, none⟩) 0 0) [] :=
  World.ownsRow_lit w #[] 0 (base := w.heap.size) (e := 9) (size := 1) (Nat.le_refl _) (by decide) rfl
theorem eqlSlice (w : World) (a : Option Addr) (n c : Nat) : (binOp .eql 27 (.slice a n c) (.slice none 0 0)).run Tryd.prog w = .ok (.bool a.isNone) w := Lib.run_eql_slice_nil w _ _ a n c 0 0 Tryd.underlying27
set_option maxRecDepth 100000 in
theorem str_clone (a : Option Addr) (n cap : Nat) (l : List ByteArray) (w : World) (h : RdS w a n cap l) :
    Calls Tryd.prog 53 #[.slice a n cap] w fun e w' => ∃ v, e = .returned v ∧ OwnS w' w.heap.size v l ∧ Below w.heap.size w w' := by
  have hq := eqlSlice
  have hn := h.bound
  have b1 : Below w.heap.size w (w.alloc (.cells #[] 9)) := (Below.refl _ _).alloc (Nat.le_refl _) _
  have HR := Kp.mk (h.later b1)
  have B1 := Kp.mk b1
  cases a with
  | none =>
    have hc := h.nil rfl
    have h0 : n = 0 := by have := h.fits; omega
    have hl : l = [] := List.eq_nil_of_length_eq_zero (by rw [h.len]; exact h0)
    subst hl
    clear h h0 hc HR B1 b1
    go_enter Tryd.func53, Tryd.ntmps53
    go_wp2
    go_ret
    exact ⟨_, rfl, OwnS.nil _ _, Below.refl _ _⟩
  | some x =>
    clear h b1
    go_enter Tryd.func53, Tryd.ntmps53
    go_wp2_with (refine append_strs (w0 := w) rfl _ _ rfl w.heap.size _ [] rfl (ownS_lit w) (some x) n cap l rfl HR.out (by simpa using hn) (by simp) B1.out ?_; rintro v' w' ho hb)
    go_ret
    exact ⟨_, rfl, ho, hb⟩
theorem noneFit {w : World} {a : Option Addr} {n cap : Nat} {l : List ByteArray} (h : RdS w a n cap l) : Kp (l.length ≤ 8796093022208) := ⟨by rw [h.len]; exact h.bound⟩
set_option maxRecDepth 100000 in
/-- slices.Clip. -/
theorem str_clip (a : Option Addr) (n cap : Nat) (l : List ByteArray) (w : World) (h : RdS w a n cap l) :
    Calls Tryd.prog 68 #[.slice a n cap] w fun e w' => e = .returned (.slice a n n) ∧ w = w' := by
  have hf := h.fits
  have hn := h.bound
  clear h
  go_enter Tryd.func68, Tryd.ntmps68
  go_wp2
  go_ret
  exact ⟨rfl, rfl⟩
theorem OwnS.setOther {w : World} {B : Nat} {v : Value} {l : List ByteArray} (h : OwnS w B v l) (b o : Nat) (x : Value) (hb : b < B) : OwnS (w.setCell ⟨b, o, none⟩ x) B v l := by
  refine ⟨h.1, ?_⟩
  rcases h.2 with h' | ⟨g, cap, cur, hv, hg, hh, r⟩
  · exact .inl h'
  · refine .inr ⟨g, cap, cur, hv, hg, ?_, r⟩
    rw [heap_setCell_other _ _ _ _ (by show g ≠ b; omega)]
    exact hh
theorem OwnS.set2 {w : World} {B : Nat} {v : Value} {l : List ByteArray} (h : OwnS w B v l) (b : Nat) (x0 x1 : Value) (hb : b < B) : OwnS ((w.setCell ⟨b, 0, none⟩ x0).setCell ⟨b, 1, none⟩ x1) B v l :=
  (h.setOther b 0 x0 hb).setOther b 1 x1 hb
theorem OwnS.shape {w : World} {B : Nat} {v : Value} {l : List ByteArray} (h : OwnS w B v l) : ∃ a c, v = .slice a l.length c := by
  rcases h.2 with ⟨hv, h0⟩ | ⟨g, cap, cur, hv, _⟩
  · exact ⟨none, 0, by rw [hv, h0]⟩
  · exact ⟨_, _, hv⟩
theorem portInfo (cs : Array Value) (h : cs.size = 2) : (Tryd.prog.info? 29).map (·.size) = some cs.size := by
  rw [h]; kernel_rfl
/-- A port boxed, and a port's cells for the result. -/
theorem port_two (w : World) (a : Option Addr) (n cap : Nat) (g : Int) : ∃ w2, w2 = (w.alloc (.cells (portA a n cap g) 29)).alloc (.cells (portA none 0 0 0) 29) ∧ Blk w2 w.heap.size (portA a n cap g) 29 ∧ Blk w2 (w.heap.size + 1) (portA none 0 0 0) 29 ∧ Below w.heap.size w w2 := by
  obtain ⟨w1, e1, p1, b1⟩ := port_box w a n cap g
  have hz : w1.heap.size = w.heap.size + 1 := by rw [e1]; simp
  refine ⟨_, rfl, (Blk.new w _ _).alloc _, ?_, ?_⟩
  · have h := Blk.new w1 (portA none 0 0 0) 29
    rw [hz, e1] at h
    exact h
  · rw [← e1]; exact b1.alloc b1.size _
set_option maxRecDepth 100000 in
set_option maxHeartbeats 8000000 in
theorem port_copied (a : Option Addr) (n cap : Nat) (l : List ByteArray) (g : Int) (w : World) (h : RdS w a n cap l) :
    Calls Tryd.prog 54 #[.agg (portA a n cap g)] w fun e w' => ∃ v, e = .returned (.agg #[v, .int .i64 g]) ∧ OwnS w' w.heap.size v l ∧ Below w.heap.size w w' := by
  obtain ⟨w2, e2, q, z, b2⟩ := port_two w a n cap g
  have E2 := Kp.mk e2
  have HR := Kp.mk (h.later b2)
  have B2 := Kp.mk b2
  have Q := Kp.mk q
  have Z := Kp.mk z
  have HC : Kp (∀ w3, Below w2.heap.size w2 w3 → Calls Tryd.prog 53 #[.slice a n cap] w3 fun e w' => ∃ v, e = .returned v ∧ OwnS w' w3.heap.size v l ∧ Below w3.heap.size w3 w') := ⟨fun w3 hb => str_clone a n cap l w3 (HR.out.later hb)⟩
  have q0 := q.cell 0 _ rfl
  have q1 := q.cell 1 _ rfl
  clear h e2 q z b2
  go_enter Tryd.func54, Tryd.ntmps54
  go_wp2
  rw [← E2.out]
  go_region_with (first | (go_at_call 53; refine (HC.out _ (Drew.once _).below).mono ?_; rintro e w3 ⟨v, rfl, ho, hb⟩; obtain ⟨a', c', rfl⟩ := ho.shape; have hx := (Drew.once w2).below.trans (hb.mono (Drew.once w2).below.size); have HX := Kp.mk hx; have HO := Kp.mk ho; have q1' := (Q.out.later hx).cell 1 _ rfl; have z0' := (Z.out.later hx).cell 0 _ rfl; have z1' := (Z.out.later hx).cell 1 _ rfl; have f1' := (Z.out.later hx).free 0; have f2' := (Z.out.later hx).free 1; clear hx ho hb))
  all_goals (
    have HZ := Kp.mk ((Z.out.later HX.out).set2 (.slice a' l.length c') (.int .i64 g))
    have HO2 := Kp.mk ((HO.out.set2 (w.heap.size + 1) (.slice a' l.length c') (.int .i64 g) Z.out.lt).mono (B' := w.heap.size) (Nat.le_trans (by omega : w.heap.size ≤ w.heap.size + 1) (Nat.le_of_lt Z.out.lt)))
    go_wp2
    refine bodyPost_ret (res1 (p := 2) (ty := 29) rfl _ rfl HZ.out _ Tryd.underlying29 (portInfo _ rfl)) rfl ⟨_, rfl, ?_, ?_⟩
    · exact HO2.out
    · exact below_set2 (B2.out.trans (HX.out.mono B2.out.size)) _ _ _ (by omega))
end Go.Proofs.YtjlgnbjfgeppcaaDoor
