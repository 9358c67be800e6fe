/- The law's copied, walked. -/
import Derived.Test.YtjlgnbjfgeppcaaDoorStrFull
namespace Go.Proofs.YtjlgnbjfgeppcaaDoor
open Go Go.RowKit
set_option linter.unusedVariables false
attribute [local go_sem ↓] Go.wp_at_zero Go.wp_at_succ

set_option maxRecDepth 100000 in
set_option maxHeartbeats 8000000 in
theorem law_copied (a : Option Addr) (n cap : Nat) (l : List ByteArray) (g : Int) (w : World) (h : RdS w a n cap l) :
    Calls Tryd.prog 20 #[.agg (portA a n cap g)] w fun e w' => ∃ v, e = .returned (.agg #[v, .int .i64 g]) ∧ OwnS w' w.heap.size v l ∧ Below w.heap.size w w' := by
  obtain ⟨w2, e2, q, z, b2⟩ := port_two w a n cap g
  have E2 := Kp.mk e2
  have HR := Kp.mk (h.later b2)
  have B2 := Kp.mk b2
  have Q := Kp.mk q
  have Z := Kp.mk z
  have hn := h.bound
  have bA : Below w2.heap.size w2 (w2.drew.alloc (.cells #[] 9)) := (Drew.once w2).below.alloc (Drew.once w2).below.size _
  have BA := Kp.mk bA
  have SQ : Kp (∀ v, Below w2.heap.size w2 v → v.cell? ⟨w.heap.size, 0, none⟩ = some (.slice a n cap) ∧ v.cell? ⟨w.heap.size, 1, none⟩ = some (.int .i64 g)) := ⟨fun v hv => ⟨(Q.out.later hv).cell 0 _ rfl, (Q.out.later hv).cell 1 _ rfl⟩⟩
  have q0 := q.cell 0 _ rfl
  have q1 := q.cell 1 _ rfl
  clear h e2 q z b2 bA
  go_enter Tryd.func20, Tryd.ntmps20
  go_wp2
  rw [← E2.out]
  go_region_held3 (fun v => v.cell? ⟨w.heap.size, 0, none⟩ = some (.slice a n cap) ∧ v.cell? ⟨w.heap.size, 1, none⟩ = some (.int .i64 g)) (first | exact SQ.out _ (Drew.once _).below | exact SQ.out _ BA.out | exact SQ.out _ HX.out | exact ⟨((Q.out.later HX.out).other2 _ _ _ (by omega)).cell 0 _ rfl, ((Q.out.later HX.out).other2 _ _ _ (by omega)).cell 1 _ rfl⟩)
    ((refine step_append_full rfl (.tmp 3) (.tmp 5) rfl (some ⟨w2.heap.size, 0, none⟩) 0 [] (by first | rfl | simp [Act.eval, Act.put]) (rdEmpty _ _) a n cap l (by first | rfl | simp [Act.eval, Act.put]) (HR.out.later BA.out) (by omega) w2.heap.size BA.out.size (fun _ => (Blk.new w2.drew #[] 9).ownNil (Nat.le_refl _)) ?_; intro v w3 ho hb _; obtain ⟨a', c', rfl⟩ := ho.shape; have hx := BA.out.trans (hb.mono BA.out.size); have HX := Kp.mk hx; have HO := Kp.mk ho; have z0' := (Z.out.later hx).cell 0 _ rfl; have z1' := (Z.out.later hx).cell 1 _ rfl; have f1' := (Z.out.later hx).free 0; have f2' := (Z.out.later hx).free 1; clear hx ho hb))
  all_goals (
    have HZ := Kp.mk ((Z.out.later HX.out).set2 (.slice a' l.length c') (.int .i64 g))
    have HO2 := Kp.mk ((HO.out.set2 (w.heap.size + 1) (.slice a' l.length c') (.int .i64 g) Z.out.lt).mono (B' := w.heap.size) (Nat.le_trans (by omega : w.heap.size ≤ w.heap.size + 1) (Nat.le_of_lt Z.out.lt)))
    go_wp2
    refine bodyPost_ret (res1 (p := 2) (ty := 29) rfl _ rfl HZ.out _ Tryd.underlying29 (portInfo _ rfl)) rfl ⟨_, rfl, ?_, ?_⟩
    · exact HO2.out
    · exact below_set2 (B2.out.trans (HX.out.mono B2.out.size)) _ _ _ (by omega))
end Go.Proofs.YtjlgnbjfgeppcaaDoor
