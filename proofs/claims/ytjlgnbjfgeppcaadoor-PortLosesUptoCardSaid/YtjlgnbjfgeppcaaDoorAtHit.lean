/- errors.As of an *api.At: it is found; api.Place of it: walked. -/
import Derived.Test.YtjlgnbjfgeppcaaDoorAtWalk
namespace Go.Proofs.YtjlgnbjfgeppcaaDoor
open Go Go.RowKit Go.Extern.Stop Go.Stop Go.Extern
set_option linter.unusedVariables false

set_option maxRecDepth 100000 in
set_option maxHeartbeats 4000000 in
theorem as_hit (p : Nat) (t : Addr) (old : Value) (w : World) (hg : TypeVar w) (ht0 : w.cell? t = some old) (hf0 : w.frozen? t = false) :
    Calls Tryd.prog 71 #[atv p, .iface 124 (.pointer (some t))] w fun ev w' => ev = .returned (.bool true) ∧ w'.cell? t = some (.pointer (some ⟨p, 0, none⟩)) ∧ (∀ B, B ≤ t.block → B ≤ w.heap.size → Below B w w') := by
  have h6 := @run_callFunc_extern Tryd.prog 75 _ (fun args => ReflectliteValue.unpack (args.getD 0 (.tuple #[]))) Tryd.func75 (by kernel_rfl) (by kernel_rfl) (by kernel_rfl) (by kernel_rfl)
  have h7 := @run_callFunc_extern Tryd.prog 76 _ (ReflectliteValue.methodAny (ReflectliteValue.valueError "reflectlite.Value.Type" 0) (fun t _ _ _ => ReflectliteType.toType t)) Tryd.func76 (by kernel_rfl) (by kernel_rfl) (by kernel_rfl) (by kernel_rfl)
  have h8 := @run_callFunc_extern Tryd.prog 77 _ (ReflectliteValue.method (ReflectliteValue.valueError "reflectlite.Value.IsNil" 0) ReflectliteValue.isNil) Tryd.func77 (by kernel_rfl) (by kernel_rfl) (by kernel_rfl) (by kernel_rfl)
  have h27 := @run_callFunc_extern Tryd.prog 95 _ (ReflectliteType.abiMethod fun t => do pure (.int .u8 (← Rtype.kind t))) Tryd.func95 (by kernel_rfl) (by kernel_rfl) (by kernel_rfl) (by kernel_rfl)
  have h37 := @run_callFunc_extern Tryd.prog 106 _ (ReflectliteType.method ReflectliteType.elem) Tryd.func106 (by kernel_rfl) (by kernel_rfl) (by kernel_rfl) (by kernel_rfl)
  have h38 := @run_callFunc_extern Tryd.prog 107 _ (ReflectliteType.relation "Implements" ReflectliteType.implements_) Tryd.func107 (by kernel_rfl) (by kernel_rfl) (by kernel_rfl) (by kernel_rfl)
  have h10 := @run_callFunc_extern Tryd.prog 72 _ ReflectliteType.typeOf Tryd.func72 (by kernel_rfl) (by kernel_rfl) (by kernel_rfl) (by kernel_rfl)
  have h35 := @run_callFunc_extern Tryd.prog 104 _ (ReflectliteType.relation "AssignableTo" ReflectliteType.assignableTo) Tryd.func104 (by kernel_rfl) (by kernel_rfl) (by kernel_rfl) (by kernel_rfl)
  have tO := atTypeOf
  have mA := asMethodAssignable
  have aA := atAssignable
  have f6 := asValueOf
  have f7 := asType
  have mK := asMethodKind
  have mE := asMethodElem
  have mI := asMethodImplements
  have k1 := asKind1
  have k2 := asKind2
  have eE := asElem
  have iI := asImplements
  unfold TypeVar at hg
  have h66 := @run_callFunc_extern Tryd.prog 79 _ (ReflectliteValue.method (ReflectliteValue.valueError "reflectlite.Value.Elem" 0) ReflectliteValue.elem) Tryd.func79 (by kernel_rfl) (by kernel_rfl) (by kernel_rfl) (by kernel_rfl)
  have h67 := @run_callFunc_extern Tryd.prog 80 _ ReflectliteValue.set Tryd.func80 (by kernel_rfl) (by kernel_rfl) (by kernel_rfl) (by kernel_rfl)
  have fA := atValueOf
  obtain ⟨A1, hA1⟩ : ∃ A1 : Obj, A1 = .cells #[.pointer (some t)] 124 := ⟨_, rfl⟩
  obtain ⟨A2, hA2⟩ : ∃ A2 : Obj, A2 = .cells #[.pointer (some ⟨21, 124, none⟩), .pointer (some ⟨w.heap.size, 0, none⟩), .int .u64 150] 136 := ⟨_, rfl⟩
  obtain ⟨A4, hA4⟩ : ∃ A4 : Obj, A4 = .cells #[.pointer (some ⟨p, 0, none⟩)] 122 := ⟨_, rfl⟩
  have htl : t.block < w.heap.size := World.block_lt_of_cell? w _ ht0
  have z1 : w.heap.size < (w.alloc A1).heap.size := by simp
  have z2 : w.heap.size < ((w.alloc A1).alloc A2).heap.size := by simp; omega
  have m1 : ((w.alloc A1).alloc A2).cell? ⟨w.heap.size, 0, none⟩ = some (.pointer (some t)) := by
    rw [World.cell?_alloc_lt _ _ ⟨w.heap.size, 0, none⟩ z1, hA1, World.cell?_alloc_new]; rfl
  have m2 : (((w.alloc A1).alloc A2).alloc A2).cell? ⟨w.heap.size, 0, none⟩ = some (.pointer (some t)) := by
    rw [World.cell?_alloc_lt _ _ ⟨w.heap.size, 0, none⟩ z2]; exact m1
  have n8 := asIsNil ⟨w.heap.size, 0, none⟩ t ((w.alloc A1).alloc A2) m1
  have e66 := atElem ⟨w.heap.size, 0, none⟩ t (((w.alloc A1).alloc A2).alloc A2) m2
  have hlt : 20 < w.heap.size := World.block_lt_of_cell? w _ hg
  have b1 := (Below.refl w.heap.size w).alloc (Nat.le_refl _) A1
  have hg2 : ((w.alloc A1).alloc A2).cell? ⟨20, 0, none⟩ = some (.iface 144 (.agg #[.pointer (some ⟨21, 31, none⟩)])) := by
    rw [World.cell?_alloc_lt _ _ ⟨20, 0, none⟩ (Nat.lt_of_lt_of_le hlt b1.size), World.cell?_alloc_lt _ _ ⟨20, 0, none⟩ hlt]; exact hg
  obtain ⟨w4, hw4⟩ : ∃ w4, w4 = (((w.alloc A1).alloc A2).alloc A2).alloc A4 := ⟨_, rfl⟩
  have b2 := b1.alloc b1.size A2
  have b3 := b2.alloc b2.size A2
  have b4 := b3.alloc b3.size A4
  rw [← hw4] at b4
  have t4 : w4.cell? t = some old := (b4.cell htl).trans ht0
  have f4 : w4.frozen? t = false := by
    rw [← hf0]
    unfold World.frozen?
    rw [b4.block t.block htl]
  have c4 : w4.cell? ⟨(((w.alloc A1).alloc A2).alloc A2).heap.size, 0, none⟩ = some (.pointer (some ⟨p, 0, none⟩)) := by
    rw [hw4, hA4, World.cell?_alloc_new]; rfl
  have s67 := atSet t ⟨(((w.alloc A1).alloc A2).alloc A2).heap.size, 0, none⟩ ⟨p, 0, none⟩ old w4 t4 f4 c4
  have H4 := Kp.mk (And.intro htl (And.intro t4 b4))
  have hsz : (((w.alloc A1).alloc A2).alloc A2).heap.size = w.heap.size + 1 + 1 + 1 := by simp
  rw [hsz, hw4] at s67
  rw [hA1, hA2] at n8 hg2
  rw [hA1, hA2] at e66
  rw [hA1, hA2, hA4] at s67
  rw [hA1, hA2, hA4] at hw4
  have HW4 := Kp.mk hw4
  clear ht0 hf0 b1 b2 b3 b4 t4 f4 c4 htl hA1 hA2 hA4 hw4 z1 z2 m1 m2 hsz
  go_enter Tryd.func71, Tryd.ntmps71
  go_wp2
  refine wp_loop_rounds 1 ?_
  rw [rounds_succ]
  go_wp2
  go_ret
  rw [← HW4.out]
  obtain ⟨q1, q2, q3⟩ := H4.out
  exact ⟨rfl, World.cell?_setCell_same _ _ _ q2, fun B h1 h2 => (q3.mono h2).setCell h1 _⟩
set_option maxRecDepth 100000 in
/-- api.Place of it. -/
theorem api_place_at (p : Nat) (i : Int) (a : Addr) (w : World) (hg : TypeVar w) (h : AtAt w p i a) :
    Calls Tryd.prog 58 #[atv p] w fun ev w' => ev = .returned (.int .i64 i) ∧ Below w.heap.size w w' := by
  obtain ⟨w0, hw0⟩ : ∃ w0, w0 = w.alloc (.cells #[.pointer none] 122) := ⟨_, rfl⟩
  have b0 : Below w.heap.size w w0 := by rw [hw0]; exact (Below.refl _ _).alloc (Nat.le_refl _) _
  have c0 : w0.cell? ⟨w.heap.size, 0, none⟩ = some (.pointer none) := by rw [hw0, World.cell?_alloc_new]; rfl
  have f0 : w0.frozen? ⟨w.heap.size, 0, none⟩ = false := by rw [hw0]; simp
  have K := Kp.mk (as_hit p ⟨w.heap.size, 0, none⟩ _ w0 (hg.later b0) c0 f0)
  have H := Kp.mk h
  have B0 := Kp.mk b0
  have HW := Kp.mk hw0
  clear hg h b0 c0 f0 hw0
  go_enter Tryd.func58, Tryd.ntmps58
  go_wp2_with fail
  rw [← HW.out]
  refine K.out.mono ?_
  rintro e w1 ⟨rfl, k1, hb⟩
  have hbb := B0.out.trans (hb w.heap.size (Nat.le_refl _) B0.out.size)
  have k2 := (H.out.later hbb).place
  have HB := Kp.mk hbb
  clear hb hbb
  go_wp2
  go_ret
  exact ⟨rfl, HB.out⟩

end Go.Proofs.YtjlgnbjfgeppcaaDoor
