/- Appending bytes as one step of a region that draws its order. -/
import Derived.Test.YtndninajnkejnaaDoorAppend
import Derived.Deep.RegionLawGrows
namespace Go.Proofs.YtndninajnkejnaaDoor
open Go Go.RowKit
set_option linter.unusedVariables false

/-- The bytes of one place. -/
theorem RdB.lit1 (w : World) (c : BitVec 8) : RdB (w.alloc (.cells #[.int .u8 (c.toNat : Int)] 5)) (some ⟨w.heap.size, 0, none⟩) 1 1 [c] :=
  RdB.own (World.ownsRow_lit w (bv [c]).toArray 1 (base := w.heap.size) (e := 5) (size := 1) (Nat.le_refl _) (by decide) rfl) (by omega)

theorem step_append_bytes {ops : Array Oper} {o : Oper} {a : Act} {w : World} {K : Act → World → Prop} {Q : Exit → Act → World → Prop} {E : Prop} (hgd : o.guard = none) (s x : Operand)
    (ho : o.op = .call { callee := .builtin .append, args := #[s, x], argTypes := #[22, 22] })
    (base : Nat) (v : Value) (n : Nat) (xs : List Value) (hs : a.eval s = v) (hown : w.ownsRow base 5 1 v n xs)
    (x0 : Addr) (m c : Nat) (l : List (BitVec 8)) (hx : a.eval x = .slice (some x0) m c) (hr : RdB w (some x0) m c l)
    (hb : n + m ≤ 140737488355328) (hbase : base ≤ w.heap.size)
    (h : ∀ v' w', w'.ownsRow base 5 1 v' (n + m) (xs ++ bv l) → w.grownBy w' v.ownBlock → K (a.put o.dst v') w') :
    if Region.wanted o (yielded ops a.tmps) = true then Oper.wp Tryd.prog o a w K Q else E := by
  have hw : Region.wanted o (yielded ops a.tmps) = true := by simp [Region.wanted, hgd]
  rw [if_pos hw]
  obtain ⟨i, hi, hz0, hz1, hz2⟩ := info_parts infoU8
  refine wp_append_own w s x 22 ho base 5 i (.int .u8 0) 1 1 Tryd.underlying22 hi hz0 hz1 hz2 rfl (by decide) v n xs hs hown x0 m c (bv l) hx (by rw [bv_length, hr.len, Nat.mul_one]) ?_ (bv_one l) (by unfold maxLen; omega) (by omega) hbase (fun v' w' h1 h2 _ => h v' w' h1 h2)
  intro j u hu
  have hj : j < l.length := by
    have := (List.getElem?_eq_some_iff.1 hu).1
    rwa [bv_length] at this
  rw [bv_get l j hj] at hu
  have hj' : j < m := by rw [← hr.len]; exact hj
  obtain ⟨b, off, e, hc⟩ := hr.cells (by omega)
  obtain rfl := Option.some.inj e
  have e1 : (⟨b, off, none⟩ : Addr).add j = ⟨b, off + j, none⟩ := by unfold Addr.add; split <;> simp_all
  rw [e1, hc j hj', hu]
/-- 'append([]byte{}, b...)', b not empty. -/
theorem step_append_fresh {ops : Array Oper} {o : Oper} {a : Act} {w : World} {K : Act → World → Prop} {Q : Exit → Act → World → Prop} {E : Prop} (hgd : o.guard = none) (s x : Operand)
    (ho : o.op = .call { callee := .builtin .append, args := #[s, x], argTypes := #[22, 22] })
    (b0 : Nat) (hs : a.eval s = .slice (some ⟨b0, 0, none⟩) 0 0)
    (x0 : Addr) (m c : Nat) (l : List (BitVec 8)) (hx : a.eval x = .slice (some x0) m c) (hr : RdB w (some x0) m c l) (hm : 0 < m)
    (h : ∀ v' w', w'.ownsRow w.heap.size 5 1 v' m (bv l) → w.grownBy w' none → K (a.put o.dst v') w') :
    if Region.wanted o (yielded ops a.tmps) = true then Oper.wp Tryd.prog o a w K Q else E := by
  obtain ⟨i, hi, hz0, hz1, hz2⟩ := info_parts infoU8
  refine step_append_grows hgd s x 22 ho 5 i (.int .u8 0) 1 1 Tryd.underlying22 hi hz0 hz1 hz2 rfl (by decide) (some ⟨b0, 0, none⟩) 0 0 [] hs (fun e => by cases e) rfl (fun _ _ j u hu => by simp at hu) x0 m c (bv l) hx (by rw [bv_length, hr.len, Nat.mul_one]) ?_ (bv_one l) (by omega) (by have := hr.bound; unfold maxLen; omega) (by have := hr.bound; omega) (fun v' w' h1 h2 => h v' w' (by simpa using h1) h2)
  intro j u hu
  have hj : j < l.length := by
    have := (List.getElem?_eq_some_iff.1 hu).1
    rwa [bv_length] at this
  rw [bv_get l j hj] at hu
  have hj' : j < m := by rw [← hr.len]; exact hj
  obtain ⟨b, off, e, hc⟩ := hr.cells (by omega)
  obtain rfl := Option.some.inj e
  have e1 : (⟨b, off, none⟩ : Addr).add j = ⟨b, off + j, none⟩ := by unfold Addr.add; split <;> simp_all
  rw [e1, hc j hj', hu]
theorem below_of_grown {w w' : World} (h : w.grownBy w' none) : Below w.heap.size w w' := ⟨h.os, h.tape, h.output, h.size, fun k hk => h.block k hk (by simp)⟩
end Go.Proofs.YtndninajnkejnaaDoor
