/- Appending to a slice of strings without room: nothing that lay there changes. -/
import Derived.Test.YtjlgnbjfgeppcaaDoorPortCopy
import Derived.ArgAppend
import Derived.Deep.Upon
namespace Go.Proofs.YtjlgnbjfgeppcaaDoor
open Go Go.RowKit
set_option linter.unusedVariables false

theorem RdS.news {w : World} {x : Addr} {m c : Nat} {k : List ByteArray} (hr : RdS w (some x) m c k) : ∀ j u, (sv k)[j]? = some u → w.cell? (x.add j) = some u := by
  intro j u hu
  have hj : j < k.length := by
    have := (List.getElem?_eq_some_iff.1 hu).1
    rwa [sv_length] at this
  rw [sv_get k j hj] at hu
  have hkl := hr.len
  obtain ⟨b, off, e, hc⟩ := hr.cells (by omega)
  obtain rfl := Option.some.inj e
  have e1 : (⟨b, off, none⟩ : Addr).add j = ⟨b, off + j, none⟩ := by unfold Addr.add; split <;> simp_all
  rw [e1, hc j (by omega), hu]
theorem below_grown {w w' : World} (h : w.grownBy w' none) : Below w.heap.size w w' := ⟨h.os, h.tape, h.output, h.size, fun k hk => h.block k hk (by simp)⟩
/-- The value's row is none of the old blocks but that of the first argument. -/
def Apart (B : Nat) (ao : Option Addr) (v : Value) : Prop := ∀ vb, vb < B → ao.map (·.block) ≠ some vb → v.ownBlock ≠ some vb
theorem apart_new {w : World} {B : Nat} {E : TypeId} {s : Nat} {v : Value} {n : Nat} {xs : List Value} {ao : Option Addr} (h : w.ownsRow B E s v n xs) : Apart B ao v := by
  intro vb h1 _ h2
  have := ownS_base h h2
  omega
theorem OwnS.setFar {w : World} {B : Nat} {v : Value} {l : List ByteArray} (h : OwnS w B v l) (b o : Nat) (x : Value) (hb : v.ownBlock ≠ some b) : OwnS (w.setCell ⟨b, o, none⟩ x) B v l := by
  refine ⟨h.1, ?_⟩
  rcases h.2 with h' | ⟨g, cap, cur, hv, hg, hh, r⟩
  · exact .inl h'
  · refine .inr ⟨g, cap, cur, hv, hg, ?_, r⟩
    rw [heap_setCell_other _ _ _ _ (by rintro rfl; subst hv; simp [Value.ownBlock] at hb)]
    exact hh
theorem OwnS.far2 {w : World} {B : Nat} {v : Value} {l : List ByteArray} (h : OwnS w B v l) (b : Nat) (x0 x1 : Value) (hb : v.ownBlock ≠ some b) : OwnS ((w.setCell ⟨b, 0, none⟩ x0).setCell ⟨b, 1, none⟩ x1) B v l :=
  (h.setFar b 0 x0 hb).setFar b 1 x1 hb
theorem wp_append_full {w : World} {o : Oper} {a : Act} {K : Act → World → Prop} {Q : Exit → Act → World → Prop} (s x : Operand)
    (ho : o.op = .call { callee := .builtin .append, args := #[s, x], argTypes := #[27, 27] })
    (ao : Option Addr) (n : Nat) (l : List ByteArray) (hs : a.eval s = .slice ao n n) (hr0 : RdS w ao n n l)
    (ad : Option Addr) (m c : Nat) (k : List ByteArray) (hx : a.eval x = .slice ad m c) (hr : RdS w ad m c k)
    (hb : n + m ≤ 8796093022208) (B : Nat) (hB : B ≤ w.heap.size) (hown : m = 0 → OwnS w B (.slice ao n n) l)
    (h : ∀ v' w', OwnS w' B v' (l ++ k) → Below w.heap.size w w' → Apart w.heap.size ao v' → K (a.put o.dst v') w') : o.wp Tryd.prog a w K Q := by
  obtain ⟨i, hi, hz0, hz1, hz2⟩ := info_parts infoStr
  have hkl := hr.len
  have hll := hr0.len
  by_cases hm : m = 0
  · have hk : k = [] := List.eq_nil_of_length_eq_zero (by omega)
    subst hk
    have hrun : (Builtin.append_ #[27, 27] o.type #[.slice ao n n, .slice ad m c]).run Tryd.prog w = .ok (.slice ao n n) w := by
      subst hm
      refine run_append_nothing w 27 27 o.type 9 i Tryd.underlying27 hi ao n n (Nat.le_refl _) _ ?_
      cases ad with
      | none => exact Src.ofNil w Tryd.underlying27 c
      | some x0 => exact Src.ofSlice w Tryd.underlying27 x0 0 c [] (by simp) (by simp) (by simp)
    unfold Oper.wp
    simp [execOp, ho, resolve, invoke, builtin, hs, hx, hrun, Result.andThen]
    exact h _ _ (by simpa using hown hm) (Below.refl _ _) (fun vb h1 h2 => by cases ao <;> simp_all [Value.ownBlock])
  · cases ad with
    | none => have := hr.nil rfl; have := hr.fits; omega
    | some x0 =>
      cases ao with
      | none =>
        have h0 := hr0.nil rfl
        subst h0
        have hl0 : l = [] := List.eq_nil_of_length_eq_zero (by omega)
        subst hl0
        obtain ⟨v', w', hrun, r1, r2, _⟩ := run_append_own (P := Tryd.prog) w w.heap.size 27 o.type 9 i (.string noS) 1 16 Tryd.underlying27 hi hz0 hz1 hz2 rfl (by decide) (.slice none 0 0) 0 [] (World.ownsRow_nil w _ _ _) x0 m c (sv k) (by rw [sv_length, hkl, Nat.mul_one]) hr.news (sv_one k) (by unfold maxLen; omega) (by omega) (Nat.le_refl _)
        unfold Oper.wp
        simp [execOp, ho, resolve, invoke, builtin, hs, hx, hrun, Result.andThen]
        refine h _ _ ?_ (below_grown r2) (apart_new r1)
        refine OwnS.mono (B := w.heap.size) ?_ hB
        unfold OwnS
        simpa [hkl] using r1
      | some y0 =>
        obtain ⟨v', w', hrun, r1, r2⟩ := run_append_arg_grows (P := Tryd.prog) w 27 o.type 9 i (.string noS) 1 16 Tryd.underlying27 hi hz0 hz1 hz2 rfl (by decide) y0 n n (sv l) (by rw [sv_length, hll, Nat.mul_one]) hr0.news x0 m c (sv k) (by rw [sv_length, hkl, Nat.mul_one]) hr.news (by omega) (by unfold maxLen; omega) (by omega)
        unfold Oper.wp
        simp [execOp, ho, resolve, invoke, builtin, hs, hx, hrun, Result.andThen]
        refine h _ _ ?_ (below_grown r2) (apart_new r1)
        refine OwnS.mono (B := w.heap.size) ?_ hB
        unfold OwnS
        rw [sv_append, List.length_append, hkl, hll]
        exact r1
theorem append_full {w : World} {ops : Array Oper} {rest : List Oper} {o : Oper} {a : Act} {Q : Exit → Act → World → Prop} (hgd : o.guard = none) (s x : Operand)
    (ho : o.op = .call { callee := .builtin .append, args := #[s, x], argTypes := #[27, 27] })
    (ao : Option Addr) (n : Nat) (l : List ByteArray) (hs : a.eval s = .slice ao n n) (hr0 : RdS w ao n n l)
    (ad : Option Addr) (m c : Nat) (k : List ByteArray) (hx : a.eval x = .slice ad m c) (hr : RdS w ad m c k)
    (hb : n + m ≤ 8796093022208) (B : Nat) (hB : B ≤ w.heap.size) (hown : m = 0 → OwnS w B (.slice ao n n) l)
    (h : ∀ v' w', OwnS w' B v' (l ++ k) → Below w.heap.size w w' → Apart w.heap.size ao v' → wpList Tryd.prog ops Q rest (a.put o.dst v') w') : wpList Tryd.prog ops Q (o :: rest) a w :=
  wpList_plain hgd fun K hK => wp_append_full s x ho ao n l hs hr0 ad m c k hx hr hb B hB hown (fun v' w' h1 h2 h3 => hK _ _ (h v' w' h1 h2 h3))
theorem step_append_full {ops : Array Oper} {w : World} {o : Oper} {a : Act} {K : Act → World → Prop} {Q : Exit → Act → World → Prop} {E : Prop} (hgd : o.guard = none) (s x : Operand)
    (ho : o.op = .call { callee := .builtin .append, args := #[s, x], argTypes := #[27, 27] })
    (ao : Option Addr) (n : Nat) (l : List ByteArray) (hs : a.eval s = .slice ao n n) (hr0 : RdS w ao n n l)
    (ad : Option Addr) (m c : Nat) (k : List ByteArray) (hx : a.eval x = .slice ad m c) (hr : RdS w ad m c k)
    (hb : n + m ≤ 8796093022208) (B : Nat) (hB : B ≤ w.heap.size) (hown : m = 0 → OwnS w B (.slice ao n n) l)
    (h : ∀ v' w', OwnS w' B v' (l ++ k) → Below w.heap.size w w' → Apart w.heap.size ao v' → K (a.put o.dst v') w') :
    if Region.wanted o (yielded ops a.tmps) = true then Oper.wp Tryd.prog o a w K Q else E := by
  have hw : Region.wanted o (yielded ops a.tmps) = true := by simp [Region.wanted, hgd]
  rw [if_pos hw]
  exact wp_append_full s x ho ao n l hs hr0 ad m c k hx hr hb B hB hown h
/-- The empty literal. -/
theorem Blk.ownNil {w : World} {b B : Nat} (h : Blk w b #[] 9) (hB : B ≤ b) : OwnS w B (.slice (some ⟨b, 0, none⟩) 0 0) [] :=
  ⟨rfl, .inr ⟨b, 0, #[], rfl, hB, h, Nat.le_refl _, by decide, rfl, rfl⟩⟩
theorem rdEmpty (w : World) (b : Nat) : RdS w (some ⟨b, 0, none⟩) 0 0 [] := ⟨rfl, by omega, by omega, by simp, (fun h => by cases h), fun h => by omega⟩
end Go.Proofs.YtjlgnbjfgeppcaaDoor
