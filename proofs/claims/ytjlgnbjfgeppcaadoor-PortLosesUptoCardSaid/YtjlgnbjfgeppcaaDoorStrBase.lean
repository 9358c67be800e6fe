/- Strings as cells; slices of strings that are read or owned. -/
import Derived.Test.YtjlgnbjfgeppcaaDoorProg
import Derived.Test.YtjlgnbjfgeppcaaDoorBase
import Derived.Test.YtjlgnbjfgeppcaaDoorDrew
import Derived.Laws.AppendOwnNone
import Derived.Laws.OwnMore
import Derived.Lib.SliceRun
namespace Go.Proofs.YtjlgnbjfgeppcaaDoor
open Go Go.RowKit
set_option linter.unusedVariables false

abbrev noS : ByteArray := ⟨#[]⟩
def sv (l : List ByteArray) : List Value := l.map .string
theorem sv_length (l : List ByteArray) : (sv l).length = l.length := by simp [sv]
theorem sv_append (l m : List ByteArray) : sv (l ++ m) = sv l ++ sv m := by simp [sv]
theorem sv_one (l : List ByteArray) : ∀ u ∈ sv l, u.oneCell' = true := by
  intro u hu
  simp only [sv, List.mem_map] at hu
  obtain ⟨c, _, rfl⟩ := hu
  rfl
theorem sv_get (l : List ByteArray) (i : Nat) (h : i < l.length) : (sv l)[i]? = some (.string (l.getD i noS)) := by
  simp [sv, List.getD_eq_getElem?_getD, h]
/-- A slice of strings that can be read. -/
structure RdS (w : World) (a : Option Addr) (n cap : Nat) (l : List ByteArray) : Prop where
  len : l.length = n
  fits : n ≤ cap
  bound : n ≤ 8796093022208
  size : ∀ s ∈ l, s.size < 9223372036854775808
  nil : a = none → cap = 0
  cells : 0 < n → ∃ b off, a = some ⟨b, off, none⟩ ∧ ∀ i, i < n → w.cell? ⟨b, off + i, none⟩ = some (.string (l.getD i noS))
theorem RdS.later {w w1 : World} {a : Option Addr} {n cap : Nat} {l : List ByteArray} (h : RdS w a n cap l) (hb : Below w.heap.size w w1) : RdS w1 a n cap l :=
  ⟨h.len, h.fits, h.bound, h.size, h.nil, fun hn => by
    obtain ⟨b, off, e, hc⟩ := h.cells hn
    exact ⟨b, off, e, fun i hi => (hb.cell (p := ⟨b, off + i, none⟩) (World.block_lt_of_cell? w _ (hc i hi))).trans (hc i hi)⟩⟩
/-- Strings of the call's own. -/
def OwnS (w : World) (B : Nat) (v : Value) (l : List ByteArray) : Prop := w.ownsRow B 9 1 v l.length (sv l)
theorem OwnS.nil (w : World) (B : Nat) : OwnS w B (.slice none 0 0) [] := World.ownsRow_nil w B _ _
theorem OwnS.later {w w1 : World} {B : Nat} {v : Value} {l : List ByteArray} (h : OwnS w B v l) (hb : Below w.heap.size w w1) : OwnS w1 B v l := by
  refine ⟨h.1, ?_⟩
  rcases h.2 with h' | ⟨g, cap, cur, hv, hg, hh, r⟩
  · exact .inl h'
  · exact .inr ⟨g, cap, cur, hv, hg, (hb.block _ (Array.getElem?_eq_some_iff.1 hh).1).trans hh, r⟩
theorem OwnS.mono {w : World} {B B' : Nat} {v : Value} {l : List ByteArray} (h : OwnS w B v l) (hB : B' ≤ B) : OwnS w B' v l := by
  refine ⟨h.1, ?_⟩
  rcases h.2 with h' | ⟨g, cap, cur, hv, hg, r⟩
  · exact .inl h'
  · exact .inr ⟨g, cap, cur, hv, by omega, r⟩
theorem OwnS.rd {w : World} {B : Nat} {v : Value} {l : List ByteArray} (h : OwnS w B v l) (hn : l.length ≤ 8796093022208) (hs : ∀ s ∈ l, s.size < 9223372036854775808) : ∃ a cap, v = .slice a l.length cap ∧ RdS w a l.length cap l := by
  rcases h.2 with ⟨hv, h0⟩ | ⟨g, cap, cur, hv, hb, hh, hf, hm, hcs, ht⟩
  · exact ⟨none, 0, by rw [hv, h0], rfl, by omega, by omega, hs, fun _ => rfl, fun h => by omega⟩
  · subst hv
    refine ⟨_, _, rfl, rfl, hf, hn, hs, (fun h => by cases h), fun _ => ⟨g, 0, rfl, fun i hi => ?_⟩⟩
    rw [Nat.zero_add, World.ownsRow.cellAt h i (by omega), sv_get l i hi]
theorem infoStr : (Tryd.prog.info? 9).map (fun i => (i.zero, i.size, i.bytes)) = some (some (.string noS), 1, 16) := by kernel_rfl
theorem ownS_base {w : World} {B : Nat} {E : TypeId} {s : Nat} {v : Value} {n : Nat} {xs : List Value} (h : w.ownsRow B E s v n xs) {j : Nat} (hj : v.ownBlock = some j) : B ≤ j := by
  rcases h.2 with ⟨h', _⟩ | ⟨g, cap, cur, h', hb, _⟩
  · subst h'; simp [Value.ownBlock] at hj
  · subst h'; simp [Value.ownBlock] at hj; omega
theorem wp_append_none {w : World} {o : Oper} {a : Act} {K : Act → World → Prop} {Q : Exit → Act → World → Prop} (s x : Operand) (t : TypeId)
    (ho : o.op = .call { callee := .builtin .append, args := #[s, x], argTypes := #[t, t] })
    (base : Nat) (e : TypeId) (i : TypeInfo) (size : Nat) (ht : Tryd.prog.underlying t = some (.slice e)) (hi : Tryd.prog.info? e = some i)
    (v : Value) (n : Nat) (xs : List Value) (hs : a.eval s = v) (hown : w.ownsRow base e size v n xs) (hx : a.eval x = .slice none 0 0)
    (h : K (a.put o.dst v) w) : o.wp Tryd.prog a w K Q := by
  have hrun := run_append_owned_none (P := Tryd.prog) (w := w) base t o.type e i size ht hi v n xs hown
  unfold Oper.wp
  simp [execOp, ho, resolve, invoke, builtin, hs, hx, hrun, Result.andThen]
  exact h
/-- Appending strings, at an operation. -/
theorem wp_append_strs {w w0 : World} {o : Oper} {a : Act} {K : Act → World → Prop} {Q : Exit → Act → World → Prop} (s x : Operand)
    (ho : o.op = .call { callee := .builtin .append, args := #[s, x], argTypes := #[27, 27] })
    (base : Nat) (v : Value) (l : List ByteArray) (hs : a.eval s = v) (hown : OwnS w base v l)
    (ad : Option Addr) (m c : Nat) (k : List ByteArray) (hx : a.eval x = .slice ad m c) (hr : RdS w ad m c k)
    (hb : l.length + m ≤ 8796093022208) (hbase : base ≤ w.heap.size) (h0 : Below base w0 w)
    (h : ∀ v' w', OwnS w' base v' (l ++ k) → Below base w0 w' → K (a.put o.dst v') w') : o.wp Tryd.prog a w K Q := by
  obtain ⟨i, hi, hz0, hz1, hz2⟩ := info_parts infoStr
  have hkl := hr.len
  cases ad with
  | none =>
    have hc := hr.nil rfl
    have hm : m = 0 := by have := hr.fits; omega
    have hl : k = [] := List.eq_nil_of_length_eq_zero (by omega)
    subst hc; subst hm; subst hl
    refine wp_append_none s x 27 ho base 9 i 1 Tryd.underlying27 hi v l.length (sv l) hs hown hx ?_
    exact h v w (by simpa using hown) h0
  | some x0 =>
    refine wp_append_own w s x 27 ho base 9 i (.string noS) 1 16 Tryd.underlying27 hi hz0 hz1 hz2 rfl (by decide) v l.length (sv l) hs hown x0 m c (sv k) hx (by rw [sv_length, hkl, Nat.mul_one]) ?_ (sv_one k) (by unfold maxLen; omega) (by omega) hbase ?_
    · intro j u hu
      have hj : j < k.length := by
        have := (List.getElem?_eq_some_iff.1 hu).1
        rwa [sv_length] at this
      rw [sv_get k j hj] at hu
      obtain ⟨b, off, e, hc⟩ := hr.cells (by omega)
      obtain rfl := Option.some.inj e
      have e1 : (⟨b, off, none⟩ : Addr).add j = ⟨b, off + j, none⟩ := by unfold Addr.add; split <;> simp_all
      rw [e1, hc j (by omega), hu]
    · intro v' w' h1 h2 _
      refine h v' w' ?_ (h0.grown h2 hbase (fun k hk => ownS_base hown hk))
      unfold OwnS
      rw [sv_append, List.length_append, hkl]
      exact h1
/-- Appending strings. -/
theorem append_strs {w w0 : World} {ops : Array Oper} {rest : List Oper} {o : Oper} {a : Act} {Q : Exit → Act → World → Prop} (hgd : o.guard = none) (s x : Operand)
    (ho : o.op = .call { callee := .builtin .append, args := #[s, x], argTypes := #[27, 27] })
    (base : Nat) (v : Value) (l : List ByteArray) (hs : a.eval s = v) (hown : OwnS w base v l)
    (ad : Option Addr) (m c : Nat) (k : List ByteArray) (hx : a.eval x = .slice ad m c) (hr : RdS w ad m c k)
    (hb : l.length + m ≤ 8796093022208) (hbase : base ≤ w.heap.size) (h0 : Below base w0 w)
    (h : ∀ v' w', OwnS w' base v' (l ++ k) → Below base w0 w' → wpList Tryd.prog ops Q rest (a.put o.dst v') w') : wpList Tryd.prog ops Q (o :: rest) a w :=
  wpList_plain hgd fun K hK => wp_append_strs s x ho base v l hs hown ad m c k hx hr hb hbase h0 (fun v' w' h1 h2 => hK _ _ (h v' w' h1 h2))
/-- The same as a step of a region that draws its order. -/
theorem step_append_strs {ops : Array Oper} {w w0 : World} {o : Oper} {a : Act} {K : Act → World → Prop} {Q : Exit → Act → World → Prop} {E : Prop} (hgd : o.guard = none) (s x : Operand)
    (ho : o.op = .call { callee := .builtin .append, args := #[s, x], argTypes := #[27, 27] })
    (base : Nat) (v : Value) (l : List ByteArray) (hs : a.eval s = v) (hown : OwnS w base v l)
    (ad : Option Addr) (m c : Nat) (k : List ByteArray) (hx : a.eval x = .slice ad m c) (hr : RdS w ad m c k)
    (hb : l.length + m ≤ 8796093022208) (hbase : base ≤ w.heap.size) (h0 : Below base w0 w)
    (h : ∀ v' w', OwnS w' base v' (l ++ k) → Below base w0 w' → K (a.put o.dst v') w') :
    if Region.wanted o (yielded ops a.tmps) = true then Oper.wp Tryd.prog o a w K Q else E := by
  have hw : Region.wanted o (yielded ops a.tmps) = true := by simp [Region.wanted, hgd]
  rw [if_pos hw]
  exact wp_append_strs s x ho base v l hs hown ad m c k hx hr hb hbase h0 h
/-- Appending one string. -/
theorem append_str {w : World} {ops : Array Oper} {rest : List Oper} {o : Oper} {a : Act} {Q : Exit → Act → World → Prop} (hgd : o.guard = none) (s x : Operand)
    (ho : o.op = .call { callee := .builtin .append, args := #[s, x], argTypes := #[27, 27] })
    (w0 : World) (D : ByteArray) (hD : D.size < 9223372036854775808) (hw : w = w0.alloc (.cells #[.string D] 9))
    (base : Nat) (v : Value) (l : List ByteArray) (hs : a.eval s = v) (hown : OwnS w0 base v l) (hx : a.eval x = .slice (some ⟨w0.heap.size, 0, none⟩) 1 1)
    (hl : l.length + 1 ≤ 8796093022208) (hbase : base ≤ w0.heap.size)
    (h : ∀ v' w', OwnS w' base v' (l ++ [D]) → Below base w0 w' → wpList Tryd.prog ops Q rest (a.put o.dst v') w') : wpList Tryd.prog ops Q (o :: rest) a w := by
  subst hw
  have b1 : Below w0.heap.size w0 (w0.alloc (.cells #[.string D] 9)) := (Below.refl _ _).alloc (Nat.le_refl _) _
  refine append_strs (w0 := w0) hgd s x ho base v l hs (hown.later b1) (some ⟨w0.heap.size, 0, none⟩) 1 1 [D] hx ⟨rfl, by omega, by omega, by simpa using hD, (fun h => by cases h), fun _ => ⟨w0.heap.size, 0, rfl, fun i hi => by
    have : i = 0 := by omega
    subst this
    rw [World.cell?_alloc_new]
    rfl⟩⟩ hl (by have := b1.size; omega) (b1.mono hbase) h
end Go.Proofs.YtjlgnbjfgeppcaaDoor
