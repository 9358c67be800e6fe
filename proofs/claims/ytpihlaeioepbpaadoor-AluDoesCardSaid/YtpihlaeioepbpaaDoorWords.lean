/- Slices of words of 32 bits: read, owned, appended to, compared. -/
import Derived.Test.YtpihlaeioepbpaaDoorProg
import Derived.Test.YtpihlaeioepbpaaDoorBase
import Derived.Test.YtpihlaeioepbpaaDoorDrew
import Derived.Laws.AppendOwnNone
import Derived.Laws.OwnMore
namespace Go.Proofs.YtpihlaeioepbpaaDoor
open Go Go.RowKit
set_option linter.unusedVariables false

/-- A slice of words that can be read: its elements. -/
structure RdW (w : World) (a : Option Addr) (n cap : Nat) (l : List (BitVec 32)) : Prop where
  len : l.length = n
  fits : n ≤ cap
  bound : n ≤ 35184372088832
  nil : a = none → cap = 0
  cells : 0 < n → ∃ b off, a = some ⟨b, off, none⟩ ∧ ∀ j, j < n → w.cell? ⟨b, off + j, none⟩ = some (.int .u32 ((l.getD j 0#32).toNat : Int))
theorem RdW.later {w w1 : World} {a : Option Addr} {n cap : Nat} {l : List (BitVec 32)} (h : RdW w a n cap l) (hb : Below w.heap.size w w1) : RdW w1 a n cap l :=
  ⟨h.len, h.fits, h.bound, h.nil, fun hn => by
    obtain ⟨b, off, e, hc⟩ := h.cells hn
    exact ⟨b, off, e, fun j hj => (hb.cell (p := ⟨b, off + j, none⟩) (World.block_lt_of_cell? w ⟨b, off + j, none⟩ (hc j hj))).trans (hc j hj)⟩⟩
/-- The words as cells. -/
def wv (l : List (BitVec 32)) : List Value := l.map fun c => .int .u32 (c.toNat : Int)
theorem wv_length (l : List (BitVec 32)) : (wv l).length = l.length := by simp [wv]
theorem wv_append (l m : List (BitVec 32)) : wv (l ++ m) = wv l ++ wv m := by simp [wv]
theorem wv_get (l : List (BitVec 32)) (j : Nat) (h : j < l.length) : (wv l)[j]? = some (.int .u32 ((l.getD j 0#32).toNat : Int)) := by
  simp [wv, List.getD_eq_getElem?_getD, h]
theorem wv_one (l : List (BitVec 32)) : ∀ u ∈ wv l, u.oneCell' = true := by
  intro u hu
  simp only [wv, List.mem_map] at hu
  obtain ⟨c, _, rfl⟩ := hu
  rfl
theorem wv_set (l : List (BitVec 32)) (j : Nat) (c : BitVec 32) : (wv l).set j (.int .u32 (c.toNat : Int)) = wv (l.set j c) := by simp [wv, List.map_set]
theorem RdW.own {w : World} {B : Nat} {E : TypeId} {a : Option Addr} {n cap : Nat} {l : List (BitVec 32)} (h : w.ownsRow B E 1 (.slice a n cap) n (wv l)) (hcap : n ≤ 35184372088832) : RdW w a n cap l := by
  have hl : l.length = n := by have := h.1; rw [wv_length] at this; omega
  rcases h.2 with ⟨hv, h0⟩ | ⟨g, cap', cur, hv, hb, hh, hf, hm, hcs, ht⟩
  · simp only [Value.slice.injEq] at hv
    obtain ⟨rfl, rfl, rfl⟩ := hv
    exact ⟨hl, by omega, by omega, fun _ => rfl, fun hn => by omega⟩
  · simp only [Value.slice.injEq] at hv
    obtain ⟨rfl, _, rfl⟩ := hv
    refine ⟨hl, hf, hcap, (fun h => by cases h), fun hn => ⟨g, 0, rfl, fun j hj => ?_⟩⟩
    have hc := World.ownsRow.cellAt h j (by omega)
    rw [Nat.zero_add, hc, wv_get l j (by omega)]
theorem RdW.nilRow (w : World) : RdW w none 0 0 [] := ⟨rfl, by omega, by omega, fun _ => rfl, fun h => by omega⟩
/-- The first of them. -/
theorem RdW.take {w : World} {a : Option Addr} {n cap : Nat} {l : List (BitVec 32)} (h : RdW w a n cap l) (k : Nat) (hk : k ≤ n) : RdW w a k cap (l.take k) := by
  have hf := h.fits
  have hb := h.bound
  refine ⟨by rw [List.length_take, h.len]; omega, by omega, by omega, h.nil, fun h0 => ?_⟩
  obtain ⟨b, off, e, hc⟩ := h.cells (by omega)
  refine ⟨b, off, e, fun j hj => ?_⟩
  rw [hc j (by omega)]
  simp [List.getD_eq_getElem?_getD, List.getElem?_take, hj]
theorem wown_later {w w1 : World} {B : Nat} {E : TypeId} {v : Value} {n : Nat} {xs : List Value} (h : w.ownsRow B E 1 v n xs) (hb : Below w.heap.size w w1) : w1.ownsRow B E 1 v n xs := by
  refine ⟨h.1, ?_⟩
  rcases h.2 with h' | ⟨g, cap, cur, hv, hg, hh, r⟩
  · exact .inl h'
  · exact .inr ⟨g, cap, cur, hv, hg, (hb.block _ (Array.getElem?_eq_some_iff.1 hh).1).trans hh, r⟩
theorem wown_mono {w : World} {B B' : Nat} {E : TypeId} {v : Value} {n : Nat} {xs : List Value} (h : w.ownsRow B E 1 v n xs) (hB : B' ≤ B) : w.ownsRow B' E 1 v n xs := by
  refine ⟨h.1, ?_⟩
  rcases h.2 with h' | ⟨g, cap, cur, hv, hg, r⟩
  · exact .inl h'
  · exact .inr ⟨g, cap, cur, hv, by omega, r⟩
/-- A row of one's own, as a slice that can be read. -/
theorem wown_rd {w : World} {B : Nat} {E : TypeId} {v : Value} {n : Nat} {l : List (BitVec 32)} (h : w.ownsRow B E 1 v n (wv l)) (hn : n ≤ 35184372088832) : ∃ x cx, v = .slice x n cx ∧ RdW w x n cx l := by
  rcases h.2 with ⟨hv, h0⟩ | ⟨g, cap', cur, hv, _⟩
  · subst hv
    subst h0
    exact ⟨none, 0, rfl, RdW.own h hn⟩
  · subst hv
    exact ⟨_, _, rfl, RdW.own h hn⟩
theorem RdW.lit1 (w : World) (c : BitVec 32) : RdW (w.alloc (.cells #[.int .u32 (c.toNat : Int)] 22)) (some ⟨w.heap.size, 0, none⟩) 1 1 [c] :=
  RdW.own (World.ownsRow_lit w (wv [c]).toArray 1 (base := w.heap.size) (e := 22) (size := 1) (Nat.le_refl _) (by decide) rfl) (by omega)
theorem infoU32 : (Tryd.prog.info? 22).map (fun i => (i.zero, i.size, i.bytes)) = some (some (.int .u32 0), 1, 4) := by kernel_rfl
theorem append_words {w : World} {ops : Array Oper} {rest : List Oper} {o : Oper} {a : Act} {Q : Exit → Act → World → Prop} (hgd : o.guard = none) (s x : Operand)
    (ho : o.op = .call { callee := .builtin .append, args := #[s, x], argTypes := #[42, 42] })
    (base : Nat) (v : Value) (n : Nat) (xs : List Value) (hs : a.eval s = v) (hown : w.ownsRow base 22 1 v n xs)
    (x0 : Addr) (m c : Nat) (l : List (BitVec 32)) (hx : a.eval x = .slice (some x0) m c) (hr : RdW w (some x0) m c l)
    (hb : n + m ≤ 35184372088832) (hbase : base ≤ w.heap.size)
    (h : ∀ v' w', w'.ownsRow base 22 1 v' (n + m) (xs ++ wv l) → w.grownBy w' v.ownBlock → wpList Tryd.prog ops Q rest (a.put o.dst v') w') : wpList Tryd.prog ops Q (o :: rest) a w := by
  obtain ⟨i, hi, hz0, hz1, hz2⟩ := info_parts infoU32
  refine wpList_append_own w hgd s x 42 ho base 22 i (.int .u32 0) 1 4 Tryd.underlying42 hi hz0 hz1 hz2 rfl (by decide) v n xs hs hown x0 m c (wv l) hx (by rw [wv_length, hr.len, Nat.mul_one]) ?_ (wv_one l) (by unfold maxLen; omega) (by omega) hbase ?_
  · intro j u hu
    have hj : j < l.length := by
      have := (List.getElem?_eq_some_iff.1 hu).1
      rwa [wv_length] at this
    rw [wv_get l j hj] at hu
    have hj' : j < m := by rw [← hr.len]; exact hj
    obtain ⟨b, off, e, hc⟩ := hr.cells (by omega)
    obtain rfl := Option.some.inj e
    have e1 : (⟨b, off, none⟩ : Addr).add j = ⟨b, off + j, none⟩ := by unfold Addr.add; split <;> simp_all
    rw [e1, hc j hj', hu]
  · exact fun v' w' h1 h2 h3 => h v' w' h1 h2
end Go.Proofs.YtpihlaeioepbpaaDoor
