/- Ports of the call's own: a row of ports, each with a list of its own; appending a port; the law's copiedAll. -/
import Derived.Test.YtjlgnbjfgeppcaaDoorPortTold
import Derived.Test.YtjlgnbjfgeppcaaDoorLawCopy
import Derived.Maps.AppendAt
namespace Go.Proofs.YtjlgnbjfgeppcaaDoor
open Go Go.RowKit
set_option linter.unusedVariables false

def portsL (U : Nat → PortV) : Nat → List Value
  | 0 => []
  | n + 1 => portsL U n ++ (U n).row
theorem portsL_length (U : Nat → PortV) (n : Nat) : (portsL U n).length = n * 2 := by
  induction n with
  | zero => rfl
  | succ n ih => rw [portsL, List.length_append, ih, Nat.add_mul]; rfl
theorem portsL_get (U : Nat → PortV) (n i j : Nat) (hi : i < n) (hj : j < 2) : (portsL U n)[i * 2 + j]? = (U i).row[j]? := by
  induction n with
  | zero => omega
  | succ n ih =>
    rw [portsL]
    by_cases e : i = n
    · subst e
      rw [List.getElem?_append_right (by rw [portsL_length]; omega), portsL_length, Nat.add_sub_cancel_left]
    · rw [List.getElem?_append_left (by rw [portsL_length]; omega)]
      exact ih (by omega)
theorem portsL_congr {U U' : Nat → PortV} (n : Nat) (h : ∀ i, i < n → U i = U' i) : portsL U n = portsL U' n := by
  induction n with
  | zero => rfl
  | succ n ih => rw [portsL, portsL, ih (fun i hi => h i (by omega)), h n (by omega)]
/-- Ports of the call's own. -/
structure OwnPo (w : World) (B : Nat) (v : Value) (n : Nat) (U : Nat → PortV) : Prop where
  row : w.ownsRow B 29 2 v n (portsL U n)
  each : ∀ i, i < n → OwnS w B (.slice (U i).a (U i).m (U i).c) (U i).l
  far : ∀ i, i < n → ∀ b, v.ownBlock = some b → (Value.slice (U i).a (U i).m (U i).c).ownBlock ≠ some b
theorem OwnPo.nil (w : World) (B : Nat) (U : Nat → PortV) : OwnPo w B (.slice none 0 0) 0 U := ⟨World.ownsRow_nil w B _ _, fun i hi => by omega, fun i hi => by omega⟩
theorem ownsRow_later {w w1 : World} {B : Nat} {E : TypeId} {s : Nat} {v : Value} {n : Nat} {xs : List Value} (h : w.ownsRow B E s v n xs) (hb : Below w.heap.size w w1) : w1.ownsRow B E s v n xs := by
  refine ⟨h.1, ?_⟩
  rcases h.2 with h' | ⟨g, cap, cur, hv, hg, hh, r⟩
  · exact .inl h'
  · exact .inr ⟨g, cap, cur, hv, hg, (hb.block _ (Array.getElem?_eq_some_iff.1 hh).1).trans hh, r⟩
theorem OwnPo.later {w w1 : World} {B : Nat} {v : Value} {n : Nat} {U : Nat → PortV} (h : OwnPo w B v n U) (hb : Below w.heap.size w w1) : OwnPo w1 B v n U :=
  ⟨ownsRow_later h.row hb, fun i hi => (h.each i hi).later hb, h.far⟩
theorem OwnPo.shape {w : World} {B : Nat} {v : Value} {n : Nat} {U : Nat → PortV} (h : OwnPo w B v n U) : ∃ a c, v = .slice a n c := by
  rcases h.row.2 with ⟨hv, h0⟩ | ⟨g, cap, cur, hv, _⟩
  · exact ⟨none, 0, by rw [hv, h0]⟩
  · exact ⟨_, _, hv⟩
/-- They can be read. -/
theorem OwnPo.rd {w : World} {B : Nat} {a : Option Addr} {n c : Nat} {U : Nat → PortV} (h : OwnPo w B (.slice a n c) n U) (hn : n ≤ 4398046511104) (hl : ∀ i, i < n → (U i).l.length ≤ 8796093022208 ∧ ∀ s ∈ (U i).l, s.size < 9223372036854775808) : RdPo w a n c U := by
  have each : ∀ i, i < n → RdS w (U i).a (U i).m (U i).c (U i).l := fun i hi => (h.each i hi).rdn (hl i hi).1 (hl i hi).2
  rcases h.row.2 with ⟨hv, h0⟩ | ⟨g, cap, cur, hv, hB, hh, hc, hm, hsz, ht⟩
  · simp only [Value.slice.injEq] at hv
    obtain ⟨rfl, rfl, rfl⟩ := hv
    exact ⟨by omega, by omega, fun _ => rfl, fun h => by omega, each⟩
  · simp only [Value.slice.injEq] at hv
    obtain ⟨rfl, _, rfl⟩ := hv
    refine ⟨hc, hn, (fun h => by cases h), fun _ => ⟨g, 0, rfl, fun i hi j u hu => ?_⟩, each⟩
    have hj : j < 2 := by
      have := (List.getElem?_eq_some_iff.1 hu).1
      simpa [PortV.row] using this
    rw [Nat.zero_add, World.ownsRow.cellAt h.row (i * 2 + j) (by omega), portsL_get U n i j hi hj]
    exact hu
/-- Another row has grown: they stay. -/
theorem OwnPo.keep {w w1 : World} {B : Nat} {v : Value} {n : Nat} {U : Nat → PortV} (h : OwnPo w B v n U) (hk : ∀ g, g < w.heap.size → (v.ownBlock = some g ∨ ∃ i, i < n ∧ (Value.slice (U i).a (U i).m (U i).c).ownBlock = some g) → w1.heap[g]? = w.heap[g]?) : OwnPo w1 B v n U := by
  refine ⟨⟨h.row.1, ?_⟩, fun i hi => (h.each i hi).heap fun g hg => hk g (ownS_in (h.each i hi) hg).2 (.inr ⟨i, hi, hg⟩), h.far⟩
  rcases h.row.2 with h' | ⟨g, cap, cur, hv, hB, hh, r⟩
  · exact .inl h'
  · exact .inr ⟨g, cap, cur, hv, hB, (hk g (Array.getElem?_eq_some_iff.1 hh).1 (.inl (by rw [hv]; rfl))).trans hh, r⟩
theorem OwnPo.lt {w : World} {B : Nat} {v : Value} {n : Nat} {U : Nat → PortV} (h : OwnPo w B v n U) {b : Nat} (hb : v.ownBlock = some b) : B ≤ b ∧ b < w.heap.size := by
  refine ⟨ownS_base h.row hb, ?_⟩
  rcases h.row.2 with ⟨hv, _⟩ | ⟨g, cap, cur, hv, _, hh, _⟩
  · rw [hv] at hb; simp [Value.ownBlock] at hb
  · rw [hv] at hb
    simp [Value.ownBlock] at hb
    subst hb
    exact (Array.getElem?_eq_some_iff.1 hh).1
theorem infoPort : (Tryd.prog.info? 29).map (fun i => (i.zero, i.size, i.bytes)) = some (some (.agg (portA none 0 0 0)), 2, 32) := by kernel_rfl
/-- One more port. -/
def pupd (U : Nat → PortV) (n : Nat) (q : PortV) : Nat → PortV := fun i => if i = n then q else U i
theorem pupd_at (U : Nat → PortV) (n : Nat) (q : PortV) : pupd U n q n = q := by unfold pupd; rw [if_pos rfl]
theorem pupd_lt (U : Nat → PortV) (n : Nat) (q : PortV) {i : Nat} (h : i < n) : pupd U n q i = U i := by unfold pupd; rw [if_neg (by omega)]
/-- 'append(out, q)'. -/
theorem append_port {w0 : World} {ops : Array Oper} {rest : List Oper} {o : Oper} {a : Act} {Q : Exit → Act → World → Prop} (hgd : o.guard = none) (s x : Operand)
    (ho : o.op = .call { callee := .builtin .append, args := #[s, x], argTypes := #[42, 42] })
    (B : Nat) (v : Value) (n : Nat) (U : Nat → PortV) (hs : a.eval s = v) (hown : OwnPo w0 B v n U) (q : PortV) (hq : OwnS w0 B (.slice q.a q.m q.c) q.l) (hqf : ∀ b, v.ownBlock = some b → (Value.slice q.a q.m q.c).ownBlock ≠ some b)
    (hx : a.eval x = .slice (some ⟨w0.heap.size, 0, none⟩) 1 1) (hn : n + 1 ≤ 4398046511104) (hB : B ≤ w0.heap.size)
    (h : ∀ v' w', OwnPo w' B v' (n + 1) (pupd U n q) → Below B w0 w' → (w0.alloc (.cells (portA q.a q.m q.c q.g) 29)).grownBy w' v.ownBlock → (v'.ownBlock = v.ownBlock ∨ v'.ownBlock = some (w0.heap.size + 1)) → wpList Tryd.prog ops Q rest (a.put o.dst v') w') :
    wpList Tryd.prog ops Q (o :: rest) a (w0.alloc (.cells (portA q.a q.m q.c q.g) 29)) := by
  obtain ⟨i, hi, hz0, hz1, hz2⟩ := info_parts infoPort
  have b0 := below_alloc w0 (.cells (portA q.a q.m q.c q.g) 29)
  have hsz : (w0.alloc (.cells (portA q.a q.m q.c q.g) 29)).heap.size = w0.heap.size + 1 := by simp
  refine wpList_append_own_at _ hgd s x 42 ho B 29 i _ 2 32 Tryd.underlying42 hi hz0 hz1 hz2 (by simp [Value.cells]) (by decide) v n (portsL U n) hs (ownsRow_later hown.row b0) ⟨w0.heap.size, 0, none⟩ 1 1 q.row hx (by rfl) ?_ ?_ (by unfold maxLen; omega) (by omega) (by omega) ?_
  · intro j u hu
    have e1 : (⟨w0.heap.size, 0, none⟩ : Addr).add j = ⟨w0.heap.size, 0 + j, none⟩ := by unfold Addr.add; split <;> simp_all
    rw [e1, Nat.zero_add, World.cell?_alloc_new]
    have : (portA q.a q.m q.c q.g).toList = q.row := rfl
    rw [← this] at hu
    simpa using hu
  · intro u hu
    simp only [PortV.row, List.mem_cons, List.not_mem_nil, or_false] at hu
    rcases hu with rfl | rfl <;> rfl
  · intro v' w' h1 h2 _ h4
    have inner : ∀ (y : Value) (l : List ByteArray), OwnS w0 B y l → (∀ b, v.ownBlock = some b → y.ownBlock ≠ some b) → OwnS w' B y l ∧ (∀ b, v'.ownBlock = some b → y.ownBlock ≠ some b) := fun y l hy hf => by
      refine ⟨hy.heap fun g hg => ?_, fun b hb e => ?_⟩
      · have hin := ownS_in hy hg
        exact (h2.block g (by rw [hsz]; omega) (fun e => hf g e.symm hg)).trans (b0.block g hin.2)
      · have hin := ownS_in hy e
        rcases h4 with h4 | h4
        · rw [h4] at hb; exact hf b hb e
        · rw [h4, hsz] at hb; simp at hb; omega
    refine h v' w' ⟨?_, fun j hj => ?_, fun j hj => ?_⟩ ((b0.mono hB).grown h2 (by rw [hsz]; omega) (fun k hk => ?_)) h2 (by rw [hsz] at h4; exact h4)
    · rw [portsL, pupd_at, portsL_congr (U' := U) n (fun j hj => pupd_lt U n q hj)]
      exact h1
    · rcases Nat.lt_or_ge j n with hlt | hge
      · rw [pupd_lt U n q hlt]; exact (inner _ _ (hown.each j hlt) (hown.far j hlt)).1
      · have : j = n := by omega
        subst this; rw [pupd_at]; exact (inner _ _ hq hqf).1
    · rcases Nat.lt_or_ge j n with hlt | hge
      · rw [pupd_lt U n q hlt]; exact (inner _ _ (hown.each j hlt) (hown.far j hlt)).2
      · have : j = n := by omega
        subst this; rw [pupd_at]; exact (inner _ _ hq hqf).2
    · exact ownS_base hown.row hk
end Go.Proofs.YtjlgnbjfgeppcaaDoor
