
/- Rows of the call's own, read rows: for seats without the ports' texts (their MsgOwn, ArrTwo hold the same). -/
import Derived.Test.YtadikbmbadldpaaGreatDoorBlk
import Derived.Laws.AppendOwnNone
import Derived.Laws.OwnMore
import Derived.Lib.SliceRun
import Derived.Maps.AppendAt
import Derived.Deep.MidRow
namespace Go.Proofs.YtadikbmbadldpaaGreatDoor
open Go Go.RowKit
set_option linter.unusedVariables false

theorem below_alloc (w : World) (o : Obj) : Below w.heap.size w (w.alloc o) := (Below.refl _ _).alloc (Nat.le_refl _) _
theorem srange_later {w w' : World} {b o : Nat} {cs : List Value} (h : w.rangeAt b o cs) (hb : Below w.heap.size w w') : w'.rangeAt b o cs := fun j v hv => by
  have := h j v hv
  exact (hb.cell (p := ⟨b, o + j, none⟩) (World.block_lt_of_cell? w _ this)).trans this
theorem ownsRow_later {w w1 : World} {B : Nat} {E : TypeId} {s : Nat} {v : Value} {n : Nat} {xs : List Value} (h : w.ownsRow B E s v n xs) (hb : Below w.heap.size w w1) : w1.ownsRow B E s v n xs := by
  refine ⟨h.1, ?_⟩
  rcases h.2 with h' | ⟨g, cap, cur, hv, hg, hh, r⟩
  · exact .inl h'
  · exact .inr ⟨g, cap, cur, hv, hg, (hb.block _ (Array.getElem?_eq_some_iff.1 hh).1).trans hh, r⟩
theorem ownS_base {w : World} {B : Nat} {E : TypeId} {s : Nat} {v : Value} {n : Nat} {xs : List Value} (h : w.ownsRow B E s v n xs) {j : Nat} (hj : v.ownBlock = some j) : B ≤ j := by
  rcases h.2 with ⟨h', _⟩ | ⟨g, cap, cur, h', hb, _⟩
  · subst h'; simp [Value.ownBlock] at hj
  · subst h'; simp [Value.ownBlock] at hj; omega
/-- Slices of rows of these sizes. -/
structure RdRows (w : World) (k : Nat) (a : Option Addr) (n cap : Nat) (R : Nat → List Value) : Prop where
  fits : n ≤ cap
  bound : n ≤ 5864062014805
  nil : a = none → cap = 0
  cells : 0 < n → ∃ b off, a = some ⟨b, off, none⟩ ∧ ∀ i, i < n → w.rangeAt b (off + i * k) (R i)
theorem RdRows.later {w w1 : World} {k : Nat} {a : Option Addr} {n cap : Nat} {R : Nat → List Value} (h : RdRows w k a n cap R) (hb : Below w.heap.size w w1) : RdRows w1 k a n cap R :=
  ⟨h.fits, h.bound, h.nil, fun hn => by
    obtain ⟨b, off, e, hc⟩ := h.cells hn
    exact ⟨b, off, e, fun i hi => srange_later (hc i hi) hb⟩⟩
/-- Rows one behind the other. -/
def flatR (L : List (List Value)) : List Value := L.flatten
theorem flatR_append (L : List (List Value)) (r : List Value) : flatR (L ++ [r]) = flatR L ++ r := by simp [flatR]
theorem flatR_length (k : Nat) (L : List (List Value)) (h : ∀ r ∈ L, r.length = k) : (flatR L).length = L.length * k := by
  induction L with
  | nil => simp [flatR]
  | cons r L ih =>
    have h1 := h r (by simp)
    have h2 := ih (fun x hx => h x (by simp [hx]))
    unfold flatR at h2 ⊢
    rw [List.flatten_cons, List.length_append, h1, h2, List.length_cons, Nat.add_mul]
    omega
theorem flatR_get (k : Nat) : ∀ (L : List (List Value)) (h : ∀ r ∈ L, r.length = k) (i j : Nat) (hi : i < L.length) (hj : j < k), (flatR L)[i * k + j]? = (L.getD i [])[j]?
  | [], _, i, _, hi, _ => by simp at hi
  | r :: L, h, i, j, hi, hj => by
    have h1 := h r (by simp)
    unfold flatR
    rw [List.flatten_cons]
    cases i with
    | zero => rw [Nat.zero_mul, Nat.zero_add, List.getElem?_append_left (by omega)]; rfl
    | succ i =>
      rw [List.getElem?_append_right (by rw [Nat.add_mul]; omega), h1, show (i + 1) * k + j - k = i * k + j by rw [Nat.add_mul]; omega]
      have ih := flatR_get k L (fun x hx => h x (by simp [hx])) i j (by simpa using hi) hj
      unfold flatR at ih
      rw [ih]; rfl
/-- Rows of the call's own: k cells each, of an element type. -/
structure OwnR (w : World) (E : TypeId) (k : Nat) (B : Nat) (v : Value) (L : List (List Value)) : Prop where
  row : w.ownsRow B E k v L.length (flatR L)
  len : ∀ r ∈ L, r.length = k
  one : ∀ r ∈ L, ∀ u ∈ r, u.oneCell' = true
theorem OwnR.nil (w : World) (E : TypeId) (k B : Nat) : OwnR w E k B (.slice none 0 0) [] := ⟨World.ownsRow_nil w B _ _, by simp, by simp⟩
theorem OwnR.later {w w1 : World} {E : TypeId} {k B : Nat} {v : Value} {L : List (List Value)} (h : OwnR w E k B v L) (hb : Below w.heap.size w w1) : OwnR w1 E k B v L := ⟨ownsRow_later h.row hb, h.len, h.one⟩
theorem OwnR.mono {w : World} {E : TypeId} {k B B' : Nat} {v : Value} {L : List (List Value)} (h : OwnR w E k B v L) (hB : B' ≤ B) : OwnR w E k B' v L := by
  refine ⟨⟨h.row.1, ?_⟩, h.len, h.one⟩
  rcases h.row.2 with h' | ⟨g, cap, cur, hv, hg, r⟩
  · exact .inl h'
  · exact .inr ⟨g, cap, cur, hv, by omega, r⟩
theorem OwnR.shape {w : World} {E : TypeId} {k B : Nat} {v : Value} {L : List (List Value)} (h : OwnR w E k B v L) : ∃ a c m, Kp (m = L.length) ∧ v = .slice a m c := by
  rcases h.row.2 with ⟨hv, h0⟩ | ⟨g, cap, cur, hv, _⟩
  · exact ⟨none, 0, 0, ⟨h0.symm⟩, hv⟩
  · exact ⟨_, _, _, ⟨rfl⟩, hv⟩
theorem OwnR.lt {w : World} {E : TypeId} {k B : Nat} {v : Value} {L : List (List Value)} (h : OwnR w E k B v L) {b : Nat} (hb : v.ownBlock = some b) : B ≤ b ∧ b < w.heap.size := by
  rcases h.row.2 with ⟨hv, _⟩ | ⟨g, cap, cur, hv, hB, hh, _⟩
  · rw [hv] at hb; simp [Value.ownBlock] at hb
  · rw [hv] at hb
    simp [Value.ownBlock] at hb
    subst hb
    exact ⟨hB, (Array.getElem?_eq_some_iff.1 hh).1⟩
/-- They can be read. -/
theorem OwnR.rd {w : World} {E : TypeId} {k B : Nat} {a : Option Addr} {n c : Nat} {L : List (List Value)} (h : OwnR w E k B (.slice a n c) L) (hn : n ≤ 5864062014805) : RdRows w k a n c (fun i => L.getD i []) := by
  rcases h.row.2 with ⟨hv, h0⟩ | ⟨g, cap, cur, hv, hB, hh, hc, hm, hsz, ht⟩
  · simp only [Value.slice.injEq] at hv
    obtain ⟨rfl, rfl, rfl⟩ := hv
    exact ⟨by omega, by omega, fun _ => rfl, fun h => by omega⟩
  · simp only [Value.slice.injEq] at hv
    obtain ⟨rfl, hnl, rfl⟩ := hv
    subst hnl
    refine ⟨hc, hn, (fun h => by cases h), fun _ => ⟨g, 0, rfl, fun i hi j u hu => ?_⟩⟩
    have hr : L.getD i [] ∈ L := by rw [List.getD_eq_getElem?_getD, List.getElem?_eq_getElem hi]; simp
    have hj : j < k := by
      have h1 := (List.getElem?_eq_some_iff.1 hu).1
      rwa [h.len _ hr] at h1
    have hlt : i * k + j < L.length * k := by
      have h1 : (i + 1) * k ≤ L.length * k := Nat.mul_le_mul_right _ hi
      rw [Nat.add_mul, Nat.one_mul] at h1
      omega
    rw [Nat.zero_add, World.ownsRow.cellAt h.row (i * k + j) hlt, flatR_get k L h.len i j hi hj]
    exact hu
/-- 'append(out, r)', r a row in a block of its own. -/
theorem append_row {w0 : World} {ops : Array Oper} {rest : List Oper} {o : Oper} {a : Act} {Q : Exit → Act → World → Prop} (hgd : o.guard = none) (s x : Operand) (t E : TypeId) (k bytes : Nat) (z : Value)
    (ho : o.op = .call { callee := .builtin .append, args := #[s, x], argTypes := #[t, t] }) (ht : Tryz.prog.underlying t = some (.slice E)) (hinfo : (Tryz.prog.info? E).map (fun i => (i.zero, i.size, i.bytes)) = some (some z, k, bytes)) (hz : z.cells.size = k) (hk : 0 < k)
    (B : Nat) (v : Value) (L : List (List Value)) (hs : a.eval s = v) (hown : OwnR w0 E k B v L) (r : Array Value) (hr : r.size = k) (h1 : ∀ u ∈ r.toList, u.oneCell' = true)
    (hx : a.eval x = .slice (some ⟨w0.heap.size, 0, none⟩) 1 1) (hn : L.length + 1 ≤ maxLen) (hby : (L.length + 1) * bytes ≤ 140737488355328) (hB : B ≤ w0.heap.size)
    (h : ∀ v' w', OwnR w' E k B v' (L ++ [r.toList]) → (w0.alloc (.cells r E)).grownBy w' v.ownBlock → Below B w0 w' → (v'.ownBlock = v.ownBlock ∨ v'.ownBlock = some (w0.heap.size + 1)) → wpList Tryz.prog ops Q rest (a.put o.dst v') w') :
    wpList Tryz.prog ops Q (o :: rest) a (w0.alloc (.cells r E)) := by
  obtain ⟨i, hi, hz0, hz1, hz2⟩ := info_parts hinfo
  have b0 := below_alloc w0 (.cells r E)
  have hsz : (w0.alloc (.cells r E)).heap.size = w0.heap.size + 1 := by simp
  refine wpList_append_own_at _ hgd s x t ho B E i z k bytes ht hi hz0 hz1 hz2 hz hk v L.length (flatR L) hs (ownsRow_later hown.row b0) ⟨w0.heap.size, 0, none⟩ 1 1 r.toList hx (by simpa using hr) ?_ h1 hn hby (by omega) ?_
  · intro j u hu
    have e1 : (⟨w0.heap.size, 0, none⟩ : Addr).add j = ⟨w0.heap.size, 0 + j, none⟩ := by unfold Addr.add; split <;> simp_all
    rw [e1, Nat.zero_add, World.cell?_alloc_new]
    simpa using hu
  · intro v' w' g1 g2 _ g4
    refine h v' w' ⟨?_, ?_, ?_⟩ g2 ((b0.mono hB).grown g2 (by omega) (fun q hq => (hown.lt hq).1)) (by rw [hsz] at g4; exact g4)
    · rw [flatR_append, List.length_append]; exact g1
    · intro q hq
      rcases List.mem_append.1 hq with hq | hq
      · exact hown.len q hq
      · simp only [List.mem_singleton] at hq; rw [hq]; simpa using hr
    · intro q hq
      rcases List.mem_append.1 hq with hq | hq
      · exact hown.one q hq
      · simp only [List.mem_singleton] at hq; rw [hq]; exact h1
end Go.Proofs.YtadikbmbadldpaaGreatDoor
