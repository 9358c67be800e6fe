/- Messages and reports of the call's own; appending one. -/
import Derived.Test.YtjlgnbjfgeppcaaDoorMsgEq
import Derived.Test.YtjlgnbjfgeppcaaDoorPortOwn
namespace Go.Proofs.YtjlgnbjfgeppcaaDoor
open Go Go.RowKit
set_option linter.unusedVariables false

/-- Rows one behind the other. -/
def flatR (L : List (List Value)) : List Value := L.flatten
theorem flatR_append (L : List (List Value)) (r : List Value) : flatR (L ++ [r]) = flatR L ++ r := by simp [flatR]
theorem flatR_length (k : Nat) (L : List (List Value)) (h : ∀ r ∈ L, r.length = k) : (flatR L).length = L.length * k := by
  induction L with
  | nil => simp [flatR]
  | cons r L ih =>
    have h1 := h r (by simp)
    have h2 := ih (fun x hx => h x (by simp [hx]))
    unfold flatR at h2 ⊢
    rw [List.flatten_cons, List.length_append, h1, h2, List.length_cons, Nat.add_mul]
    omega
theorem flatR_get (k : Nat) : ∀ (L : List (List Value)) (h : ∀ r ∈ L, r.length = k) (i j : Nat) (hi : i < L.length) (hj : j < k), (flatR L)[i * k + j]? = (L.getD i [])[j]?
  | [], _, i, _, hi, _ => by simp at hi
  | r :: L, h, i, j, hi, hj => by
    have h1 := h r (by simp)
    unfold flatR
    rw [List.flatten_cons]
    cases i with
    | zero => rw [Nat.zero_mul, Nat.zero_add, List.getElem?_append_left (by omega)]; rfl
    | succ i =>
      rw [List.getElem?_append_right (by rw [Nat.add_mul]; omega), h1, show (i + 1) * k + j - k = i * k + j by rw [Nat.add_mul]; omega]
      have ih := flatR_get k L (fun x hx => h x (by simp [hx])) i j (by simpa using hi) hj
      unfold flatR at ih
      rw [ih]; rfl
/-- Rows of the call's own: k cells each, of an element type. -/
structure OwnR (w : World) (E : TypeId) (k : Nat) (B : Nat) (v : Value) (L : List (List Value)) : Prop where
  row : w.ownsRow B E k v L.length (flatR L)
  len : ∀ r ∈ L, r.length = k
  one : ∀ r ∈ L, ∀ u ∈ r, u.oneCell' = true
theorem OwnR.nil (w : World) (E : TypeId) (k B : Nat) : OwnR w E k B (.slice none 0 0) [] := ⟨World.ownsRow_nil w B _ _, by simp, by simp⟩
theorem OwnR.later {w w1 : World} {E : TypeId} {k B : Nat} {v : Value} {L : List (List Value)} (h : OwnR w E k B v L) (hb : Below w.heap.size w w1) : OwnR w1 E k B v L := ⟨ownsRow_later h.row hb, h.len, h.one⟩
theorem OwnR.mono {w : World} {E : TypeId} {k B B' : Nat} {v : Value} {L : List (List Value)} (h : OwnR w E k B v L) (hB : B' ≤ B) : OwnR w E k B' v L := by
  refine ⟨⟨h.row.1, ?_⟩, h.len, h.one⟩
  rcases h.row.2 with h' | ⟨g, cap, cur, hv, hg, r⟩
  · exact .inl h'
  · exact .inr ⟨g, cap, cur, hv, by omega, r⟩
theorem OwnR.shape {w : World} {E : TypeId} {k B : Nat} {v : Value} {L : List (List Value)} (h : OwnR w E k B v L) : ∃ a c m, Kp (m = L.length) ∧ v = .slice a m c := by
  rcases h.row.2 with ⟨hv, h0⟩ | ⟨g, cap, cur, hv, _⟩
  · exact ⟨none, 0, 0, ⟨h0.symm⟩, hv⟩
  · exact ⟨_, _, _, ⟨rfl⟩, hv⟩
theorem OwnR.lt {w : World} {E : TypeId} {k B : Nat} {v : Value} {L : List (List Value)} (h : OwnR w E k B v L) {b : Nat} (hb : v.ownBlock = some b) : B ≤ b ∧ b < w.heap.size := by
  rcases h.row.2 with ⟨hv, _⟩ | ⟨g, cap, cur, hv, hB, hh, _⟩
  · rw [hv] at hb; simp [Value.ownBlock] at hb
  · rw [hv] at hb
    simp [Value.ownBlock] at hb
    subst hb
    exact ⟨hB, (Array.getElem?_eq_some_iff.1 hh).1⟩
/-- They can be read. -/
theorem OwnR.rd {w : World} {E : TypeId} {k B : Nat} {a : Option Addr} {n c : Nat} {L : List (List Value)} (h : OwnR w E k B (.slice a n c) L) (hn : n ≤ 5864062014805) : RdRows w k a n c (fun i => L.getD i []) := by
  rcases h.row.2 with ⟨hv, h0⟩ | ⟨g, cap, cur, hv, hB, hh, hc, hm, hsz, ht⟩
  · simp only [Value.slice.injEq] at hv
    obtain ⟨rfl, rfl, rfl⟩ := hv
    exact ⟨by omega, by omega, fun _ => rfl, fun h => by omega⟩
  · simp only [Value.slice.injEq] at hv
    obtain ⟨rfl, hnl, rfl⟩ := hv
    subst hnl
    refine ⟨hc, hn, (fun h => by cases h), fun _ => ⟨g, 0, rfl, fun i hi j u hu => ?_⟩⟩
    have hr : L.getD i [] ∈ L := by rw [List.getD_eq_getElem?_getD, List.getElem?_eq_getElem hi]; simp
    have hj : j < k := by
      have h1 := (List.getElem?_eq_some_iff.1 hu).1
      rwa [h.len _ hr] at h1
    have hlt : i * k + j < L.length * k := by
      have h1 : (i + 1) * k ≤ L.length * k := Nat.mul_le_mul_right _ hi
      rw [Nat.add_mul, Nat.one_mul] at h1
      omega
    rw [Nat.zero_add, World.ownsRow.cellAt h.row (i * k + j) hlt, flatR_get k L h.len i j hi hj]
    exact hu
/-- 'append(out, r)', r a row in a block of its own. -/
theorem append_row {w0 : World} {ops : Array Oper} {rest : List Oper} {o : Oper} {a : Act} {Q : Exit → Act → World → Prop} (hgd : o.guard = none) (s x : Operand) (t E : TypeId) (k bytes : Nat) (z : Value)
    (ho : o.op = .call { callee := .builtin .append, args := #[s, x], argTypes := #[t, t] }) (ht : Tryd.prog.underlying t = some (.slice E)) (hinfo : (Tryd.prog.info? E).map (fun i => (i.zero, i.size, i.bytes)) = some (some z, k, bytes)) (hz : z.cells.size = k) (hk : 0 < k)
    (B : Nat) (v : Value) (L : List (List Value)) (hs : a.eval s = v) (hown : OwnR w0 E k B v L) (r : Array Value) (hr : r.size = k) (h1 : ∀ u ∈ r.toList, u.oneCell' = true)
    (hx : a.eval x = .slice (some ⟨w0.heap.size, 0, none⟩) 1 1) (hn : L.length + 1 ≤ maxLen) (hby : (L.length + 1) * bytes ≤ 140737488355328) (hB : B ≤ w0.heap.size)
    (h : ∀ v' w', OwnR w' E k B v' (L ++ [r.toList]) → (w0.alloc (.cells r E)).grownBy w' v.ownBlock → Below B w0 w' → (v'.ownBlock = v.ownBlock ∨ v'.ownBlock = some (w0.heap.size + 1)) → wpList Tryd.prog ops Q rest (a.put o.dst v') w') :
    wpList Tryd.prog ops Q (o :: rest) a (w0.alloc (.cells r E)) := by
  obtain ⟨i, hi, hz0, hz1, hz2⟩ := info_parts hinfo
  have b0 := below_alloc w0 (.cells r E)
  have hsz : (w0.alloc (.cells r E)).heap.size = w0.heap.size + 1 := by simp
  refine wpList_append_own_at _ hgd s x t ho B E i z k bytes ht hi hz0 hz1 hz2 hz hk v L.length (flatR L) hs (ownsRow_later hown.row b0) ⟨w0.heap.size, 0, none⟩ 1 1 r.toList hx (by simpa using hr) ?_ h1 hn hby (by omega) ?_
  · intro j u hu
    have e1 : (⟨w0.heap.size, 0, none⟩ : Addr).add j = ⟨w0.heap.size, 0 + j, none⟩ := by unfold Addr.add; split <;> simp_all
    rw [e1, Nat.zero_add, World.cell?_alloc_new]
    simpa using hu
  · intro v' w' g1 g2 _ g4
    refine h v' w' ⟨?_, ?_, ?_⟩ g2 ((b0.mono hB).grown g2 (by omega) (fun q hq => (hown.lt hq).1)) (by rw [hsz] at g4; exact g4)
    · rw [flatR_append, List.length_append]; exact g1
    · intro q hq
      rcases List.mem_append.1 hq with hq | hq
      · exact hown.len q hq
      · simp only [List.mem_singleton] at hq; rw [hq]; simpa using hr
    · intro q hq
      rcases List.mem_append.1 hq with hq | hq
      · exact hown.one q hq
      · simp only [List.mem_singleton] at hq; rw [hq]; exact h1
theorem infoMsg : (Tryd.prog.info? 101).map (fun i => (i.zero, i.size, i.bytes)) = some (some (.agg #[.int .i64 0, .string noS]), 2, 24) := by kernel_rfl
theorem infoRep : (Tryd.prog.info? 116).map (fun i => (i.zero, i.size, i.bytes)) = some (some (.agg #[.int .i64 0, .int .i64 0, .int .u32 0, .int .u32 0]), 4, 24) := by kernel_rfl
end Go.Proofs.YtjlgnbjfgeppcaaDoor
