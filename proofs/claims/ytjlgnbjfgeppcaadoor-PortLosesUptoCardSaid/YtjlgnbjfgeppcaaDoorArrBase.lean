/- Ports made one after the other; ports and reports of Arrive, ports and messages of Emit: what the loops keep. -/
import Derived.Test.YtjlgnbjfgeppcaaDoorFramesPure
import Derived.Test.YtjlgnbjfgeppcaaDoorPortPut
import Derived.Test.YtjlgnbjfgeppcaaDoorPortGet
namespace Go.Proofs.YtjlgnbjfgeppcaaDoor
open Go Go.RowKit
set_option linter.unusedVariables false

theorem good_sm {p : PortP} {l : List ByteArray} {g : Int} (h : portC p l g = 0) : l.length ≤ 8 ∧ ∀ s ∈ l, s.size ≤ 32 := by
  have hf := fitsP_parts (portC_zero h).2
  have hp := planC_zero (portC_zero h).1
  have h2 := hp.2.2.2.2.2.1
  have h3 := depthM_le p.kind
  refine ⟨by omega, fun s hs => ?_⟩
  have h4 := hf.2.2.2.2
  unfold allLe at h4
  have h5 := of_decide_eq_true (List.all_eq_true.1 h4 s hs)
  have h6 := hp.2.2.2.1
  omega
theorem addC_le2 (p : PortP) (l : List ByteArray) (g : Int) (D : ByteArray) (b : Bool) : addC p l g D b ≤ 20 := by
  have h := portC_or p l g
  unfold addC
  cases decide (portC p l g = 0) <;> cases b <;> cases decide (p.size < (D.size : Int)) <;> cases decide (p.kind ≤ 2) <;> cases decide ((l.length : Int) = p.depth) <;> simp <;> omega
theorem good_rd {p : PortP} {l : List ByteArray} {g : Int} (h : portC p l g = 0) : l.length ≤ 8796093022208 ∧ ∀ s ∈ l, s.size < 9223372036854775808 := by
  have h1 := good_sm h
  exact ⟨by omega, fun s hs => by have := h1.2 s hs; omega⟩
/-- So many ports of the call's own, of these lists and ages. -/
def PosL (w : World) (S : Nat → PortS) (ov : Value) (i : Nat) (wr : World) : Prop :=
  ∃ U, OwnPo wr w.heap.size ov i U ∧ (∀ j, j < i → (U j).l = (S j).l ∧ (U j).g = (S j).g) ∧ Below w.heap.size w wr
theorem pupd_ne (U : Nat → PortV) (n : Nat) (q : PortV) {i : Nat} (h : i ≠ n) : pupd U n q i = U i := by unfold pupd; rw [if_neg h]
theorem posL_snoc {w w' : World} {S : Nat → PortS} {v : Value} {i : Nat} {U : Nat → PortV} (q : PortV) (hU : ∀ j, j < i → (U j).l = (S j).l ∧ (U j).g = (S j).g) (ho : OwnPo w' w.heap.size v (i + 1) (pupd U i q)) (hl : q.l = (S i).l) (hg : q.g = (S i).g) (hb : Below w.heap.size w w') : PosL w S v (i + 1) w' :=
  ⟨_, ho, fun j hj => by
    rcases Nat.lt_or_ge j i with h | h
    · rw [pupd_lt _ _ _ h]; exact hU j h
    · have : j = i := by omega
      subst this
      rw [pupd_at]
      exact ⟨hl, hg⟩, hb⟩
theorem portsL_set (U : Nat → PortV) (n k : Nat) (hk : k < n) (q : PortV) :
    ((portsL U n).set (k * 2) (.slice q.a q.m q.c)).set (k * 2 + 1) (.int .i64 q.g) = portsL (pupd U k q) n := by
  induction n with
  | zero => omega
  | succ n ih =>
    rw [portsL, portsL]
    by_cases e : k = n
    · subst e
      rw [portsL_congr (U := pupd U k q) (U' := U) k (fun i hi => pupd_ne U k q (by omega)), pupd_at]
      rw [List.set_append_right _ _ (by rw [portsL_length]; omega), List.set_append_right _ _ (by rw [portsL_length]; omega), portsL_length, Nat.sub_self, Nat.add_sub_cancel_left]
      rfl
    · rw [List.set_append_left _ _ (by rw [portsL_length]; omega), List.set_append_left _ _ (by rw [List.length_set, portsL_length]; omega), ih (by omega), pupd_ne U k q (by omega)]
/-- A port in a row of the call's own: its cells. -/
theorem OwnPo.cells {w : World} {B g n cap : Nat} {U : Nat → PortV} (h : OwnPo w B (.slice (some ⟨g, 0, none⟩) n cap) n U) (k : Nat) (hk : k < n) :
    w.cell? ⟨g, k * 2, none⟩ = some (.slice (U k).a (U k).m (U k).c) ∧ w.cell? ⟨g, k * 2 + 1, none⟩ = some (.int .i64 (U k).g) := by
  refine ⟨?_, ?_⟩
  · rw [World.ownsRow.cellAt h.row (k * 2) (by omega), show k * 2 = k * 2 + 0 from rfl, portsL_get U n k 0 hk (by decide)]; rfl
  · rw [World.ownsRow.cellAt h.row (k * 2 + 1) (by omega), portsL_get U n k 1 hk (by decide)]; rfl
theorem OwnPo.free {w : World} {B g n cap : Nat} {U : Nat → PortV} (h : OwnPo w B (.slice (some ⟨g, 0, none⟩) n cap) n U) (j : Nat) : w.frozen? ⟨g, j, none⟩ = false := World.ownsRow.frozenAt h.row j
theorem OwnPo.block {w : World} {B : Nat} {v : Value} {n : Nat} {U : Nat → PortV} (h : OwnPo w B v n U) (hn : 0 < n) : ∃ g cap, v = .slice (some ⟨g, 0, none⟩) n cap ∧ g < w.heap.size ∧ n ≤ cap ∧ cap ≤ maxLen := by
  rcases h.row.2 with ⟨_, h0⟩ | ⟨g, cap, cur, hv, _, hh, hc, hm, _⟩
  · omega
  · exact ⟨g, cap, hv, (Array.getElem?_eq_some_iff.1 hh).1, hc, hm⟩
theorem OwnR.keep {w w1 : World} {E : TypeId} {k B : Nat} {v : Value} {L : List (List Value)} (h : OwnR w E k B v L) (hk : ∀ g, g < w.heap.size → v.ownBlock = some g → w1.heap[g]? = w.heap[g]?) : OwnR w1 E k B v L := by
  refine ⟨⟨h.row.1, ?_⟩, h.len, h.one⟩
  rcases h.row.2 with h' | ⟨g, cap, cur, hv, hB, hh, r⟩
  · exact .inl h'
  · exact .inr ⟨g, cap, cur, hv, hB, (hk g (Array.getElem?_eq_some_iff.1 hh).1 (by rw [hv]; rfl)).trans hh, r⟩
/-- The ports of a row, and rows of another type beside them (reports, messages). -/
structure ArrI (w wr : World) (E : TypeId) (k : Nat) (S : Nat → PortS) (n : Nat) (v : Value) (L : List (List Value)) (dv : Value) (U : Nat → PortV) : Prop where
  po : OwnPo wr w.heap.size v n U
  is : ∀ j, j < n → (U j).l = (S j).l ∧ (U j).g = (S j).g
  dr : OwnR wr E k w.heap.size dv L
  fv : ∀ b, dv.ownBlock = some b → v.ownBlock ≠ some b
  fu : ∀ b, dv.ownBlock = some b → ∀ j, j < n → (Value.slice (U j).a (U j).m (U j).c).ownBlock ≠ some b
  below : Below w.heap.size w wr
section
variable {w w1 wr w' : World} {E : TypeId} {c : Nat} {S : Nat → PortS} {n : Nat} {v : Value} {L : List (List Value)} {dv : Value} {U : Nat → PortV}
theorem ArrI.later (h : ArrI w w1 E c S n v L dv U) (hb : Below w1.heap.size w1 wr) : ArrI w wr E c S n v L dv U :=
  ⟨h.po.later hb, h.is, h.dr.later hb, h.fv, h.fu, h.below.trans (hb.mono h.below.size)⟩
theorem ArrI.first (h : OwnPo w1 w.heap.size v n U) (hi : ∀ j, j < n → (U j).l = (S j).l ∧ (U j).g = (S j).g) (hb : Below w.heap.size w w1) : ArrI w w1 E c S n v [] (.slice none 0 0) U :=
  ⟨h, hi, OwnR.nil _ _ _ _, fun b hb => by simp [Value.ownBlock] at hb, fun b hb => by simp [Value.ownBlock] at hb, hb⟩
/-- One more row. -/
theorem ArrI.more {o : Obj} {dv' : Value} {L' : List (List Value)} (h : ArrI w w1 E c S n v L dv U) (hr : OwnR w' E c w.heap.size dv' L') (hg : (w1.alloc o).grownBy w' dv.ownBlock) (hb : Below w.heap.size w1 w') (h4 : dv'.ownBlock = dv.ownBlock ∨ dv'.ownBlock = some (w1.heap.size + 1)) : ArrI w w' E c S n v L' dv' U := by
  have keep : ∀ g, g < w1.heap.size → dv.ownBlock ≠ some g → w'.heap[g]? = w1.heap[g]? := fun g hl hne =>
    (hg.block g (by simp; omega) (fun e => hne e.symm)).trans ((below_alloc w1 o).block g hl)
  refine ⟨h.po.keep fun g hl ho => keep g hl fun e => ?_, h.is, hr, fun b hb e => ?_, fun b hb j hj e => ?_, h.below.trans hb⟩
  · rcases ho with ho | ⟨i, hi, ho⟩
    · exact h.fv g e ho
    · exact h.fu g e i hi ho
  · rcases h4 with h4 | h4
    · exact h.fv b (by rw [← h4]; exact hb) e
    · rw [h4] at hb; have := (h.po.lt e).2; simp at hb; omega
  · rcases h4 with h4 | h4
    · exact h.fu b (by rw [← h4]; exact hb) j hj e
    · rw [h4] at hb; have := (ownS_in (h.po.each j hj) e).2; simp at hb; omega
/-- One more port. -/
theorem ArrI.port {o : Obj} {v' : Value} (q : PortV) (h : ArrI w w1 E c S n v L dv U) (hp : OwnPo w' w.heap.size v' (n + 1) (pupd U n q)) (hl : q.l = (S n).l) (hgq : q.g = (S n).g) (hg : (w1.alloc o).grownBy w' v.ownBlock) (hb : Below w.heap.size w1 w') (h4 : v'.ownBlock = v.ownBlock ∨ v'.ownBlock = some (w1.heap.size + 1)) (hq : ∀ b, dv.ownBlock = some b → (Value.slice q.a q.m q.c).ownBlock ≠ some b) : ArrI w w' E c S (n + 1) v' L dv (pupd U n q) := by
  have keep : ∀ g, g < w1.heap.size → v.ownBlock ≠ some g → w'.heap[g]? = w1.heap[g]? := fun g hl hne =>
    (hg.block g (by simp; omega) (fun e => hne e.symm)).trans ((below_alloc w1 o).block g hl)
  refine ⟨hp, fun j hj => ?_, h.dr.keep fun g hl ho => keep g hl (h.fv g ho), fun b hb e => ?_, fun b hb j hj e => ?_, h.below.trans hb⟩
  · rcases Nat.lt_or_ge j n with e | e
    · rw [pupd_lt _ _ _ e]; exact h.is j e
    · have : j = n := by omega
      subst this
      rw [pupd_at]
      exact ⟨hl, hgq⟩
  · rcases h4 with h4 | h4
    · exact h.fv b hb (by rw [← h4]; exact e)
    · rw [h4] at e; have := (h.dr.lt hb).2; simp at e; omega
  · rcases Nat.lt_or_ge j n with e2 | e2
    · rw [pupd_lt _ _ _ e2] at e; exact h.fu b hb j e2 e
    · have : j = n := by omega
      subst this
      rw [pupd_at] at e
      exact hq b hb e
/-- A port is set. -/
theorem ArrI.set {g cap k : Nat} (h : ArrI w w1 E c S n (.slice (some ⟨g, 0, none⟩) n cap) L dv U) (hk : k < n) (hb : Below w1.heap.size w1 wr) (q : PortV) (hq : OwnS wr w1.heap.size (.slice q.a q.m q.c) q.l) :
    ArrI w ((wr.setCell ⟨g, k * 2, none⟩ (.slice q.a q.m q.c)).setCell ⟨g, k * 2 + 1, none⟩ (.int .i64 q.g)) E c (fun i => bif decide (i = k) then ⟨q.l, q.g⟩ else S i) n (.slice (some ⟨g, 0, none⟩) n cap) L dv (pupd U k q) := by
  have hr := h.later hb
  have hgb : w.heap.size ≤ g := (hr.po.lt rfl).1
  have hglt : g < w1.heap.size := (h.po.lt rfl).2
  have oth : ∀ b, b ≠ g → ((wr.setCell ⟨g, k * 2, none⟩ (.slice q.a q.m q.c)).setCell ⟨g, k * 2 + 1, none⟩ (.int .i64 q.g)).heap[b]? = wr.heap[b]? := fun b hne =>
    (heap_setCell_other _ ⟨g, k * 2 + 1, none⟩ b _ hne).trans (heap_setCell_other _ ⟨g, k * 2, none⟩ b _ hne)
  have row := (World.ownsRow.stored (World.ownsRow.stored hr.po.row (k * 2) (.slice q.a q.m q.c)).1 (k * 2 + 1) (.int .i64 q.g)).1
  rw [portsL_set U n k hk q] at row
  refine ⟨⟨row, fun i hi => ?_, fun i hi b hbb e => ?_⟩, fun j hj => ?_, hr.dr.keep fun b _ ho => oth b fun e => hr.fv b ho (by rw [e]; rfl), hr.fv, fun b hbb j hj e => ?_, (hr.below.setCell (p := ⟨g, k * 2, none⟩) hgb _).setCell (p := ⟨g, k * 2 + 1, none⟩) hgb _⟩
  · by_cases e : i = k
    · subst e
      rw [pupd_at]
      exact (hq.heap fun b hbb => oth b (by have := (ownS_in hq hbb).1; omega)).mono h.below.size
    · rw [pupd_ne _ _ _ e]
      exact (hr.po.each i hi).heap fun b hbb => oth b fun e2 => hr.po.far i hi b (by rw [e2]; rfl) hbb
  · simp only [Value.ownBlock, Option.some.injEq] at hbb
    by_cases e2 : i = k
    · subst e2
      rw [pupd_at] at e
      have := (ownS_in hq e).1; omega
    · rw [pupd_ne _ _ _ e2] at e
      exact hr.po.far i hi b (by rw [← hbb]; rfl) e
  · by_cases e : j = k
    · subst e
      rw [pupd_at, decide_eq_true rfl]
      exact ⟨rfl, rfl⟩
    · rw [pupd_ne _ _ _ e, decide_eq_false e]
      exact h.is j hj
  · by_cases e2 : j = k
    · subst e2
      rw [pupd_at] at e
      have h1 := (ownS_in hq e).1
      have h2 := (h.dr.lt hbb).2
      omega
    · rw [pupd_ne _ _ _ e2] at e
      exact h.fu b hbb j hj e
end
end Go.Proofs.YtjlgnbjfgeppcaaDoor
