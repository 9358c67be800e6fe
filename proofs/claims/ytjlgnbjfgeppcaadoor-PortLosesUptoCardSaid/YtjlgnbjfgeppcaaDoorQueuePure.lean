/- Ports that keep their form: plain; what stands between two steps of PortQueues. -/
import Derived.Test.YtjlgnbjfgeppcaaDoorLineOwn
import Derived.Test.YtjlgnbjfgeppcaaDoorCaseBase
namespace Go.Proofs.YtjlgnbjfgeppcaaDoor
open Go Go.RowKit
set_option linter.unusedVariables false

theorem fitsP_mk {p : PortP} {l : List ByteArray} {g : Int} (h1 : (l.length : Int) ≤ p.depth) (h2 : 0 ≤ g) (h3 : g ≤ 255) (h4 : g = 0 ∨ (p.kind = 1 ∧ 0 < l.length)) (h5 : allLe p.size l = true) : fitsP p l g = true := by
  rw [fitsP_else (by omega) (by omega) (by omega) (by rcases h4 with h | ⟨h, h'⟩; exact .inl h; exact .inr ⟨h, by omega⟩)]
  exact h5
theorem allLe_append {m : Int} {l k : List ByteArray} (h1 : allLe m l = true) (h2 : allLe m k = true) : allLe m (l ++ k) = true := by
  unfold allLe at *; rw [List.all_append, h1, h2]; rfl
theorem allLe_one {m : Int} {D : ByteArray} (h : (D.size : Int) ≤ m) : allLe m [D] = true := by
  unfold allLe; simp [h]
theorem allLe_drop {m : Int} {l : List ByteArray} (h : allLe m l = true) (k : Nat) : allLe m (l.drop k) = true := by
  unfold allLe at *
  rw [List.all_eq_true] at h ⊢
  exact fun x hx => h x (List.mem_of_mem_drop hx)
theorem addC_zero' {p : PortP} {l : List ByteArray} {g : Int} {D : ByteArray} {b : Bool} (h : addC p l g D b = 0) : portC p l g = 0 := by
  by_cases hc : portC p l g = 0
  · exact hc
  · rw [addC_bad hc] at h; exact absurd h hc
theorem add_good {p : PortP} {l : List ByteArray} {g : Int} {D : ByteArray} (h : addC p l g D true = 0) : portC p (addL p l g D true) 0 = 0 := by
  have hc := addC_zero' h
  have hp := (portC_zero hc).1
  obtain ⟨f1, f2, f3, f4, f5⟩ := fitsP_parts (portC_zero hc).2
  have hpl := planC_zero hp
  have hs : ¬ p.size < (D.size : Int) := fun hs => by rw [addC_size hc hs] at h; omega
  by_cases hk : p.kind ≤ 2
  · rw [addL_one h hk]
    exact portC_fit hp (fitsP_mk (by have := hpl.2.2.2.2.1; simp; omega) (by omega) (by omega) (.inl rfl) (allLe_one (by omega)))
  · have hd : ¬ (l.length : Int) = p.depth := fun hd => by rw [addC_full hc hs hk hd] at h; omega
    rw [addL_more h hk]
    exact portC_fit hp (fitsP_mk (by rw [List.length_append]; simp; omega) (by omega) (by omega) (.inl rfl) (allLe_append f5 (allLe_one (by omega))))
theorem getC_zero {p : PortP} {l : List ByteArray} {g : Int} (h : getC p l g = 0) : portC p l g = 0 := by
  by_cases hc : portC p l g = 0
  · exact hc
  · rw [getC_bad hc] at h; exact absurd h hc
theorem get_good {p : PortP} {l : List ByteArray} {g : Int} (h : getC p l g = 0) : portC p (getL p l g) (getG p l g) = 0 := by
  have hc := getC_zero h
  by_cases hk : p.kind = 1
  · obtain ⟨e1, e2, _, _⟩ := get_one h hk
    rw [e1, e2]; exact hc
  · obtain ⟨e1, e2, _, _⟩ := get_queue h hk
    rw [e1, e2]
    obtain ⟨f1, f2, f3, f4, f5⟩ := fitsP_parts (portC_zero hc).2
    exact portC_fit (portC_zero hc).1 (fitsP_mk (by simp; omega) (by omega) (by omega) (.inl rfl) (allLe_drop f5 1))
theorem age_good {p : PortP} {l : List ByteArray} {g : Int} (hc : portC p l g = 0) : portC p (ageL p l g) (ageG p l g) = 0 := by
  have e1 : ageG p l g = ageUp p l.length g := by unfold ageG; rw [decide_eq_true hc]; rfl
  have e2 : ageL p l g = l := by unfold ageL; rw [decide_eq_true hc]; rfl
  rw [e1, e2]
  obtain ⟨f1, f2, f3, f4, f5⟩ := fitsP_parts (portC_zero hc).2
  unfold ageUp
  by_cases hk : p.kind = 1 ∧ 0 < l.length
  · rw [decide_eq_true hk.1, decide_eq_true hk.2]
    by_cases hg : 254 < g
    · rw [decide_eq_true hg]
      exact portC_fit (portC_zero hc).1 (fitsP_mk f1 (show (0 : Int) ≤ 255 by decide) (show (255 : Int) ≤ 255 by decide) (.inr hk) f5)
    · rw [decide_eq_false hg]
      exact portC_fit (portC_zero hc).1 (fitsP_mk f1 (show 0 ≤ g + 1 by omega) (show g + 1 ≤ 255 by omega) (.inr hk) f5)
  · have e3 : (decide (p.kind = 1) && decide (0 < l.length)) = false := by
      by_cases h1 : p.kind = 1
      · rw [decide_eq_false (p := 0 < l.length) (fun h => hk ⟨h1, h⟩), Bool.and_false]
      · rw [decide_eq_false h1, Bool.false_and]
    rw [e3]
    exact hc
theorem good_small {p : PortP} {l : List ByteArray} {g : Int} (hc : portC p l g = 0) : l.length ≤ 8 ∧ (∀ s ∈ l, s.size < 9223372036854775808) := by
  obtain ⟨f1, _, _, _, f5⟩ := fitsP_parts (portC_zero hc).2
  have hpl := planC_zero (portC_zero hc).1
  have h3 := depthM_le p.kind
  refine ⟨by omega, fun s hs => ?_⟩
  unfold allLe at f5
  have := of_decide_eq_true (List.all_eq_true.1 f5 s hs)
  omega
/-- The age that the law counts and the port's own. -/
def AgeOk (p : PortP) (l : List ByteArray) (g ag : Int) : Prop := p.kind = 1 → l ≠ [] → g = (if ag < 255 then ag else 255)
theorem age_step {p : PortP} {l : List ByteArray} {g ag : Int} (hc : portC p l g = 0) (h : AgeOk p l g ag) (h0 : 0 ≤ ag) : AgeOk p (ageL p l g) (ageG p l g) (ag + 1) := by
  have e1 : ageG p l g = ageUp p l.length g := by unfold ageG; rw [decide_eq_true hc]; rfl
  have e2 : ageL p l g = l := by unfold ageL; rw [decide_eq_true hc]; rfl
  rw [e1, e2]
  intro hk hl
  have h1 := h hk hl
  have h2 : 0 < l.length := List.length_pos_iff.2 hl
  unfold ageUp
  rw [decide_eq_true hk, decide_eq_true h2]
  by_cases hg : 254 < g
  · rw [decide_eq_true hg]
    split at h1
    · rw [if_neg (by omega)]; rfl
    · rw [if_neg (by omega)]; rfl
  · rw [decide_eq_false hg]
    split at h1
    · show g + 1 = _
      split <;> omega
    · omega
theorem fresh_same {p : PortP} {l : List ByteArray} {g ag : Int} (hc : portC p l g = 0) (hk : p.kind = 1) (hl : l ≠ []) (h : AgeOk p l g ag) : decide (ag < p.refresh) = decide (g < p.refresh) := by
  have h1 := h hk hl
  have h2 := (planC_zero (portC_zero hc).1).2.2.2.2.2.2.2
  rw [show refrM p.kind = 255 by rw [hk]; rfl] at h2
  rw [decide_eq_decide]
  split at h1 <;> omega
/-- A step of the script. -/
structure StepV where
  kind : Int
  s : ByteArray
def StepV.row (x : StepV) : List Value := [.int .i64 x.kind, .string x.s]
structure RdT (w : World) (a : Option Addr) (n cap : Nat) (C : Nat → StepV) : Prop where
  fitsCap : n ≤ cap
  bound : n ≤ 5864062014805
  fits : ∀ i, i < n → (C i).s.size < 9223372036854775808
  cells : 0 < n → ∃ b off, a = some ⟨b, off, none⟩ ∧ ∀ i, i < n → w.rangeAt b (off + i * 2) (C i).row
theorem RdT.later {w w1 : World} {a : Option Addr} {n cap : Nat} {C : Nat → StepV} (h : RdT w a n cap C) (hb : Below w.heap.size w w1) : RdT w1 a n cap C :=
  ⟨h.fitsCap, h.bound, h.fits, fun hn => by
    obtain ⟨b, off, e, hc⟩ := h.cells hn
    exact ⟨b, off, e, fun i hi => srange_later (hc i hi) hb⟩⟩
/-- What stands between two steps. -/
structure QI (w wr : World) (p : PortP) (qb : Nat) (la : Option Addr) (lm lc : Nat) (ag : Int) (i : Nat) (L : List ByteArray) (g : Int) (qa : Option Addr) (qm qc : Nat) : Prop where
  below : Below w.heap.size w wr
  plan : PlanAt wr w.heap.size p
  q : Blk wr qb #[.slice qa qm qc, .int .i64 g] 29
  own : OwnS wr (w.heap.size + 1) (.slice qa qm qc) L
  line : OwnO wr (w.heap.size + 1) (.slice la lm lc) L
  apart : ∀ b, (Value.slice la lm lc).ownBlock = some b → (Value.slice qa qm qc).ownBlock ≠ some b
  lfar : (Value.slice la lm lc).ownBlock ≠ some qb
  qfar : (Value.slice qa qm qc).ownBlock ≠ some qb
  qlt : w.heap.size < qb
  good : portC p L g = 0
  age0 : 0 ≤ ag
  agei : ag ≤ (i : Int)
  ages : AgeOk p L g ag
section
variable {w wr wr' : World} {p : PortP} {qb : Nat} {la : Option Addr} {lm lc : Nat} {ag : Int} {i : Nat} {L : List ByteArray} {g : Int} {qa : Option Addr} {qm qc : Nat}
theorem QI.later (h : QI w wr p qb la lm lc ag i L g qa qm qc) (hb : Below wr.heap.size wr wr') : QI w wr' p qb la lm lc ag i L g qa qm qc :=
  ⟨h.below.trans (hb.mono h.below.size), h.plan.later hb, h.q.later hb, h.own.later hb, h.line.later hb, h.apart, h.lfar, h.qfar, h.qlt, h.good, h.age0, h.agei, h.ages⟩
theorem QI.next (h : QI w wr p qb la lm lc ag i L g qa qm qc) : QI w wr p qb la lm lc ag (i + 1) L g qa qm qc :=
  ⟨h.below, h.plan, h.q, h.own, h.line, h.apart, h.lfar, h.qfar, h.qlt, h.good, h.age0, by have := h.agei; omega, h.ages⟩
theorem lenS {w : World} {B : Nat} {a : Option Addr} {n c : Nat} {l : List ByteArray} (h : OwnS w B (.slice a n c) l) : n = l.length := by
  obtain ⟨a', c', e⟩ := h.shape
  simp only [Value.slice.injEq] at e
  exact e.2.1
theorem lenO {w : World} {B : Nat} {a : Option Addr} {n c : Nat} {l : List ByteArray} (h : OwnO w B (.slice a n c) l) : n = l.length := by
  obtain ⟨a', c', m, hm, e⟩ := h.shape
  simp only [Value.slice.injEq] at e
  rw [e.2.1]; exact hm.out
theorem QI.lens (h : QI w wr p qb la lm lc ag i L g qa qm qc) : ((qm : Int) != (lm : Int)) = false ∧ lm = L.length ∧ qm = L.length := by
  have h1 := lenS h.own
  have h2 := lenO h.line
  exact ⟨by rw [h1, h2]; simp, h2, h1⟩
theorem QI.rd (h : QI w wr p qb la lm lc ag i L g qa qm qc) : RdS wr qa qm qc L := h.own.rdn (by have := (good_small h.good).1; omega) (good_small h.good).2
theorem QI.rdl (h : QI w wr p qb la lm lc ag i L g qa qm qc) : RdS wr la lm lc L := h.line.rd (by have := (good_small h.good).1; omega) (good_small h.good).2
theorem PlanAt.heap {w w' : World} {b : Nat} {p : PortP} (h : PlanAt w b p) (hk : w'.heap[b]? = w.heap[b]?) : PlanAt w' b p := fun j v hv => by
  rw [World.cell?_of_block (a := ⟨b, 0 + j, none⟩) hk]
  exact h j v hv
/-- The port is stored anew; the line is what it was, or another. -/
theorem QI.store {la' : Option Addr} {lm' lc' : Nat} {ag' : Int} {i' : Nat} {L' : List ByteArray} {g' : Int} {qa' : Option Addr} {qm' qc' : Nat} (hb : Below w.heap.size w wr) (hp : PlanAt wr w.heap.size p) {x : Array Value} (hq : ∃ y0 y1, Blk wr qb #[y0, y1] 29)
    (ho : OwnS wr (w.heap.size + 1) (.slice qa' qm' qc') L') (hqf : (Value.slice qa' qm' qc').ownBlock ≠ some qb) (hl : OwnO wr (w.heap.size + 1) (.slice la' lm' lc') L') (hlf : (Value.slice la' lm' lc').ownBlock ≠ some qb)
    (hap : ∀ b, (Value.slice la' lm' lc').ownBlock = some b → (Value.slice qa' qm' qc').ownBlock ≠ some b) (hqb : w.heap.size < qb) (hg : portC p L' g' = 0) (h0 : 0 ≤ ag') (hi : ag' ≤ (i' : Int)) (hag : AgeOk p L' g' ag') :
    QI w ((wr.setCell ⟨qb, 0, none⟩ (.slice qa' qm' qc')).setCell ⟨qb, 1, none⟩ (.int .i64 g')) p qb la' lm' lc' ag' i' L' g' qa' qm' qc' := by
  obtain ⟨y0, y1, hq⟩ := hq
  exact ⟨below_set2 hb _ _ _ (Nat.le_of_lt hqb), hp.other2 _ _ _ (Nat.ne_of_lt hqb), hq.set2 _ _, ho.far2 _ _ _ hqf, hl.far2 _ _ _ hlf, hap, hlf, hqf, hqb, hg, h0, hi, hag⟩
end
theorem Blk.heap {w w' : World} {b : Nat} {cs : Array Value} {T : TypeId} (h : Blk w b cs T) (hk : w'.heap[b]? = w.heap[b]?) : Blk w' b cs T := hk.trans h
theorem OwnS.heap {w w' : World} {B : Nat} {v : Value} {l : List ByteArray} (h : OwnS w B v l) (hk : ∀ g, v.ownBlock = some g → w'.heap[g]? = w.heap[g]?) : OwnS w' B v l := by
  refine ⟨h.1, ?_⟩
  rcases h.2 with h' | ⟨g, cap, cur, hv, hg, hh, r⟩
  · exact .inl h'
  · exact .inr ⟨g, cap, cur, hv, hg, (hk g (by rw [hv]; rfl)).trans hh, r⟩
theorem ownS_in {w : World} {B : Nat} {v : Value} {l : List ByteArray} (h : OwnS w B v l) {g : Nat} (hg : v.ownBlock = some g) : B ≤ g ∧ g < w.heap.size := by
  refine ⟨ownS_base h hg, ?_⟩
  rcases h.2 with ⟨hv, _⟩ | ⟨g', cap, cur, hv, _, hh, _⟩
  · rw [hv] at hg; simp [Value.ownBlock] at hg
  · rw [hv] at hg
    simp [Value.ownBlock] at hg
    subst hg
    exact (Array.getElem?_eq_some_iff.1 hh).1
theorem plan4 {w : World} {b : Nat} {k s d r : Int} (h : PlanAt w b ⟨k, s, d, r⟩) : w.cell? ⟨b, 0, none⟩ = some (.int .i64 k) ∧ w.cell? ⟨b, 1, none⟩ = some (.int .i64 s) ∧ w.cell? ⟨b, 2, none⟩ = some (.int .i64 d) ∧ w.cell? ⟨b, 3, none⟩ = some (.int .i64 r) := ⟨h.c0, h.c1, h.c2, h.c3⟩
/-- The line has been grown: what stands behind. -/
structure Grew (w w4 w5 : World) (p : PortP) (qb ob nb : Nat) (qs os ns : Array Value) (TO : TypeId) : Prop where
  below : Below w.heap.size w w5
  plan : PlanAt w5 w.heap.size p
  q : Blk w5 qb qs 29
  o : Blk w5 ob os TO
  n : Blk w5 nb ns 29
theorem grew {w w4 W5 w5 : World} {lv : Value} {p : PortP} {qb ob nb : Nat} {qs os ns : Array Value} {TO : TypeId} (hB : Below w.heap.size w w4) (hp : PlanAt w4 w.heap.size p) (hq : Blk w4 qb qs 29) (ho : Blk w4 ob os TO) (hn : Blk w4 nb ns 29) (hW : Below w4.heap.size w4 W5)
    (hg : W5.grownBy w5 lv.ownBlock) (hl : ∀ k, lv.ownBlock = some k → w.heap.size < k ∧ k ≠ qb ∧ k ≠ ob ∧ k ≠ nb) (h1 : w.heap.size < qb) : Grew w w4 w5 p qb ob nb qs os ns TO := by
  have keep : ∀ b, b < w4.heap.size → lv.ownBlock ≠ some b → w5.heap[b]? = w4.heap[b]? := fun b hb hne =>
    (hg.block b (Nat.lt_of_lt_of_le hb hW.size) (fun e => hne e.symm)).trans (hW.block b hb)
  have hbw := hB.trans (hW.mono hB.size)
  refine ⟨hbw.grown hg hbw.size (fun k hk => Nat.le_of_lt (hl k hk).1), hp.heap (keep _ (Nat.lt_trans h1 hq.lt) (fun e => absurd (hl _ e).1 (Nat.lt_irrefl _))), hq.heap (keep _ hq.lt (fun e => (hl _ e).2.1 rfl)), ho.heap (keep _ ho.lt (fun e => (hl _ e).2.2.1 rfl)), hn.heap (keep _ hn.lt (fun e => (hl _ e).2.2.2 rfl))⟩
/-- The port is put, the line grown: in form again. -/
theorem grew_qi {w w4 W5 w5 : World} {lv : Value} {p : PortP} {qb ob nb B1 : Nat} {os ns : Array Value} {TO : TypeId} {y0 y1 : Value} (G : Grew w w4 w5 p qb ob nb #[y0, y1] os ns TO) (hW : Below w4.heap.size w4 W5) (hg : W5.grownBy w5 lv.ownBlock)
    {la5 : Option Addr} {lm5 lc5 : Nat} {L' : List ByteArray} {na : Option Addr} {nm nc i : Nat} (hlo : OwnO w5 (w.heap.size + 1) (.slice la5 lm5 lc5) L') (hor : (Value.slice la5 lm5 lc5).ownBlock = lv.ownBlock ∨ ∀ g, (Value.slice la5 lm5 lc5).ownBlock = some g → W5.heap.size ≤ g)
    (hlv : ∀ k, lv.ownBlock = some k → k < B1 ∧ k ≠ qb) (hqB : qb < B1) (hwB : w.heap.size + 1 ≤ B1) (hq4 : qb < w4.heap.size) (hno : OwnS w4 B1 (.slice na nm nc) L') (h1 : w.heap.size < qb) (hgood : portC p L' 0 = 0) :
    QI w ((w5.setCell ⟨qb, 0, none⟩ (.slice na nm nc)).setCell ⟨qb, 1, none⟩ (.int .i64 0)) p qb la5 lm5 lc5 0 (i + 1) L' 0 na nm nc := by
  have hno5 : OwnS w5 B1 (.slice na nm nc) L' := hno.heap fun g hgo => by
    have hin := ownS_in hno hgo
    exact (hg.block g (Nat.lt_of_lt_of_le hin.2 hW.size) (fun e => by have := (hlv g e.symm).1; omega)).trans (hW.block g hin.2)
  refine QI.store G.below G.plan ⟨_, _, G.q⟩ (hno5.mono hwB) (fun e => by have := (ownS_in hno e).1; omega) hlo (fun e => ?_) (fun b hb e => ?_) h1 hgood (by omega) (by omega) (fun _ _ => by simp) (x := #[])
  · rcases hor with h | h
    · rw [h] at e; exact (hlv _ e).2 rfl
    · have := h _ e; have := hW.size; omega
  · have hin := ownS_in hno e
    rcases hor with h | h
    · rw [h] at hb; have := (hlv _ hb).1; omega
    · have := h _ hb; have := hW.size; omega
end Go.Proofs.YtjlgnbjfgeppcaaDoor
