
/- CoreWalks: merged of Words, CorePath, CoreStep1, WalksPlain, CoreWalksT. -/
import Derived.Test.YtadikbmbadldpaaDoorProg
import Derived.Test.YtadikbmbadldpaaDoorBase
import Derived.Test.YtadikbmbadldpaaDoorDrew
import Derived.Laws.AppendOwnNone
import Derived.Laws.OwnMore
import Derived.Test.YtadikbmbadldpaaDoorCoreRun
import Derived.Test.YtadikbmbadldpaaDoorCoreAwake
import Derived.Test.YtadikbmbadldpaaDoorProcEq
namespace Go.Proofs.YtadikbmbadldpaaDoor
open Go Go.RowKit
set_option linter.unusedVariables false

/-- A slice of words that can be read: its elements. -/
structure RdW (w : World) (a : Option Addr) (n cap : Nat) (l : List (BitVec 32)) : Prop where
  len : l.length = n
  fits : n ≤ cap
  bound : n ≤ 35184372088832
  nil : a = none → cap = 0
  cells : 0 < n → ∃ b off, a = some ⟨b, off, none⟩ ∧ ∀ j, j < n → w.cell? ⟨b, off + j, none⟩ = some (.int .u32 ((l.getD j 0#32).toNat : Int))
theorem RdW.later {w w1 : World} {a : Option Addr} {n cap : Nat} {l : List (BitVec 32)} (h : RdW w a n cap l) (hb : Below w.heap.size w w1) : RdW w1 a n cap l :=
  ⟨h.len, h.fits, h.bound, h.nil, fun hn => by
    obtain ⟨b, off, e, hc⟩ := h.cells hn
    exact ⟨b, off, e, fun j hj => (hb.cell (p := ⟨b, off + j, none⟩) (World.block_lt_of_cell? w ⟨b, off + j, none⟩ (hc j hj))).trans (hc j hj)⟩⟩
/-- The words as cells. -/
def wv (l : List (BitVec 32)) : List Value := l.map fun c => .int .u32 (c.toNat : Int)
theorem wv_length (l : List (BitVec 32)) : (wv l).length = l.length := by simp [wv]
theorem wv_append (l m : List (BitVec 32)) : wv (l ++ m) = wv l ++ wv m := by simp [wv]
theorem wv_get (l : List (BitVec 32)) (j : Nat) (h : j < l.length) : (wv l)[j]? = some (.int .u32 ((l.getD j 0#32).toNat : Int)) := by
  simp [wv, List.getD_eq_getElem?_getD, h]
theorem wv_one (l : List (BitVec 32)) : ∀ u ∈ wv l, u.oneCell' = true := by
  intro u hu
  simp only [wv, List.mem_map] at hu
  obtain ⟨c, _, rfl⟩ := hu
  rfl
theorem wv_set (l : List (BitVec 32)) (j : Nat) (c : BitVec 32) : (wv l).set j (.int .u32 (c.toNat : Int)) = wv (l.set j c) := by simp [wv, List.map_set]
theorem RdW.own {w : World} {B : Nat} {E : TypeId} {a : Option Addr} {n cap : Nat} {l : List (BitVec 32)} (h : w.ownsRow B E 1 (.slice a n cap) n (wv l)) (hcap : n ≤ 35184372088832) : RdW w a n cap l := by
  have hl : l.length = n := by have := h.1; rw [wv_length] at this; omega
  rcases h.2 with ⟨hv, h0⟩ | ⟨g, cap', cur, hv, hb, hh, hf, hm, hcs, ht⟩
  · simp only [Value.slice.injEq] at hv
    obtain ⟨rfl, rfl, rfl⟩ := hv
    exact ⟨hl, by omega, by omega, fun _ => rfl, fun hn => by omega⟩
  · simp only [Value.slice.injEq] at hv
    obtain ⟨rfl, _, rfl⟩ := hv
    refine ⟨hl, hf, hcap, (fun h => by cases h), fun hn => ⟨g, 0, rfl, fun j hj => ?_⟩⟩
    have hc := World.ownsRow.cellAt h j (by omega)
    rw [Nat.zero_add, hc, wv_get l j (by omega)]
theorem RdW.nilRow (w : World) : RdW w none 0 0 [] := ⟨rfl, by omega, by omega, fun _ => rfl, fun h => by omega⟩
/-- The first of them. -/
theorem RdW.take {w : World} {a : Option Addr} {n cap : Nat} {l : List (BitVec 32)} (h : RdW w a n cap l) (k : Nat) (hk : k ≤ n) : RdW w a k cap (l.take k) := by
  have hf := h.fits
  have hb := h.bound
  refine ⟨by rw [List.length_take, h.len]; omega, by omega, by omega, h.nil, fun h0 => ?_⟩
  obtain ⟨b, off, e, hc⟩ := h.cells (by omega)
  refine ⟨b, off, e, fun j hj => ?_⟩
  rw [hc j (by omega)]
  simp [List.getD_eq_getElem?_getD, List.getElem?_take, hj]
theorem wown_later {w w1 : World} {B : Nat} {E : TypeId} {v : Value} {n : Nat} {xs : List Value} (h : w.ownsRow B E 1 v n xs) (hb : Below w.heap.size w w1) : w1.ownsRow B E 1 v n xs := by
  refine ⟨h.1, ?_⟩
  rcases h.2 with h' | ⟨g, cap, cur, hv, hg, hh, r⟩
  · exact .inl h'
  · exact .inr ⟨g, cap, cur, hv, hg, (hb.block _ (Array.getElem?_eq_some_iff.1 hh).1).trans hh, r⟩
theorem wown_mono {w : World} {B B' : Nat} {E : TypeId} {v : Value} {n : Nat} {xs : List Value} (h : w.ownsRow B E 1 v n xs) (hB : B' ≤ B) : w.ownsRow B' E 1 v n xs := by
  refine ⟨h.1, ?_⟩
  rcases h.2 with h' | ⟨g, cap, cur, hv, hg, r⟩
  · exact .inl h'
  · exact .inr ⟨g, cap, cur, hv, by omega, r⟩
/-- A row of one's own, as a slice that can be read. -/
theorem wown_rd {w : World} {B : Nat} {E : TypeId} {v : Value} {n : Nat} {l : List (BitVec 32)} (h : w.ownsRow B E 1 v n (wv l)) (hn : n ≤ 35184372088832) : ∃ x cx, v = .slice x n cx ∧ RdW w x n cx l := by
  rcases h.2 with ⟨hv, h0⟩ | ⟨g, cap', cur, hv, _⟩
  · subst hv
    subst h0
    exact ⟨none, 0, rfl, RdW.own h hn⟩
  · subst hv
    exact ⟨_, _, rfl, RdW.own h hn⟩
theorem RdW.lit1 (w : World) (c : BitVec 32) : RdW (w.alloc (.cells #[.int .u32 (c.toNat : Int)] 23)) (some ⟨w.heap.size, 0, none⟩) 1 1 [c] :=
  RdW.own (World.ownsRow_lit w (wv [c]).toArray 1 (base := w.heap.size) (e := 23) (size := 1) (Nat.le_refl _) (by decide) rfl) (by omega)
theorem infoU32 : (Tryd.prog.info? 23).map (fun i => (i.zero, i.size, i.bytes)) = some (some (.int .u32 0), 1, 4) := by kernel_rfl
theorem append_words {w : World} {ops : Array Oper} {rest : List Oper} {o : Oper} {a : Act} {Q : Exit → Act → World → Prop} (hgd : o.guard = none) (s x : Operand)
    (ho : o.op = .call { callee := .builtin .append, args := #[s, x], argTypes := #[50, 50] })
    (base : Nat) (v : Value) (n : Nat) (xs : List Value) (hs : a.eval s = v) (hown : w.ownsRow base 23 1 v n xs)
    (x0 : Addr) (m c : Nat) (l : List (BitVec 32)) (hx : a.eval x = .slice (some x0) m c) (hr : RdW w (some x0) m c l)
    (hb : n + m ≤ 35184372088832) (hbase : base ≤ w.heap.size)
    (h : ∀ v' w', w'.ownsRow base 23 1 v' (n + m) (xs ++ wv l) → w.grownBy w' v.ownBlock → wpList Tryd.prog ops Q rest (a.put o.dst v') w') : wpList Tryd.prog ops Q (o :: rest) a w := by
  obtain ⟨i, hi, hz0, hz1, hz2⟩ := info_parts infoU32
  refine wpList_append_own w hgd s x 50 ho base 23 i (.int .u32 0) 1 4 Tryd.underlying50 hi hz0 hz1 hz2 rfl (by decide) v n xs hs hown x0 m c (wv l) hx (by rw [wv_length, hr.len, Nat.mul_one]) ?_ (wv_one l) (by unfold maxLen; omega) (by omega) hbase ?_
  · intro j u hu
    have hj : j < l.length := by
      have := (List.getElem?_eq_some_iff.1 hu).1
      rwa [wv_length] at this
    rw [wv_get l j hj] at hu
    have hj' : j < m := by rw [← hr.len]; exact hj
    obtain ⟨b, off, e, hc⟩ := hr.cells (by omega)
    obtain rfl := Option.some.inj e
    have e1 : (⟨b, off, none⟩ : Addr).add j = ⟨b, off + j, none⟩ := by unfold Addr.add; split <;> simp_all
    rw [e1, hc j hj', hu]
  · exact fun v' w' h1 h2 h3 => h v' w' h1 h2
end Go.Proofs.YtadikbmbadldpaaDoor
namespace Go.Proofs.YtadikbmbadldpaaDoor
open Go Go.RowKit
set_option linter.unusedVariables false
set_option linter.unusedSimpArgs false

theorem St.withBlk {W w : World} {b : Nat} {v : Value} {n : Nat} {P : Nat → PageV} {q : ProcV} (h : St ⟨W, []⟩ w b v n P q) (g : Nat) (cs : Array Value) (T : TypeId) (hb : Blk w g cs T) (h1 : g ≠ b) (h2 : v.ownBlock ≠ some g) : St ⟨W, [(g, cs, T)]⟩ w b v n P q :=
  ⟨h.mach, h.own, h.far, h.base, h.below, fun c hc => by
    simp only [List.mem_cons, List.not_mem_nil, or_false] at hc
    subst hc
    exact ⟨hb, h1, h2⟩⟩
theorem St.bare {z : BaseW} {w : World} {b : Nat} {v : Value} {n : Nat} {P : Nat → PageV} {q : ProcV} (h : St z w b v n P q) : St ⟨z.w, []⟩ w b v n P q :=
  ⟨h.mach, h.own, h.far, h.base, h.below, fun c hc => by cases hc⟩
theorem St.grown {W w w' : World} {b : Nat} {v : Value} {n : Nat} {P : Nat → PageV} {q : ProcV} {row : Option Nat} (h : St ⟨W, []⟩ w b v n P q) (hg : w.grownBy w' row) (h1 : some b ≠ row) (h2 : v.ownBlock = none ∨ v.ownBlock ≠ row) (h3 : ∀ k, row = some k → W.heap.size ≤ k) : St ⟨W, []⟩ w' b v n P q :=
  ⟨(hg.block b h.mach.lt h1).trans h.mach, World.ownsRow.kept h.own hg h2, h.far, h.base, h.below.grown hg h.below.size h3, fun c hc => by cases hc⟩
/-- A row of one's own that is not empty: its block. -/
theorem words_block {w : World} {B : Nat} {E : TypeId} {v : Value} {n : Nat} {xs : List Value} (h : w.ownsRow B E 1 v (n + 1) xs) :
    ∃ g cap cur, v = .slice (some ⟨g, 0, none⟩) (n + 1) cap ∧ B ≤ g ∧ g < w.heap.size ∧ Blk w g cur E ∧ ∀ w', Blk w' g cur E → w'.ownsRow B E 1 v (n + 1) xs := by
  have h1 := h.1
  rcases h.2 with ⟨_, h0⟩ | ⟨g, cap, cur, hv, hb, hh, r⟩
  · cases h0
  · exact ⟨g, cap, cur, hv, hb, (Array.getElem?_eq_some_iff.1 hh).1, hh, fun w' h' => ⟨h1, .inr ⟨g, cap, cur, hv, hb, h', r⟩⟩⟩
theorem words_far {w : World} {B : Nat} {E : TypeId} {v : Value} {n : Nat} {xs : List Value} (h : w.ownsRow B E 1 v n xs) {k : Nat} (hk : v.ownBlock = some k) : B ≤ k := by
  rcases h.2 with ⟨hv, _⟩ | ⟨g, cap, cur, hv, hb, _⟩
  · subst hv; cases hk
  · subst hv; cases hk; exact hb
theorem ownP_lt {w : World} {B : Nat} {v : Value} {n : Nat} {P : Nat → PageV} (h : OwnP w B v n P) {k : Nat} (hk : v.ownBlock = some k) : k < w.heap.size := by
  rcases h.2 with ⟨hv, _⟩ | ⟨g, cap, cur, hv, hb, hh, _⟩
  · subst hv; cases hk
  · subst hv; cases hk; exact (Array.getElem?_eq_some_iff.1 hh).1
def lenV : Value → Nat
  | .slice _ n _ => n
  | _ => 0
/-- Where the steps stand. -/
def pathL (n : Nat) (P : Nat → PageV) (q : ProcV) (i : Nat) : List (BitVec 32) := (List.range i).map fun j => (itV n P q j).q.pc
theorem pathL_succ (n : Nat) (P : Nat → PageV) (q : ProcV) (i : Nat) : pathL n P q (i + 1) = pathL n P q i ++ [(itV n P q i).q.pc] := by
  unfold pathL; rw [List.range_succ, List.map_append]; rfl
theorem pathL_length (n : Nat) (P : Nat → PageV) (q : ProcV) (i : Nat) : (pathL n P q i).length = i := by simp [pathL]
theorem pathL_get (n : Nat) (P : Nat → PageV) (q : ProcV) (i j : Nat) (h : j < i) : (pathL n P q i).getD j 0#32 = (itV n P q j).q.pc := by
  simp [pathL, List.getD_eq_getElem?_getD, h]
structure PathI (W wc wr : World) (b : Nat) (v : Value) (n : Nat) (z : RunV) (L : List (BitVec 32)) (i : Nat) (pv : Value) : Prop where
  st : St ⟨W, []⟩ wr b v n z.P z.q
  row : wr.ownsRow wc.heap.size 23 1 pv i (wv L)
  size : wc.heap.size ≤ wr.heap.size
  lt : b < wc.heap.size
  far : ∀ k, v.ownBlock = some k → k < wc.heap.size
set_option maxRecDepth 100000 in
set_option maxHeartbeats 8000000 in
theorem core_path (A : Nat → Addr) (a : Option Addr) (n cap : Nat) (P : Nat → PageV) (q : ProcV) (most : Int) (hm : most ≤ 10000) (w : World) (h : RdP w a n cap P) (hE : Errs w [4, 7, 20] A) (ht : BlankT w) :
    Calls Tryd.prog 20 #[.slice a n cap, .agg q.row.toArray, .int .i64 most] w fun e w' => ∃ v, e = .returned (.tuple #[v, .nilIface]) ∧ w'.ownsRow w.heap.size 23 1 v (itV n P (q.put 0 0#32) most.toNat).s (wv (pathL n P (q.put 0 0#32) (itV n P (q.put 0 0#32) most.toNat).s)) ∧ Below w.heap.size w w' := by
  have hn := h.bound
  obtain ⟨w1, e1⟩ : ∃ w1, w1 = w.alloc (.cells q.row.toArray 32) := ⟨_, rfl⟩
  obtain ⟨B, hB⟩ : ∃ B, B = w.heap.size := ⟨_, rfl⟩
  have b1 : Below w.heap.size w w1 := by rw [e1]; exact below_alloc _ _
  have U0' : Kp (Blk (w.alloc (.cells q.row.toArray 32)) w.heap.size q.row.toArray 32) := ⟨Blk.new _ _ _⟩
  have KO := Kp.mk (core_own a n cap P q w1 (h.later b1))
  have KE : Kp (Errs w1 [4, 7, 20] A) := ⟨hE.later b1⟩
  have KT : Kp (BlankT w1) := ⟨ht.later b1⟩
  have BW1 := Kp.mk b1
  have EQ : Kp (w.alloc (.cells q.row.toArray 32) = w1) := ⟨e1.symm⟩
  obtain ⟨qs, hqs⟩ : ∃ qs, qs = q.put 0 0#32 := ⟨_, rfl⟩
  rw [← hqs] at KO ⊢
  obtain ⟨N, hN⟩ : ∃ N, N = most.toNat := ⟨_, rfl⟩
  rw [← hN]
  have HN := Kp.mk hN
  have t0 : decide (most > 10000) = false := decide_eq_false (by omega)
  have HM := Kp.mk hm
  clear h hE ht e1 b1 hB hqs hN hm
  go_enter Tryd.func20, Tryd.ntmps20
  go_wp2_with (refine wpList_load_row rfl 32 _ rfl w.heap.size rfl 32 q.row.toArray (0, 0) _ U0'.out Tryd.underlying32 rfl (prSizeA q) ?_)
  rw [EQ.out]
  refine KO.out.mono ?_
  rintro e wc ⟨b, v, rfl, hst⟩
  have HI : Kp (PathI w1 wc wc b v n (itV n P qs 0) (pathL n P qs 0) 0 (.slice none 0 0)) := ⟨⟨hst, World.ownsRow_nil _ _ _ _, Nat.le_refl _, hst.mach.lt, fun k hk => ownP_lt hst.own hk⟩⟩
  clear hst KO U0' EQ
  go_wp2_with fail
  go_loopw [9, 10] (fun pv kv wr => ∃ i : Nat, i ≤ N ∧ kv = .int .i64 ((itV n P qs i).k : Int) ∧ Kp ((itV n P qs i).s = i) ∧ Kp (PathI w1 wc wr b v n (itV n P qs i) (pathL n P qs i) i pv)) (fun pv _ _ => N - lenV pv)
  case atStart => exact ⟨0, by omega, rfl, ⟨rfl⟩, HI⟩
  case round =>
    obtain ⟨i, hi, rfl, HS, HJ⟩ := hrel
    have hi2 : i ≤ 10000 := by have := HN.out; have := HM.out; omega
    obtain ⟨x, cx, hpv, hrd⟩ := wown_rd HJ.out.row (by omega)
    subst hpv
    clear hrd
    obtain ⟨z, hz⟩ : ∃ z, z = itV n P qs i := ⟨_, rfl⟩
    have HPL : Kp (pathL n P qs (i + 1) = pathL n P qs i ++ [z.q.pc]) := ⟨by rw [hz]; exact pathL_succ _ _ _ _⟩
    rw [← hz] at HS HJ ⊢
    have HZ := Kp.mk hz
    have HIN := Kp.mk hi
    clear hz hi
    by_cases hlt : i < N
    · have t1 : decide ((i : Int) < most) = true := decide_eq_true (by have := HN.out; omega)
      by_cases hk : z.k = 0
      · have t2 : ((z.k : Int) == 0) = true := by rw [hk]; rfl
        have KST := Kp.mk (fun (w' : World) (g : Nat) (cur : Array Value) (hs : St ⟨w1, [(g, cur, 23)]⟩ w' b v n z.P z.q) => core_step A hs hn KE.out KT.out)
        have HNX : Kp (itV n P qs (i + 1) = ⟨(stepV n z.P z.q).P, (stepV n z.P z.q).q, (stepV n z.P z.q).k, (stepV n z.P z.q).c, i + 1⟩) := ⟨by
          rw [itV_next (by rw [← HZ.out]; exact hk), ← HZ.out, HS.out]⟩
        obtain ⟨o, ho⟩ : ∃ o, o = stepV n z.P z.q := ⟨_, rfl⟩
        rw [← ho] at KST HNX
        obtain ⟨ok, hok⟩ : ∃ ok : Int, ok = (o.k : Int) := ⟨_, rfl⟩
        rw [← hok] at KST
        have HOK := Kp.mk hok
        have HLT := Kp.mk hlt
        have d0 := HJ.out.st.mach.pc
        obtain ⟨pc, hpc⟩ : ∃ pc, pc = z.q.pc := ⟨_, rfl⟩
        rw [← hpc] at d0 HPL
        have HSZ := Kp.mk HJ.out.size
        have HROW : Kp ((wr.alloc (.cells #[.int .u32 (pc.toNat : Int)] 23)).ownsRow wc.heap.size 23 1 (.slice x i cx) i (wv (pathL n P qs i))) := ⟨wown_later HJ.out.row (below_alloc _ _)⟩
        have HST1 : Kp (St ⟨w1, []⟩ (wr.alloc (.cells #[.int .u32 (pc.toNat : Int)] 23)) b v n z.P z.q) := ⟨HJ.out.st.later (below_alloc _ _)⟩
        have HFR : Kp (∀ k, (Value.slice x i cx).ownBlock = some k → wc.heap.size ≤ k) := ⟨fun k hk => words_far HJ.out.row hk⟩
        have HLB := Kp.mk (show b < wc.heap.size ∧ ∀ k, v.ownBlock = some k → k < wc.heap.size from ⟨HJ.out.lt, HJ.out.far⟩)
        clear hk ho hok HJ hlt hpc
        go_wp2_with (first
          | (refine append_words rfl _ _ rfl wc.heap.size (.slice x i cx) i (wv (pathL n P qs i)) rfl HROW.out ⟨wr.heap.size, 0, none⟩ 1 1 [pc] rfl (RdW.lit1 wr pc) (by omega) (by have := HSZ.out; simp; omega) ?_; intro pv' w5 hr hg; rw [← wv_append, ← HPL.out] at hr; have HR5 := Kp.mk hr; have HG5 := Kp.mk hg; clear hr hg))
        obtain ⟨g, cp, cur, rfl, hgB, hgl, hgb, hgo⟩ := words_block HR5.out
        have HGO := Kp.mk hgo
        have HGBK := Kp.mk hgB
        have HST5 : Kp (St ⟨w1, [(g, cur, 23)]⟩ w5 b v n z.P z.q) := ⟨by
          have h1 := HLB.out.1
          have h2 := HLB.out.2
          have h3 := HFR.out
          have hw : w1.heap.size ≤ wc.heap.size := Nat.le_of_lt (Nat.lt_of_le_of_lt HST1.out.base h1)
          refine (HST1.out.grown HG5.out (fun e => ?_) ?_ (fun k hk => ?_)).withBlk g cur _ hgb (by omega) (fun e => ?_)
          · have := h3 b e.symm; omega
          · cases hv : v.ownBlock with
            | none => exact .inl rfl
            | some k => exact .inr (fun e => by have := h2 k hv; have := h3 k e.symm; omega)
          · exact Nat.le_trans hw (h3 k hk)
          · have := h2 g e; omega⟩
        have HS5 : Kp (wc.heap.size ≤ w5.heap.size) := ⟨by have := HG5.out.size; have h2 := HSZ.out; simp at this; omega⟩
        clear HR5 HG5 HROW HST1 hgo hgB hgl hgb
        go_wp2_with (first
          | (go_at_call 29; (with_reducible refine (KST.out _ g cur HST5.out).mono ?_); rintro e w6 ⟨rfl, hst⟩; have H6 := Kp.mk hst; clear hst))
        have J6 : Kp (PathI w1 wc w6 b v n (itV n P qs (i + 1)) (pathL n P qs (i + 1)) (i + 1) (.slice (some ⟨g, 0, none⟩) (i + 1) cp)) := ⟨by
          rw [HNX.out]
          exact ⟨H6.out.bare, HGO.out _ (H6.out.keep (g, cur, 23) (by simp)).1, Nat.le_of_lt (Nat.lt_of_le_of_lt HGBK.out (Nat.lt_of_le_of_lt (Nat.le_refl g) (H6.out.keep (g, cur, 23) (by simp)).1.lt)), HLB.out.1, HLB.out.2⟩⟩
        go_roundw
        case rel =>
          refine ⟨i + 1, by have := HLT.out; omega, ?_, ⟨by rw [HNX.out]⟩, J6⟩
          rw [HNX.out, HOK.out]
        case measure => have := HLT.out; simp [lenV]; omega
      · have t2 : ((z.k : Int) == 0) = false := by simpa using hk
        have HZN : Kp (itV n P qs N = z) := ⟨by rw [HZ.out]; exact itV_stop (by rw [← HZ.out]; exact hk) N (by have := HIN.out; omega)⟩
        clear hk hlt
        go_wp2_with fail
        go_ret2
        refine ⟨_, rfl, ?_, BW1.out.trans (HJ.out.st.below.mono BW1.out.size)⟩
        rw [HZN.out, HS.out]
        exact wown_mono HJ.out.row (Nat.le_trans BW1.out.size (Nat.le_of_lt (Nat.lt_of_le_of_lt HJ.out.st.base HJ.out.lt)))
    · have t1 : decide ((i : Int) < most) = false := decide_eq_false (by have := HN.out; omega)
      have HZN : Kp (itV n P qs N = z) := ⟨by rw [HZ.out, show i = N by have := HIN.out; omega]⟩
      clear hlt
      go_wp2_with fail
      go_ret2
      refine ⟨_, rfl, ?_, BW1.out.trans (HJ.out.st.below.mono BW1.out.size)⟩
      rw [HZN.out, HS.out]
      exact wown_mono HJ.out.row (Nat.le_trans BW1.out.size (Nat.le_of_lt (Nat.lt_of_le_of_lt HJ.out.st.base HJ.out.lt)))
end Go.Proofs.YtadikbmbadldpaaDoor
namespace Go.Proofs.YtadikbmbadldpaaDoor
open Go Go.RowKit
set_option linter.unusedVariables false
set_option linter.unusedSimpArgs false

set_option maxRecDepth 100000 in
set_option maxHeartbeats 8000000 in
theorem core_step1 (A : Nat → Addr) (a : Option Addr) (n cap : Nat) (P : Nat → PageV) (q : ProcV) (w : World) (h : RdP w a n cap P) (hE : Errs w [4, 7, 20] A) (ht : BlankT w) (z : RunV) (hz : z = itV n P (q.put 0 0#32) 1) :
    Calls Tryd.prog 19 #[.slice a n cap, .agg q.row.toArray] w fun e w' => ∃ v, e = .returned (.tuple #[v, .agg z.q.row.toArray, .agg (stopA z.k z.s z.c)]) ∧ OwnP w' w.heap.size v n z.P ∧ Below w.heap.size w w' := by
  have hn := h.bound
  obtain ⟨w1, e1⟩ : ∃ w1, w1 = w.alloc (.cells q.row.toArray 32) := ⟨_, rfl⟩
  obtain ⟨w2, e2⟩ : ∃ w2, w2 = w1.alloc (.cells zRow 32) := ⟨_, rfl⟩
  obtain ⟨w3, e3⟩ : ∃ w3, w3 = w2.alloc (.cells st0 38) := ⟨_, rfl⟩
  obtain ⟨B, hB⟩ : ∃ B, B = w.heap.size := ⟨_, rfl⟩
  have s1 : w1.heap.size = B + 1 := by rw [e1, hB]; simp
  have s2 : w2.heap.size = B + 2 := by rw [e2]; simp [s1]
  have s3 : w3.heap.size = B + 3 := by rw [e3]; simp [s2]
  have b1 : Below B w w1 := by rw [e1, hB]; exact below_alloc _ _
  have b2 : Below w1.heap.size w1 w2 := by rw [e2]; exact below_alloc _ _
  have b3 : Below w2.heap.size w2 w3 := by rw [e3]; exact below_alloc _ _
  have b13 : Below w1.heap.size w1 w3 := b2.trans (b3.mono (by omega))
  have b03 : Below B w w3 := b1.trans (b13.mono (by omega))
  have U0 : Kp (PrAt w3 B q) := ⟨Blk.later (by rw [e1, hB]; exact Blk.new _ _ _) b13⟩
  have U1 : Kp (Blk w3 (B + 1) zRow 32) := ⟨Blk.later (by rw [e2, ← s1]; exact Blk.new _ _ _) b3⟩
  have U2 : Kp (Blk w3 (B + 2) st0 38) := ⟨by rw [e3, ← s2]; exact Blk.new _ _ _⟩
  have KR : Kp (Calls Tryd.prog 15 #[.slice a n cap, .agg q.row.toArray, .int .i64 1] w3 fun e w' => ∃ v, e = .returned (.tuple #[v, .agg z.q.row.toArray, .agg (stopA z.k z.s z.c)]) ∧ OwnP w' w3.heap.size v n z.P ∧ Below w3.heap.size w3 w') := ⟨by
    have := core_run A a n cap P q 1 (by decide) w3 (h.later (hB ▸ b03)) (hE.later (hB ▸ b03)) (ht.later (hB ▸ b03))
    rw [show ((1 : Int).toNat) = 1 from rfl, ← hz] at this
    exact this⟩
  have B03 := Kp.mk b03
  have S3 := Kp.mk s3
  have HBq := Kp.mk hB
  have EQ : Kp (((w.alloc (.cells q.row.toArray 32)).alloc (.cells zRow 32)).alloc (.cells st0 38) = w3) := ⟨by rw [e3, e2, e1]⟩
  have U0' : Kp (Blk (((w.alloc (.cells q.row.toArray 32)).alloc (.cells zRow 32)).alloc (.cells st0 38)) w.heap.size q.row.toArray 32) := ⟨by rw [EQ.out, ← HBq.out]; exact U0.out⟩
  clear h hE ht e1 e2 e3 s1 s2 s3 b1 b2 b3 b13 b03 hB hz
  go_enter Tryd.func19, Tryd.ntmps19
  go_wp2_with (refine wpList_load_row rfl 32 _ rfl w.heap.size rfl 32 q.row.toArray (0, 0) _ U0'.out Tryd.underlying32 rfl (prSizeA q) ?_)
  rw [show (((w.alloc (.cells q.row.toArray 32)).alloc (.cells zRow 32)).alloc (.cells #[.int .i64 0, .int .i64 0, .int .i64 0] 38)) = w3 from EQ.out]
  refine KR.out.mono ?_
  rintro e w4 ⟨v, rfl, ho, hb⟩
  have V7 := Kp.mk (U1.out.later hb)
  have V8 := Kp.mk (U2.out.later hb)
  have HO := Kp.mk ho
  have HB4 := Kp.mk hb
  have VC8 : Kp (Blk (w4.setRow (B + 1) z.q.row.toArray) (B + 2) st0 38) := ⟨(setRow_other _ _ _ _ (by omega)).trans V8.out⟩
  clear ho hb KR U0 U0' EQ
  rw [← HBq.out, show B + 1 + 1 = B + 2 from rfl]
  go_wp2_with (first
    | (refine wpList_store_row rfl 32 _ _ rfl (B + 1) z.q.row.toArray rfl rfl 32 _ V7.out (prSizeA z.q) (row_size21 z.q) (row_all_one z.q) ?_)
    | (refine wpList_store_row rfl 38 _ _ rfl (B + 2) (stopA z.k z.s z.c) rfl rfl 38 _ VC8.out (stopSize _ _ _) rfl (stop_one _ _ _) ?_))
  have R8 : Blk ((w4.setRow (B + 1) z.q.row.toArray).setRow (B + 2) (stopA z.k z.s z.c)) (B + 2) (stopA z.k z.s z.c) 38 := setRow_heap _ _ _ _ _ _ VC8.out
  have R7 : PrAt ((w4.setRow (B + 1) z.q.row.toArray).setRow (B + 2) (stopA z.k z.s z.c)) (B + 1) z.q := (setRow_other _ _ _ _ (by omega)).trans (setRow_heap _ _ _ _ _ _ V7.out)
  refine bodyPost_ret (resRun rfl _ rfl rfl R7 R8 _ _ Tryd.underlying32 Tryd.underlying38 (prSizeA z.q) (stopSize _ _ _)) rfl ?_
  have hb0 : Below w.heap.size w w4 := by
    rw [← HBq.out]
    exact B03.out.trans (HB4.out.mono (by rw [S3.out]; omega))
  exact ⟨v, rfl, (((HO.out.setRow (B + 1) _ (by rw [S3.out]; omega)).setRow (B + 2) _ (by rw [S3.out]; omega))).mono (by rw [S3.out, HBq.out]; omega), below_setRow (below_setRow hb0 (by rw [HBq.out]; omega) _) (by rw [HBq.out]; omega) _⟩
end Go.Proofs.YtadikbmbadldpaaDoor
namespace Go.Proofs.YtadikbmbadldpaaDoor
set_option linter.unusedVariables false

theorem it_at {n : Nat} {P : Nat → PageV} {q : ProcV} (N : Nat) : itV n P q (itV n P q N).s = itV n P q N ∧ (∀ i, i < (itV n P q N).s → (itV n P q i).k = 0) ∧ (itV n P q N).s ≤ N ∧ ((itV n P q N).k = 0 → (itV n P q N).s = N) := by
  induction N with
  | zero => exact ⟨rfl, fun i hi => absurd hi (Nat.not_lt_zero _), Nat.le_refl _, fun _ => rfl⟩
  | succ N ih =>
    obtain ⟨h1, h2, h3, h4⟩ := ih
    by_cases h0 : (itV n P q N).k = 0
    · have e : (itV n P q (N + 1)).s = N + 1 := by rw [itV_next h0]; exact congrArg (· + 1) (itV_steps h0)
      refine ⟨by rw [e], fun i hi => ?_, by omega, fun _ => e⟩
      rw [e] at hi
      by_cases hi2 : i = N
      · rw [hi2]; exact h0
      · exact h2 i (by rw [h4 h0]; omega)
    · have e : itV n P q (N + 1) = itV n P q N := itV_stop h0 (N + 1) (by omega)
      rw [e]
      exact ⟨h1, h2, by omega, fun h => absurd h h0⟩
/-- One step from a run's end, as a run of one step. -/
theorem it_one {n : Nat} {P : Nat → PageV} {q : ProcV} (h0 : q.r 0 = 0#32) {i : Nat} (h : (itV n P q i).k = 0) : itV n (itV n P q i).P ((itV n P q i).q.put 0 0#32) 1 = ⟨(itV n P q (i + 1)).P, (itV n P q (i + 1)).q, (itV n P q (i + 1)).k, (itV n P q (i + 1)).c, 1⟩ := by
  rw [put_same (it_r0 h0 i), itV_next h]
  have e : itV n (itV n P q i).P (itV n P q i).q 1 = _ := itV_next (i := 0) rfl
  rw [e]
  rfl
end Go.Proofs.YtadikbmbadldpaaDoor
namespace Go.Proofs.YtadikbmbadldpaaDoor
open Go Go.RowKit
set_option linter.unusedVariables false
set_option linter.unusedSimpArgs false

theorem wpl_store {P : Program} {ops : Array Oper} {Q : Exit → Act → World → Prop} {l : List Oper} {a : Act} {w : World} {d : Option Tmp} {t : TypeId} {p : String} {af : Array Edge} {g : Option (Nat × Bool)} (ty : TypeId) (x : Operand) {y : Operand} (h : wpList P ops Q ({ dst := d, op := .store ty x y, type := t, pos := p, after := af, guard := g } :: l) a w) : wpList P ops Q ({ dst := d, op := .store ty x y, type := t, pos := p, after := af, guard := g } :: l) a w := h
theorem wpl_load {P : Program} {ops : Array Oper} {Q : Exit → Act → World → Prop} {l : List Oper} {a : Act} {w : World} {d : Option Tmp} {t : TypeId} {p : String} {af : Array Edge} {g : Option (Nat × Bool)} (ty : TypeId) (x : Operand) (h : wpList P ops Q ({ dst := d, op := .load ty x, type := t, pos := p, after := af, guard := g } :: l) a w) : wpList P ops Q ({ dst := d, op := .load ty x, type := t, pos := p, after := af, guard := g } :: l) a w := h
theorem bndw_le (n : Int) : bndV n ≤ 3000 := by unfold bndV; split <;> omega
theorem roww_is (q : ProcV) : zRow.size = q.row.toArray.size ∧ (Tryd.prog.info? 32).map (·.size) = some q.row.toArray.size ∧ q.row.toArray.all (·.oneCell') = true := ⟨row_size21 q, prSizeA q, row_all_one q⟩
theorem roww_range {w : World} {g : Nat} {R : Array Value} {T : TypeId} (h : Blk w g R T) : w.rangeAt g 0 R.toList := fun j u hu => by
  rw [Nat.zero_add]
  exact h.cell j u (by simpa using hu)
structure WalkI (w6 wr : World) (n : Nat) (Pi : Nat → PageV) (Ri : Array Value) (mv : Value) : Prop where
  below : Below w6.heap.size w6 wr
  row : Blk wr w6.heap.size Ri 32
  rd : ∃ a c, mv = .slice a n c ∧ RdP wr a n c Pi
set_option maxRecDepth 100000 in
set_option maxHeartbeats 8000000 in
theorem law_CoreWalks (A : Nat → Addr) (a : Option Addr) (n cap : Nat) (P : Nat → PageV) (q : ProcV) (m : Int) (w : World) (h : RdP w a n cap P) (hm0 : -9223372036854775808 ≤ m) (hm1 : m ≤ 9223372036854775807) (hE : Errs w [4, 7, 12, 20] A) (ht : BlankT w) :
    Calls Tryd.prog 8 #[.slice a n cap, .agg q.row.toArray, .int .i64 m] w fun e w' => e = .returned (.bool true) ∧ Below w.heap.size w w' := by
  have hn := h.bound
  have hE2 : Errs w [4, 7, 20] A := hE.sub (by intro c hc; simp at hc ⊢; omega)
  have KAW := Kp.mk (fun w' (hw : Below w.heap.size w w') => law_awake A w' (hE2.later hw) (ht.later hw))
  have KB1 := Kp.mk (fun v => law_bounded m v)
  have b1 := bndw_le m
  obtain ⟨na, hna⟩ : ∃ x, x = bndV m := ⟨_, rfl⟩
  rw [← hna] at KB1 b1
  obtain ⟨nb, hw⟩ : ∃ nb : Int, (400 < na ∧ nb = 400) ∨ (¬ 400 < na ∧ 0 < nb ∧ nb = na) ∨ (nb ≤ 0 ∧ nb = na ∧ ¬ 400 < na) := by
    by_cases h4 : 400 < na
    · exact ⟨400, .inl ⟨h4, rfl⟩⟩
    · by_cases h0 : 0 < na
      · exact ⟨na, .inr (.inl ⟨h4, h0, rfl⟩)⟩
      · exact ⟨na, .inr (.inr ⟨by omega, rfl, h4⟩)⟩
  have hb4 : nb ≤ 400 := by rcases hw with ⟨_, h⟩ | ⟨_, _, h⟩ | ⟨_, h, _⟩ <;> omega
  obtain ⟨B, hB⟩ : ∃ B, B = w.heap.size := ⟨_, rfl⟩
  obtain ⟨w1, e1⟩ : ∃ w1, w1 = w.alloc (.cells q.row.toArray 32) := ⟨_, rfl⟩
  have BW1 : Kp (Below w.heap.size w w1) := ⟨by rw [e1]; exact below_alloc _ _⟩
  have EW : Kp (w.alloc (.cells q.row.toArray 32) = w1) := ⟨e1.symm⟩
  have HBq := Kp.mk hB
  obtain ⟨N, hN⟩ : ∃ N, N = nb.toNat := ⟨_, rfl⟩
  obtain ⟨zf, hzf⟩ : ∃ f : Nat → RunV, f = fun i => itV n P (q.put 0 0#32) i := ⟨_, rfl⟩
  have hz : ∀ i, itV n P (q.put 0 0#32) i = zf i := fun i => by rw [hzf]
  have hr0 : (q.put 0 0#32).r 0 = 0#32 := put_r0 q
  have hat := it_at (n := n) (P := P) (q := q.put 0 0#32) N
  simp only [hz] at hat
  obtain ⟨hend, hk0, hsN, hkN⟩ := hat
  have K1 : Kp (∀ w', Below w.heap.size w w' → Calls Tryd.prog 15 #[.slice a n cap, .agg q.row.toArray, .int .i64 nb] w' fun e w'' => ∃ v2, e = .returned (.tuple #[v2, .agg (zf N).q.row.toArray, .agg (stopA (zf N).k (zf N).s (zf N).c)]) ∧ OwnP w'' w'.heap.size v2 n (zf N).P ∧ Below w'.heap.size w' w'') :=
    ⟨fun w' hw => by rw [← hz, hN]; exact core_run A a n cap P q nb (by omega) w' (h.later hw) (hE2.later hw) (ht.later hw)⟩
  obtain ⟨L, hL⟩ : ∃ L, L = pathL n P (q.put 0 0#32) (zf N).s := ⟨_, rfl⟩
  have K2 : Kp (∀ w', Below w.heap.size w w' → Calls Tryd.prog 20 #[.slice a n cap, .agg q.row.toArray, .int .i64 nb] w' fun e w'' => ∃ v, e = .returned (.tuple #[v, .nilIface]) ∧ w''.ownsRow w'.heap.size 23 1 v (zf N).s (wv L) ∧ Below w'.heap.size w' w'') :=
    ⟨fun w' hw => by rw [hL, ← hz, hN]; exact core_path A a n cap P q nb (by omega) w' (h.later hw) (hE2.later hw) (ht.later hw)⟩
  have HLG : Kp (∀ i, i < (zf N).s → L.getD i 0#32 = (zf i).q.pc) := ⟨fun i hi => by rw [hL, pathL_get _ _ _ _ _ hi, hz]⟩
  have KST : Kp (∀ i, i < (zf N).s → ∀ a2 cap2 w', RdP w' a2 n cap2 (zf i).P → Below w.heap.size w w' → Calls Tryd.prog 19 #[.slice a2 n cap2, .agg (zf i).q.row.toArray] w' fun e w'' => ∃ v2, e = .returned (.tuple #[v2, .agg (zf (i + 1)).q.row.toArray, .agg (stopA (zf (i + 1)).k 1 (zf (i + 1)).c)]) ∧ OwnP w'' w'.heap.size v2 n (zf (i + 1)).P ∧ Below w'.heap.size w' w'') := ⟨fun i hi a2 cap2 w' hr hw => by
    have hi1 := it_one (n := n) (P := P) hr0 (i := i) (by rw [hz]; exact hk0 i hi)
    rw [hz, hz] at hi1
    exact core_step1 A a2 n cap2 (zf i).P (zf i).q w' hr (hE2.later hw) (ht.later hw) _ hi1.symm⟩
  have KCP : Kp (∀ w', Below w.heap.size w w' → Calls Tryd.prog 17 #[.slice a n cap] w' fun e w'' => ∃ v, e = .returned v ∧ OwnP w'' w'.heap.size v n P ∧ Below w'.heap.size w' w'') := ⟨fun w' hw => ref_copy a n cap P w' (h.later hw)⟩
  have HZ0 : Kp ((zf 0).P = P ∧ (zf 0).q.row = (q.row.set 0 (.int .u32 ((0#32).toNat : Int)))) := ⟨by rw [← hz]; exact rfl, by rw [← hz, ProcV.row_put q 0 0#32 (by decide)]; rfl⟩
  have he1 : ∀ w, (Op.equalIn 10000 32 (.agg (zf N).q.row.toArray) (.agg (zf N).q.row.toArray)).run Tryd.prog w = .ok true w := fun w => proc_eq 9997 (zf N).q w
  have hg := guardProc
  have HRI : Kp (∀ i, zRow.size = (zf i).q.row.toArray.size ∧ (Tryd.prog.info? 32).map (·.size) = some (zf i).q.row.toArray.size ∧ (zf i).q.row.toArray.all (·.oneCell') = true) := ⟨fun i => roww_is _⟩
  have HRP : Kp (∀ i, (zf i).q.row.toArray[16]? = some (.int .u32 ((zf i).q.pc.toNat : Int))) := ⟨fun i => by simpa using (zf i).q.row_pc⟩
  have HIR : Kp (zRow.size = q.row.toArray.size ∧ (Tryd.prog.info? 32).map (·.size) = some q.row.toArray.size ∧ q.row.toArray.all (·.oneCell') = true) := ⟨roww_is q⟩
  have HIR1 := Kp.mk (HRI.out N)
  have HEND := Kp.mk hend
  have HK0 := Kp.mk hk0
  obtain ⟨R, hR⟩ : ∃ R, R = q.row.toArray := ⟨_, rfl⟩
  obtain ⟨R1, hR1⟩ : ∃ R, R = (zf N).q.row.toArray := ⟨_, rfl⟩
  have HZR : Kp ((zf 0).q.row.toArray = R.setIfInBounds 0 (.int .u32 0)) := ⟨by rw [HZ0.out.2, hR]; simp⟩
  have HZP := Kp.mk HZ0.out.1
  obtain ⟨k1, hk1⟩ : ∃ k, k = (zf N).k := ⟨_, rfl⟩
  obtain ⟨s1, hs1⟩ : ∃ s, s = (zf N).s := ⟨_, rfl⟩
  obtain ⟨c1, hc1⟩ : ∃ c, c = (zf N).c := ⟨_, rfl⟩
  obtain ⟨P1, hP1⟩ : ∃ p, p = (zf N).P := ⟨_, rfl⟩
  rw [← hk1, ← hs1, ← hc1, ← hR, ← hR1, ← hP1] at K1
  rw [← hs1, ← hR] at K2
  rw [← hs1] at KST HLG HEND HK0 hsN hkN
  rw [← hk1] at hkN
  rw [← hR1] at he1 HIR1
  rw [← hR] at HIR EW ⊢
  have HE1 : Kp ((zf s1).q.row.toArray = R1 ∧ (zf s1).P = P1 ∧ (zf s1).k = k1 ∧ (zf s1).c = c1) := ⟨by rw [HEND.out, ← hR1, ← hP1, ← hk1, ← hc1]; exact ⟨rfl, rfl, rfl, rfl⟩⟩
  have f1 : decide ((s1 : Int) < 0) = false := decide_eq_false (by omega)
  have hs4 : s1 ≤ 400 := by omega
  have HS4 := Kp.mk hs4
  have HN0 : Kp (nb ≤ 0 → k1 = 0 ∧ s1 = 0 ∧ c1 = 0) := ⟨fun h0 => by
    have hN0 : N = 0 := by omega
    have hz0 := hz 0
    rw [hN0, ← hz0] at hk1 hs1 hc1
    exact ⟨hk1, hs1, hc1⟩⟩
  have HKK : Kp (((k1 : Int) == 0) = false ∨ (((k1 : Int) == 0) = true ∧ (0 < nb → ((s1 : Int) != nb) = false))) := ⟨by
    by_cases hk : k1 = 0
    · refine .inr ⟨by rw [hk]; rfl, fun h0 => ?_⟩
      have := hkN hk
      simp
      omega
    · exact .inl (by simpa using hk)⟩
  have HSN : Kp (0 < nb → decide ((s1 : Int) > nb) = false) := ⟨fun h0 => decide_eq_false (by omega)⟩
  have PB : Kp (Blk w1 B R 32) := ⟨by rw [← EW.out, hB]; exact Blk.new _ _ _⟩
  have HR0 : Kp (R[0]? = some (.int .u32 ((q.r 0).toNat : Int))) := ⟨by rw [hR]; simpa using q.row_reg 0 (by decide)⟩
  clear h hE hE2 ht hm0 hm1 hna b1 hend hk0 hsN hkN hk1 hs1 hc1 hP1 hR hR1 hL hz hzf hr0 hN HZ0 HEND hB e1 hs4 hb4
  rcases hw with ⟨hx, rfl⟩ | ⟨hx, hp, rfl⟩ | ⟨hp, rfl, hx⟩
  · have q1 : decide (na > 400) = true := decide_eq_true hx
    have hp : (0 : Int) < 400 := by decide
    have q3 := HSN.out hp
    have HP0 := Kp.mk hp
    clear hx hp
    go_enter Tryd.func8, Tryd.ntmps8
    go_wp2_with fail
    rw [← HBq.out, EW.out]
    refine (KAW.out w1 BW1.out).mono ?_
    rintro e w2 ⟨rfl, hb⟩
    have BW2 := Kp.mk (BW1.out.trans (hb.mono BW1.out.size))
    have PB2 := Kp.mk (PB.out.later hb)
    clear hb KAW EW
    go_wp2_with (first
      | (with_reducible refine (KB1.out _).mono ?_; rintro e w6 ⟨rfl, hw6⟩; obtain rfl := hw6.symm; clear hw6)
      | (refine wpList_load_row rfl 32 _ rfl B rfl 32 R (0, 0) _ PB2.out Tryd.underlying32 rfl HIR.out.2.1 ?_))
    refine (K1.out _ BW2.out).mono ?_
    rintro e w3 ⟨v1, rfl, ho, hb⟩
    obtain ⟨a1, cap1, rfl, _⟩ := ho.rd hn
    have HO1 := Kp.mk ho
    have BW3 := Kp.mk (BW2.out.trans (hb.mono BW2.out.size))
    have PB3 := Kp.mk (PB2.out.later hb)
    clear ho hb K1 KB1
    go_wp2_with (first
      | (refine wpList_store_row rfl 32 _ _ rfl w3.heap.size R1 rfl rfl 32 _ (two_a w3) HIR1.out.2.1 HIR1.out.1 HIR1.out.2.2 ?_)
      | (refine wpList_store_row rfl 38 _ _ rfl (w3.heap.size + 1) (stopA k1 s1 c1) rfl rfl 38 _ (two_b w3 R1) (stopSize _ _ _) rfl (stop_one _ _ _) ?_; refine wpList_gen (F := fun W => Kp (TwoV w3 W R1 (stopA k1 s1 c1))) ⟨two_v w3 R1 _⟩ ?_; intro w4 HTw4; have BW4 := Kp.mk (BW3.out.trans (HTw4.out.below.mono BW3.out.size)); have PB4 := Kp.mk (PB3.out.later HTw4.out.below); have HO14 := Kp.mk (HO1.out.later HTw4.out.below))
      | (refine wpList_load_row rfl 32 _ rfl B rfl 32 R (0, 0) _ PB4.out Tryd.underlying32 rfl HIR.out.2.1 ?_))
    refine (K2.out _ BW4.out).mono ?_
    rintro e w5 ⟨pv, rfl, hrow, hb⟩
    obtain ⟨x, cx, rfl, hrd⟩ := wown_rd hrow (by have := HS4.out; omega)
    have HRW := Kp.mk hrd
    have BW5 := Kp.mk (BW4.out.trans (hb.mono BW4.out.size))
    have PB5 := Kp.mk (PB4.out.later hb)
    have HO15 := Kp.mk (HO14.out.later hb)
    have VA5 := Kp.mk (HTw4.out.a.later hb)
    have VB5 := Kp.mk (HTw4.out.b.later hb)
    have d0 := VB5.out.cell 0 _ rfl
    have d1 := VB5.out.cell 1 _ rfl
    have d2 := VB5.out.cell 2 _ rfl
    clear hrow hrd hb K2 HTw4 HO14 HO1
    go_wp2_with fail
    refine (KCP.out _ BW5.out).mono ?_
    rintro e w6 ⟨v6, rfl, ho, hb⟩
    obtain ⟨a6, cap6, rfl, hr6⟩ := ho.rd hn
    have HRD6 := Kp.mk hr6
    have BW6 := Kp.mk (BW5.out.trans (hb.mono BW5.out.size))
    have PB6 := Kp.mk (PB5.out.later hb)
    have HO16 := Kp.mk (HO15.out.later hb)
    have HRW6 := Kp.mk (HRW.out.later hb)
    have VA6 := Kp.mk (VA5.out.later hb)
    have VB6 := Kp.mk (VB5.out.later hb)
    clear ho hr6 hb KCP d0 d1 d2 HRW HO15 VA5 VB5
    go_wp2_with (first
      | (refine wpList_load_row rfl 32 _ rfl B rfl 32 R (0, 0) _ PB6.out Tryd.underlying32 rfl HIR.out.2.1 ?_)
      | (refine wpList_store_row rfl 32 _ _ rfl w6.heap.size R rfl rfl 32 _ (Blk.new w6 zRow _) HIR.out.2.1 HIR.out.1 HIR.out.2.2 ?_; refine wpList_gen (F := fun W => Kp (Blk W w6.heap.size R 32 ∧ Below w6.heap.size w6 W)) ⟨setRow_heap _ _ _ _ _ _ (Blk.new w6 zRow _), below_setRow (below_alloc _ _) (Nat.le_refl _) _⟩ ?_; intro w7 H7; have f7 := H7.out.1.free 0; have x7 := H7.out.1.cell 0 _ HR0.out))
    have HI0 : Kp (WalkI w6 (w7.setCell ⟨w6.heap.size, 0, none⟩ (.int .u32 0)) n (zf 0).P (zf 0).q.row.toArray (.slice a6 n cap6)) := ⟨⟨H7.out.2.setCell (p := ⟨w6.heap.size, 0, none⟩) (Nat.le_refl _) _, by rw [HZR.out]; exact H7.out.1.set 0 _, a6, cap6, rfl, by rw [HZP.out]; exact HRD6.out.later (H7.out.2.setCell (p := ⟨w6.heap.size, 0, none⟩) (Nat.le_refl _) _)⟩⟩
    clear H7 f7 x7 HR0 HRD6 HZR HZP
    go_loopw [12, 14] (fun mv iv wr => ∃ i : Nat, i ≤ s1 ∧ iv = .int .i64 (i : Int) ∧ Kp (WalkI w6 wr n (zf i).P (zf i).q.row.toArray mv)) (fun _ iv _ => s1 - (intOf iv).toNat)
    case atStart => exact ⟨0, Nat.zero_le _, rfl, HI0⟩
    case round =>
      obtain ⟨i, hi, rfl, HJ⟩ := hrel
      obtain ⟨am, cm, rfl, hrm⟩ := HJ.out.rd
      have HRM := Kp.mk hrm
      have VB := Kp.mk (VB6.out.later HJ.out.below)
      have d0 := VB.out.cell 0 _ rfl
      have d1 := VB.out.cell 1 _ rfl
      have d2 := VB.out.cell 2 _ rfl
      by_cases hlt : i < s1
      · have t1 : decide ((i : Int) < (s1 : Int)) = true := decide_eq_true (by omega)
        have t2 : (i : Int) < (s1 : Int) := by omega
        have t3 : (0 : Int) ≤ (i : Int) := by omega
        obtain ⟨g0, o0, ha0, hc0⟩ := (HRW6.out.later HJ.out.below).cells (by omega)
        subst ha0
        have dp := hc0 i hlt
        rw [HLG.out i hlt] at dp
        have dq := HJ.out.row.cell 16 _ (HRP.out i)
        have KSi := Kp.mk (KST.out i hlt)
        have HKC : Kp ((i + 1 < s1 → (zf (i + 1)).k = 0) ∧ (i + 1 = s1 → (zf (i + 1)).k = k1 ∧ (zf (i + 1)).c = c1)) := ⟨fun h => HK0.out _ h, fun h => by rw [h]; exact HE1.out.2.2⟩
        have HIa := Kp.mk (HRI.out i)
        have HIb := Kp.mk (HRI.out (i + 1))
        obtain ⟨pc, hpc⟩ : ∃ y, y = (zf i).q.pc := ⟨_, rfl⟩
        obtain ⟨Ra, hRa⟩ : ∃ y, y = (zf i).q.row.toArray := ⟨_, rfl⟩
        obtain ⟨Rb, hRb⟩ : ∃ y, y = (zf (i + 1)).q.row.toArray := ⟨_, rfl⟩
        obtain ⟨Pa, hPa⟩ : ∃ y, y = (zf i).P := ⟨_, rfl⟩
        obtain ⟨Pb, hPb⟩ : ∃ y, y = (zf (i + 1)).P := ⟨_, rfl⟩
        obtain ⟨k2, hk2⟩ : ∃ y, y = (zf (i + 1)).k := ⟨_, rfl⟩
        obtain ⟨c2, hc2⟩ : ∃ y, y = (zf (i + 1)).c := ⟨_, rfl⟩
        rw [← hpc] at dp dq
        rw [← hRa] at HJ KSi HIa
        rw [← hPa] at HJ KSi HRM
        rw [← hRb, ← hPb, ← hk2, ← hc2] at KSi
        rw [← hRb] at HIb
        rw [← hk2, ← hc2] at HKC
        have HRb := Kp.mk hRb
        have HPb := Kp.mk hPb
        have HLT3 := Kp.mk hlt
        have HI3 := Kp.mk hi
        clear hc0 hpc hRa hRb hPa hPb hk2 hc2 hi hlt hrm KST HLG HK0 HE1 HRI HRP he1 hg HKK
        go_wp2_with fail
        go_quiet (fail)
        refine then_gen (F := fun W => Kp (Below wr.heap.size wr W)) ⟨below_drewN (Below.refl _ _) _⟩ ?_
        intro w8 H8
        have HJ8 : Kp (Below w6.heap.size w6 w8) := ⟨HJ.out.below.trans (H8.out.mono HJ.out.below.size)⟩
        have BW8 : Kp (Below w.heap.size w w8) := ⟨BW6.out.trans (HJ8.out.mono BW6.out.size)⟩
        have HQ8 := Kp.mk (HJ.out.row.later H8.out)
        have HRM8 := Kp.mk (HRM.out.later H8.out)
        clear d0 d1 d2 dp dq t2 t3 HJ HRM VB H8
        go_wp2_with (first
          | (refine wpList_load_row rfl 32 _ rfl w6.heap.size rfl 32 Ra (0, 0) _ HQ8.out Tryd.underlying32 rfl HIa.out.2.1 ?_))
        refine (KSi.out _ _ w8 HRM8.out BW8.out).mono ?_
        rintro e w9 ⟨v9, rfl, ho, hb⟩
        obtain ⟨a9, cap9, rfl, hr9⟩ := ho.rd hn
        have HO9 := Kp.mk ho
        have HL9 : Kp (w6.heap.size < w8.heap.size) := ⟨HQ8.out.lt⟩
        have HJ9 : Kp (Below w6.heap.size w6 w9) := ⟨HJ8.out.trans (hb.mono HJ8.out.size)⟩
        have HQ9 := Kp.mk (HQ8.out.later hb)
        clear ho hb hr9 KSi HRM8 HJ8 BW8 HQ8
        by_cases hl2 : i + 1 < s1
        · have hk := HKC.out.1 hl2
          subst hk
          have g1 : decide ((i : Int) + 1 < (s1 : Int)) = true := decide_eq_true (by omega)
          have g2 : ((i : Int) + 1 == (s1 : Int)) = false := by rw [beq_eq_false_iff_ne]; omega
          have u1 : (i : Int) < 400 := by have := HLT3.out; have := HS4.out; omega
          have u2 : (0 : Int) ≤ (i : Int) := by omega
          clear HKC hl2
          go_wp2_with (first
            | go_skip
            | ((with_reducible refine wpl_store (32) (.tmp 16) ?_); refine wpList_store_row rfl 32 (.tmp 16) (.tmp 95) rfl w9.heap.size Rb rfl rfl 32 zRow (two_a w9) HIb.out.2.1 HIb.out.1 HIb.out.2.2 ?_)
            | ((with_reducible refine wpl_store (38) (.tmp 17) ?_); refine wpList_store_row rfl 38 (.tmp 17) (.tmp 96) rfl (w9.heap.size + 1) (stopA 0 1 c2) rfl rfl 38 st0 (two_b w9 Rb) (stopSize _ _ _) rfl (stop_one _ _ _) ?_; refine wpList_gen (F := fun W => Kp (TwoV w9 W Rb (stopA 0 1 c2))) ⟨two_v w9 Rb _⟩ ?_; intro w10 HT; have HJ10 := Kp.mk (HJ9.out.trans (HT.out.below.mono HJ9.out.size)); have HQ10 := Kp.mk (HQ9.out.later HT.out.below); have HO10 := Kp.mk (HO9.out.later HT.out.below); have VBn := VB6.out.later HJ10.out; have d0 := VBn.cell 0 _ rfl; have d1 := VBn.cell 1 _ rfl; have d2 := VBn.cell 2 _ rfl; have e0 := HT.out.b.cell 0 _ rfl; have e1 := HT.out.b.cell 1 _ rfl; have e2 := HT.out.b.cell 2 _ rfl; clear VBn)
            | ((with_reducible refine wpl_load (32) (.tmp 16) ?_); refine wpList_load_row rfl 32 (.tmp 16) rfl w9.heap.size rfl 32 Rb (0, 0) _ HT.out.a Tryd.underlying32 rfl HIb.out.2.1 ?_)
            | ((with_reducible refine wpl_store (32) (.tmp 13) ?_); refine wpList_store_row rfl 32 (.tmp 13) (.tmp 134) rfl w6.heap.size Rb rfl rfl 32 Ra HQ10.out HIb.out.2.1 (HIa.out.1.symm.trans HIb.out.1) HIb.out.2.2 ?_; refine wpList_gen (F := fun W => Kp (WalkI w6 W n Pb Rb (.slice a9 n cap9))) ⟨⟨below_setRow HJ10.out (Nat.le_refl _) _, setRow_heap _ _ _ _ _ _ HQ10.out, (HO10.out.setRow w6.heap.size Rb HL9.out).rd hn⟩⟩ ?_; intro w11 HW11))
          go_roundw
          case rel => exact ⟨i + 1, HLT3.out, by go_num, ⟨by rw [← HRb.out, ← HPb.out]; exact HW11.out⟩⟩
          case measure => have := HLT3.out; simp [intOf]; omega
        · have hl3 : i + 1 = s1 := by have := HLT3.out; omega
          obtain ⟨hk, hc⟩ := HKC.out.2 hl3
          have hk2 := hk.symm
          have hc2 := hc.symm
          clear hk hc
          subst hk2
          subst hc2
          have g1 : decide ((i : Int) + 1 < (s1 : Int)) = false := decide_eq_false (by omega)
          have g2 : ((i : Int) + 1 == (s1 : Int)) = true := by rw [beq_iff_eq]; omega
          have u1 : (i : Int) < 400 := by have := HLT3.out; have := HS4.out; omega
          have u2 : (0 : Int) ≤ (i : Int) := by omega
          clear HKC hl3 hl2
          go_wp2_with (first
            | go_skip
            | ((with_reducible refine wpl_store (32) (.tmp 16) ?_); refine wpList_store_row rfl 32 (.tmp 16) (.tmp 95) rfl w9.heap.size Rb rfl rfl 32 zRow (two_a w9) HIb.out.2.1 HIb.out.1 HIb.out.2.2 ?_)
            | ((with_reducible refine wpl_store (38) (.tmp 17) ?_); refine wpList_store_row rfl 38 (.tmp 17) (.tmp 96) rfl (w9.heap.size + 1) (stopA k1 1 c1) rfl rfl 38 st0 (two_b w9 Rb) (stopSize _ _ _) rfl (stop_one _ _ _) ?_; refine wpList_gen (F := fun W => Kp (TwoV w9 W Rb (stopA k1 1 c1))) ⟨two_v w9 Rb _⟩ ?_; intro w10 HT; have HJ10 := Kp.mk (HJ9.out.trans (HT.out.below.mono HJ9.out.size)); have HQ10 := Kp.mk (HQ9.out.later HT.out.below); have HO10 := Kp.mk (HO9.out.later HT.out.below); have VBn := VB6.out.later HJ10.out; have d0 := VBn.cell 0 _ rfl; have d1 := VBn.cell 1 _ rfl; have d2 := VBn.cell 2 _ rfl; have e0 := HT.out.b.cell 0 _ rfl; have e1 := HT.out.b.cell 1 _ rfl; have e2 := HT.out.b.cell 2 _ rfl; clear VBn)
            | ((with_reducible refine wpl_load (32) (.tmp 16) ?_); refine wpList_load_row rfl 32 (.tmp 16) rfl w9.heap.size rfl 32 Rb (0, 0) _ HT.out.a Tryd.underlying32 rfl HIb.out.2.1 ?_)
            | ((with_reducible refine wpl_store (32) (.tmp 13) ?_); refine wpList_store_row rfl 32 (.tmp 13) (.tmp 134) rfl w6.heap.size Rb rfl rfl 32 Ra HQ10.out HIb.out.2.1 (HIa.out.1.symm.trans HIb.out.1) HIb.out.2.2 ?_; refine wpList_gen (F := fun W => Kp (WalkI w6 W n Pb Rb (.slice a9 n cap9))) ⟨⟨below_setRow HJ10.out (Nat.le_refl _) _, setRow_heap _ _ _ _ _ _ HQ10.out, (HO10.out.setRow w6.heap.size Rb HL9.out).rd hn⟩⟩ ?_; intro w11 HW11))
          go_roundw
          case rel => exact ⟨i + 1, HLT3.out, by go_num, ⟨by rw [← HRb.out, ← HPb.out]; exact HW11.out⟩⟩
          case measure => have := HLT3.out; simp [intOf]; omega
      · have hi2 : s1 = i := by omega
        have t1 : decide ((i : Int) < (s1 : Int)) = false := decide_eq_false (by omega)
        have t2 : (s1 : Int) ≤ (i : Int) := by omega
        have HIE : Kp (i = s1) := ⟨hi2.symm⟩
        have hq := HJ.out.row
        have hm := HRM.out
        rw [HIE.out, HE1.out.1] at hq
        rw [HIE.out, HE1.out.2.1] at hm
        have HQ := Kp.mk hq
        have HRM1 := Kp.mk hm
        have HJB := Kp.mk HJ.out.below
        have VAr := Kp.mk (VA6.out.later HJ.out.below)
        obtain ⟨_, _, e1, r1⟩ := (HO16.out.later HJ.out.below).rd hn
        simp only [Value.slice.injEq, true_and] at e1
        obtain ⟨rfl, rfl⟩ := e1
        have HR1 := Kp.mk r1
        have hkk := HKK.out
        clear hq hm r1 HJ HRM hi hlt hi2 KST HLG HK0 HE1 HRI HRP HKK
        rcases hkk with hk | ⟨hk, hk2⟩
        · go_wp2_with (first
            | ((with_reducible refine wpl_load (32) (.tmp 13) ?_); (refine wpList_load_mid_g rfl 32 _ rfl w6.heap.size 0 rfl R1.toList _ (roww_range HQ.out) Tryd.underlying32 rfl (by simpa using HIR1.out.2.1) ?_))
            | ((with_reducible refine wpl_load (32) (.tmp 8) ?_); (refine wpList_load_mid_g rfl 32 _ rfl w3.heap.size 0 rfl R1.toList _ (roww_range VAr.out) Tryd.underlying32 rfl (by simpa using HIR1.out.2.1) ?_)))
          refine (ref_same am _ n cm _ P1 P1 wr HRM1.out HR1.out (fun _ _ => rfl)).mono ?_
          rintro e w12 ⟨rfl, hd⟩
          have HD := Kp.mk hd.below
          clear hd
          go_wp2_with fail
          go_ret
          exact ⟨rfl, BW6.out.trans ((HJB.out.trans (HD.out.mono HJB.out.size)).mono BW6.out.size)⟩
        · have hk3 := hk2 HP0.out
          clear hk2
          go_wp2_with (first
            | ((with_reducible refine wpl_load (32) (.tmp 13) ?_); (refine wpList_load_mid_g rfl 32 _ rfl w6.heap.size 0 rfl R1.toList _ (roww_range HQ.out) Tryd.underlying32 rfl (by simpa using HIR1.out.2.1) ?_))
            | ((with_reducible refine wpl_load (32) (.tmp 8) ?_); (refine wpList_load_mid_g rfl 32 _ rfl w3.heap.size 0 rfl R1.toList _ (roww_range VAr.out) Tryd.underlying32 rfl (by simpa using HIR1.out.2.1) ?_)))
          refine (ref_same am _ n cm _ P1 P1 wr HRM1.out HR1.out (fun _ _ => rfl)).mono ?_
          rintro e w12 ⟨rfl, hd⟩
          have HD := Kp.mk hd.below
          clear hd
          go_wp2_with fail
          go_ret
          exact ⟨rfl, BW6.out.trans ((HJB.out.trans (HD.out.mono HJB.out.size)).mono BW6.out.size)⟩
  · have q1 : decide (nb > 400) = false := decide_eq_false hx
    have q2 : decide (nb > 0) = true := decide_eq_true hp
    have q3 := HSN.out hp
    have q4 : decide (nb ≤ 0) = false := decide_eq_false (by omega)
    have HP0 := Kp.mk hp
    clear hx hp
    go_enter Tryd.func8, Tryd.ntmps8
    go_wp2_with fail
    rw [← HBq.out, EW.out]
    refine (KAW.out w1 BW1.out).mono ?_
    rintro e w2 ⟨rfl, hb⟩
    have BW2 := Kp.mk (BW1.out.trans (hb.mono BW1.out.size))
    have PB2 := Kp.mk (PB.out.later hb)
    clear hb KAW EW
    go_wp2_with (first
      | (with_reducible refine (KB1.out _).mono ?_; rintro e w6 ⟨rfl, hw6⟩; obtain rfl := hw6.symm; clear hw6)
      | (refine wpList_load_row rfl 32 _ rfl B rfl 32 R (0, 0) _ PB2.out Tryd.underlying32 rfl HIR.out.2.1 ?_))
    refine (K1.out _ BW2.out).mono ?_
    rintro e w3 ⟨v1, rfl, ho, hb⟩
    obtain ⟨a1, cap1, rfl, _⟩ := ho.rd hn
    have HO1 := Kp.mk ho
    have BW3 := Kp.mk (BW2.out.trans (hb.mono BW2.out.size))
    have PB3 := Kp.mk (PB2.out.later hb)
    clear ho hb K1 KB1
    go_wp2_with (first
      | (refine wpList_store_row rfl 32 _ _ rfl w3.heap.size R1 rfl rfl 32 _ (two_a w3) HIR1.out.2.1 HIR1.out.1 HIR1.out.2.2 ?_)
      | (refine wpList_store_row rfl 38 _ _ rfl (w3.heap.size + 1) (stopA k1 s1 c1) rfl rfl 38 _ (two_b w3 R1) (stopSize _ _ _) rfl (stop_one _ _ _) ?_; refine wpList_gen (F := fun W => Kp (TwoV w3 W R1 (stopA k1 s1 c1))) ⟨two_v w3 R1 _⟩ ?_; intro w4 HTw4; have BW4 := Kp.mk (BW3.out.trans (HTw4.out.below.mono BW3.out.size)); have PB4 := Kp.mk (PB3.out.later HTw4.out.below); have HO14 := Kp.mk (HO1.out.later HTw4.out.below))
      | (refine wpList_load_row rfl 32 _ rfl B rfl 32 R (0, 0) _ PB4.out Tryd.underlying32 rfl HIR.out.2.1 ?_))
    refine (K2.out _ BW4.out).mono ?_
    rintro e w5 ⟨pv, rfl, hrow, hb⟩
    obtain ⟨x, cx, rfl, hrd⟩ := wown_rd hrow (by have := HS4.out; omega)
    have HRW := Kp.mk hrd
    have BW5 := Kp.mk (BW4.out.trans (hb.mono BW4.out.size))
    have PB5 := Kp.mk (PB4.out.later hb)
    have HO15 := Kp.mk (HO14.out.later hb)
    have VA5 := Kp.mk (HTw4.out.a.later hb)
    have VB5 := Kp.mk (HTw4.out.b.later hb)
    have d0 := VB5.out.cell 0 _ rfl
    have d1 := VB5.out.cell 1 _ rfl
    have d2 := VB5.out.cell 2 _ rfl
    clear hrow hrd hb K2 HTw4 HO14 HO1
    go_wp2_with fail
    refine (KCP.out _ BW5.out).mono ?_
    rintro e w6 ⟨v6, rfl, ho, hb⟩
    obtain ⟨a6, cap6, rfl, hr6⟩ := ho.rd hn
    have HRD6 := Kp.mk hr6
    have BW6 := Kp.mk (BW5.out.trans (hb.mono BW5.out.size))
    have PB6 := Kp.mk (PB5.out.later hb)
    have HO16 := Kp.mk (HO15.out.later hb)
    have HRW6 := Kp.mk (HRW.out.later hb)
    have VA6 := Kp.mk (VA5.out.later hb)
    have VB6 := Kp.mk (VB5.out.later hb)
    clear ho hr6 hb KCP d0 d1 d2 HRW HO15 VA5 VB5
    go_wp2_with (first
      | (refine wpList_load_row rfl 32 _ rfl B rfl 32 R (0, 0) _ PB6.out Tryd.underlying32 rfl HIR.out.2.1 ?_)
      | (refine wpList_store_row rfl 32 _ _ rfl w6.heap.size R rfl rfl 32 _ (Blk.new w6 zRow _) HIR.out.2.1 HIR.out.1 HIR.out.2.2 ?_; refine wpList_gen (F := fun W => Kp (Blk W w6.heap.size R 32 ∧ Below w6.heap.size w6 W)) ⟨setRow_heap _ _ _ _ _ _ (Blk.new w6 zRow _), below_setRow (below_alloc _ _) (Nat.le_refl _) _⟩ ?_; intro w7 H7; have f7 := H7.out.1.free 0; have x7 := H7.out.1.cell 0 _ HR0.out))
    have HI0 : Kp (WalkI w6 (w7.setCell ⟨w6.heap.size, 0, none⟩ (.int .u32 0)) n (zf 0).P (zf 0).q.row.toArray (.slice a6 n cap6)) := ⟨⟨H7.out.2.setCell (p := ⟨w6.heap.size, 0, none⟩) (Nat.le_refl _) _, by rw [HZR.out]; exact H7.out.1.set 0 _, a6, cap6, rfl, by rw [HZP.out]; exact HRD6.out.later (H7.out.2.setCell (p := ⟨w6.heap.size, 0, none⟩) (Nat.le_refl _) _)⟩⟩
    clear H7 f7 x7 HR0 HRD6 HZR HZP
    go_loopw [12, 14] (fun mv iv wr => ∃ i : Nat, i ≤ s1 ∧ iv = .int .i64 (i : Int) ∧ Kp (WalkI w6 wr n (zf i).P (zf i).q.row.toArray mv)) (fun _ iv _ => s1 - (intOf iv).toNat)
    case atStart => exact ⟨0, Nat.zero_le _, rfl, HI0⟩
    case round =>
      obtain ⟨i, hi, rfl, HJ⟩ := hrel
      obtain ⟨am, cm, rfl, hrm⟩ := HJ.out.rd
      have HRM := Kp.mk hrm
      have VB := Kp.mk (VB6.out.later HJ.out.below)
      have d0 := VB.out.cell 0 _ rfl
      have d1 := VB.out.cell 1 _ rfl
      have d2 := VB.out.cell 2 _ rfl
      by_cases hlt : i < s1
      · have t1 : decide ((i : Int) < (s1 : Int)) = true := decide_eq_true (by omega)
        have t2 : (i : Int) < (s1 : Int) := by omega
        have t3 : (0 : Int) ≤ (i : Int) := by omega
        obtain ⟨g0, o0, ha0, hc0⟩ := (HRW6.out.later HJ.out.below).cells (by omega)
        subst ha0
        have dp := hc0 i hlt
        rw [HLG.out i hlt] at dp
        have dq := HJ.out.row.cell 16 _ (HRP.out i)
        have KSi := Kp.mk (KST.out i hlt)
        have HKC : Kp ((i + 1 < s1 → (zf (i + 1)).k = 0) ∧ (i + 1 = s1 → (zf (i + 1)).k = k1 ∧ (zf (i + 1)).c = c1)) := ⟨fun h => HK0.out _ h, fun h => by rw [h]; exact HE1.out.2.2⟩
        have HIa := Kp.mk (HRI.out i)
        have HIb := Kp.mk (HRI.out (i + 1))
        obtain ⟨pc, hpc⟩ : ∃ y, y = (zf i).q.pc := ⟨_, rfl⟩
        obtain ⟨Ra, hRa⟩ : ∃ y, y = (zf i).q.row.toArray := ⟨_, rfl⟩
        obtain ⟨Rb, hRb⟩ : ∃ y, y = (zf (i + 1)).q.row.toArray := ⟨_, rfl⟩
        obtain ⟨Pa, hPa⟩ : ∃ y, y = (zf i).P := ⟨_, rfl⟩
        obtain ⟨Pb, hPb⟩ : ∃ y, y = (zf (i + 1)).P := ⟨_, rfl⟩
        obtain ⟨k2, hk2⟩ : ∃ y, y = (zf (i + 1)).k := ⟨_, rfl⟩
        obtain ⟨c2, hc2⟩ : ∃ y, y = (zf (i + 1)).c := ⟨_, rfl⟩
        rw [← hpc] at dp dq
        rw [← hRa] at HJ KSi HIa
        rw [← hPa] at HJ KSi HRM
        rw [← hRb, ← hPb, ← hk2, ← hc2] at KSi
        rw [← hRb] at HIb
        rw [← hk2, ← hc2] at HKC
        have HRb := Kp.mk hRb
        have HPb := Kp.mk hPb
        have HLT3 := Kp.mk hlt
        have HI3 := Kp.mk hi
        clear hc0 hpc hRa hRb hPa hPb hk2 hc2 hi hlt hrm KST HLG HK0 HE1 HRI HRP he1 hg HKK
        go_wp2_with fail
        go_quiet (fail)
        refine then_gen (F := fun W => Kp (Below wr.heap.size wr W)) ⟨below_drewN (Below.refl _ _) _⟩ ?_
        intro w8 H8
        have HJ8 : Kp (Below w6.heap.size w6 w8) := ⟨HJ.out.below.trans (H8.out.mono HJ.out.below.size)⟩
        have BW8 : Kp (Below w.heap.size w w8) := ⟨BW6.out.trans (HJ8.out.mono BW6.out.size)⟩
        have HQ8 := Kp.mk (HJ.out.row.later H8.out)
        have HRM8 := Kp.mk (HRM.out.later H8.out)
        clear d0 d1 d2 dp dq t2 t3 HJ HRM VB H8
        go_wp2_with (first
          | (refine wpList_load_row rfl 32 _ rfl w6.heap.size rfl 32 Ra (0, 0) _ HQ8.out Tryd.underlying32 rfl HIa.out.2.1 ?_))
        refine (KSi.out _ _ w8 HRM8.out BW8.out).mono ?_
        rintro e w9 ⟨v9, rfl, ho, hb⟩
        obtain ⟨a9, cap9, rfl, hr9⟩ := ho.rd hn
        have HO9 := Kp.mk ho
        have HL9 : Kp (w6.heap.size < w8.heap.size) := ⟨HQ8.out.lt⟩
        have HJ9 : Kp (Below w6.heap.size w6 w9) := ⟨HJ8.out.trans (hb.mono HJ8.out.size)⟩
        have HQ9 := Kp.mk (HQ8.out.later hb)
        clear ho hb hr9 KSi HRM8 HJ8 BW8 HQ8
        by_cases hl2 : i + 1 < s1
        · have hk := HKC.out.1 hl2
          subst hk
          have g1 : decide ((i : Int) + 1 < (s1 : Int)) = true := decide_eq_true (by omega)
          have g2 : ((i : Int) + 1 == (s1 : Int)) = false := by rw [beq_eq_false_iff_ne]; omega
          have u1 : (i : Int) < 400 := by have := HLT3.out; have := HS4.out; omega
          have u2 : (0 : Int) ≤ (i : Int) := by omega
          clear HKC hl2
          go_wp2_with (first
            | go_skip
            | ((with_reducible refine wpl_store (32) (.tmp 16) ?_); refine wpList_store_row rfl 32 (.tmp 16) (.tmp 95) rfl w9.heap.size Rb rfl rfl 32 zRow (two_a w9) HIb.out.2.1 HIb.out.1 HIb.out.2.2 ?_)
            | ((with_reducible refine wpl_store (38) (.tmp 17) ?_); refine wpList_store_row rfl 38 (.tmp 17) (.tmp 96) rfl (w9.heap.size + 1) (stopA 0 1 c2) rfl rfl 38 st0 (two_b w9 Rb) (stopSize _ _ _) rfl (stop_one _ _ _) ?_; refine wpList_gen (F := fun W => Kp (TwoV w9 W Rb (stopA 0 1 c2))) ⟨two_v w9 Rb _⟩ ?_; intro w10 HT; have HJ10 := Kp.mk (HJ9.out.trans (HT.out.below.mono HJ9.out.size)); have HQ10 := Kp.mk (HQ9.out.later HT.out.below); have HO10 := Kp.mk (HO9.out.later HT.out.below); have VBn := VB6.out.later HJ10.out; have d0 := VBn.cell 0 _ rfl; have d1 := VBn.cell 1 _ rfl; have d2 := VBn.cell 2 _ rfl; have e0 := HT.out.b.cell 0 _ rfl; have e1 := HT.out.b.cell 1 _ rfl; have e2 := HT.out.b.cell 2 _ rfl; clear VBn)
            | ((with_reducible refine wpl_load (32) (.tmp 16) ?_); refine wpList_load_row rfl 32 (.tmp 16) rfl w9.heap.size rfl 32 Rb (0, 0) _ HT.out.a Tryd.underlying32 rfl HIb.out.2.1 ?_)
            | ((with_reducible refine wpl_store (32) (.tmp 13) ?_); refine wpList_store_row rfl 32 (.tmp 13) (.tmp 134) rfl w6.heap.size Rb rfl rfl 32 Ra HQ10.out HIb.out.2.1 (HIa.out.1.symm.trans HIb.out.1) HIb.out.2.2 ?_; refine wpList_gen (F := fun W => Kp (WalkI w6 W n Pb Rb (.slice a9 n cap9))) ⟨⟨below_setRow HJ10.out (Nat.le_refl _) _, setRow_heap _ _ _ _ _ _ HQ10.out, (HO10.out.setRow w6.heap.size Rb HL9.out).rd hn⟩⟩ ?_; intro w11 HW11))
          go_roundw
          case rel => exact ⟨i + 1, HLT3.out, by go_num, ⟨by rw [← HRb.out, ← HPb.out]; exact HW11.out⟩⟩
          case measure => have := HLT3.out; simp [intOf]; omega
        · have hl3 : i + 1 = s1 := by have := HLT3.out; omega
          obtain ⟨hk, hc⟩ := HKC.out.2 hl3
          have hk2 := hk.symm
          have hc2 := hc.symm
          clear hk hc
          subst hk2
          subst hc2
          have g1 : decide ((i : Int) + 1 < (s1 : Int)) = false := decide_eq_false (by omega)
          have g2 : ((i : Int) + 1 == (s1 : Int)) = true := by rw [beq_iff_eq]; omega
          have u1 : (i : Int) < 400 := by have := HLT3.out; have := HS4.out; omega
          have u2 : (0 : Int) ≤ (i : Int) := by omega
          clear HKC hl3 hl2
          go_wp2_with (first
            | go_skip
            | ((with_reducible refine wpl_store (32) (.tmp 16) ?_); refine wpList_store_row rfl 32 (.tmp 16) (.tmp 95) rfl w9.heap.size Rb rfl rfl 32 zRow (two_a w9) HIb.out.2.1 HIb.out.1 HIb.out.2.2 ?_)
            | ((with_reducible refine wpl_store (38) (.tmp 17) ?_); refine wpList_store_row rfl 38 (.tmp 17) (.tmp 96) rfl (w9.heap.size + 1) (stopA k1 1 c1) rfl rfl 38 st0 (two_b w9 Rb) (stopSize _ _ _) rfl (stop_one _ _ _) ?_; refine wpList_gen (F := fun W => Kp (TwoV w9 W Rb (stopA k1 1 c1))) ⟨two_v w9 Rb _⟩ ?_; intro w10 HT; have HJ10 := Kp.mk (HJ9.out.trans (HT.out.below.mono HJ9.out.size)); have HQ10 := Kp.mk (HQ9.out.later HT.out.below); have HO10 := Kp.mk (HO9.out.later HT.out.below); have VBn := VB6.out.later HJ10.out; have d0 := VBn.cell 0 _ rfl; have d1 := VBn.cell 1 _ rfl; have d2 := VBn.cell 2 _ rfl; have e0 := HT.out.b.cell 0 _ rfl; have e1 := HT.out.b.cell 1 _ rfl; have e2 := HT.out.b.cell 2 _ rfl; clear VBn)
            | ((with_reducible refine wpl_load (32) (.tmp 16) ?_); refine wpList_load_row rfl 32 (.tmp 16) rfl w9.heap.size rfl 32 Rb (0, 0) _ HT.out.a Tryd.underlying32 rfl HIb.out.2.1 ?_)
            | ((with_reducible refine wpl_store (32) (.tmp 13) ?_); refine wpList_store_row rfl 32 (.tmp 13) (.tmp 134) rfl w6.heap.size Rb rfl rfl 32 Ra HQ10.out HIb.out.2.1 (HIa.out.1.symm.trans HIb.out.1) HIb.out.2.2 ?_; refine wpList_gen (F := fun W => Kp (WalkI w6 W n Pb Rb (.slice a9 n cap9))) ⟨⟨below_setRow HJ10.out (Nat.le_refl _) _, setRow_heap _ _ _ _ _ _ HQ10.out, (HO10.out.setRow w6.heap.size Rb HL9.out).rd hn⟩⟩ ?_; intro w11 HW11))
          go_roundw
          case rel => exact ⟨i + 1, HLT3.out, by go_num, ⟨by rw [← HRb.out, ← HPb.out]; exact HW11.out⟩⟩
          case measure => have := HLT3.out; simp [intOf]; omega
      · have hi2 : s1 = i := by omega
        have t1 : decide ((i : Int) < (s1 : Int)) = false := decide_eq_false (by omega)
        have t2 : (s1 : Int) ≤ (i : Int) := by omega
        have HIE : Kp (i = s1) := ⟨hi2.symm⟩
        have hq := HJ.out.row
        have hm := HRM.out
        rw [HIE.out, HE1.out.1] at hq
        rw [HIE.out, HE1.out.2.1] at hm
        have HQ := Kp.mk hq
        have HRM1 := Kp.mk hm
        have HJB := Kp.mk HJ.out.below
        have VAr := Kp.mk (VA6.out.later HJ.out.below)
        obtain ⟨_, _, e1, r1⟩ := (HO16.out.later HJ.out.below).rd hn
        simp only [Value.slice.injEq, true_and] at e1
        obtain ⟨rfl, rfl⟩ := e1
        have HR1 := Kp.mk r1
        have hkk := HKK.out
        clear hq hm r1 HJ HRM hi hlt hi2 KST HLG HK0 HE1 HRI HRP HKK
        rcases hkk with hk | ⟨hk, hk2⟩
        · go_wp2_with (first
            | ((with_reducible refine wpl_load (32) (.tmp 13) ?_); (refine wpList_load_mid_g rfl 32 _ rfl w6.heap.size 0 rfl R1.toList _ (roww_range HQ.out) Tryd.underlying32 rfl (by simpa using HIR1.out.2.1) ?_))
            | ((with_reducible refine wpl_load (32) (.tmp 8) ?_); (refine wpList_load_mid_g rfl 32 _ rfl w3.heap.size 0 rfl R1.toList _ (roww_range VAr.out) Tryd.underlying32 rfl (by simpa using HIR1.out.2.1) ?_)))
          refine (ref_same am _ n cm _ P1 P1 wr HRM1.out HR1.out (fun _ _ => rfl)).mono ?_
          rintro e w12 ⟨rfl, hd⟩
          have HD := Kp.mk hd.below
          clear hd
          go_wp2_with fail
          go_ret
          exact ⟨rfl, BW6.out.trans ((HJB.out.trans (HD.out.mono HJB.out.size)).mono BW6.out.size)⟩
        · have hk3 := hk2 HP0.out
          clear hk2
          go_wp2_with (first
            | ((with_reducible refine wpl_load (32) (.tmp 13) ?_); (refine wpList_load_mid_g rfl 32 _ rfl w6.heap.size 0 rfl R1.toList _ (roww_range HQ.out) Tryd.underlying32 rfl (by simpa using HIR1.out.2.1) ?_))
            | ((with_reducible refine wpl_load (32) (.tmp 8) ?_); (refine wpList_load_mid_g rfl 32 _ rfl w3.heap.size 0 rfl R1.toList _ (roww_range VAr.out) Tryd.underlying32 rfl (by simpa using HIR1.out.2.1) ?_)))
          refine (ref_same am _ n cm _ P1 P1 wr HRM1.out HR1.out (fun _ _ => rfl)).mono ?_
          rintro e w12 ⟨rfl, hd⟩
          have HD := Kp.mk hd.below
          clear hd
          go_wp2_with fail
          go_ret
          exact ⟨rfl, BW6.out.trans ((HJB.out.trans (HD.out.mono HJB.out.size)).mono BW6.out.size)⟩
  · have q1 : decide (nb > 400) = false := decide_eq_false hx
    have q2 : decide (nb > 0) = false := decide_eq_false (by omega)
    have q4 : decide (nb ≤ 0) = true := decide_eq_true hp
    obtain ⟨z1, z2, z3⟩ := HN0.out hp
    subst z1
    subst z2
    subst z3
    clear hx hp
    go_enter Tryd.func8, Tryd.ntmps8
    go_wp2_with fail
    rw [← HBq.out, EW.out]
    refine (KAW.out w1 BW1.out).mono ?_
    rintro e w2 ⟨rfl, hb⟩
    have BW2 := Kp.mk (BW1.out.trans (hb.mono BW1.out.size))
    have PB2 := Kp.mk (PB.out.later hb)
    clear hb KAW EW
    go_wp2_with (first
      | (with_reducible refine (KB1.out _).mono ?_; rintro e w6 ⟨rfl, hw6⟩; obtain rfl := hw6.symm; clear hw6)
      | (refine wpList_load_row rfl 32 _ rfl B rfl 32 R (0, 0) _ PB2.out Tryd.underlying32 rfl HIR.out.2.1 ?_))
    refine (K1.out _ BW2.out).mono ?_
    rintro e w3 ⟨v1, rfl, ho, hb⟩
    obtain ⟨a1, cap1, rfl, _⟩ := ho.rd hn
    have HO1 := Kp.mk ho
    have BW3 := Kp.mk (BW2.out.trans (hb.mono BW2.out.size))
    have PB3 := Kp.mk (PB2.out.later hb)
    clear ho hb K1 KB1
    go_wp2_with (first
      | (refine wpList_store_row rfl 32 _ _ rfl w3.heap.size R1 rfl rfl 32 _ (two_a w3) HIR1.out.2.1 HIR1.out.1 HIR1.out.2.2 ?_)
      | (refine wpList_store_row rfl 38 _ _ rfl (w3.heap.size + 1) (stopA 0 0 0) rfl rfl 38 _ (two_b w3 R1) (stopSize _ _ _) rfl (stop_one _ _ _) ?_; refine wpList_gen (F := fun W => Kp (TwoV w3 W R1 (stopA 0 0 0))) ⟨two_v w3 R1 _⟩ ?_; intro w4 HTw4; have BW4 := Kp.mk (BW3.out.trans (HTw4.out.below.mono BW3.out.size)); have PB4 := Kp.mk (PB3.out.later HTw4.out.below); have HO14 := Kp.mk (HO1.out.later HTw4.out.below))
      | (refine wpList_load_row rfl 32 _ rfl B rfl 32 R (0, 0) _ PB4.out Tryd.underlying32 rfl HIR.out.2.1 ?_))
    refine (K2.out _ BW4.out).mono ?_
    rintro e w5 ⟨pv, rfl, hrow, hb⟩
    obtain ⟨x, cx, rfl, hrd⟩ := wown_rd hrow (by have := HS4.out; omega)
    have HRW := Kp.mk hrd
    have BW5 := Kp.mk (BW4.out.trans (hb.mono BW4.out.size))
    have PB5 := Kp.mk (PB4.out.later hb)
    have HO15 := Kp.mk (HO14.out.later hb)
    have VA5 := Kp.mk (HTw4.out.a.later hb)
    have VB5 := Kp.mk (HTw4.out.b.later hb)
    have d0 := VB5.out.cell 0 _ rfl
    have d1 := VB5.out.cell 1 _ rfl
    have d2 := VB5.out.cell 2 _ rfl
    clear hrow hrd hb K2 HTw4 HO14 HO1
    go_wp2_with fail
    refine (KCP.out _ BW5.out).mono ?_
    rintro e w6 ⟨v6, rfl, ho, hb⟩
    obtain ⟨a6, cap6, rfl, hr6⟩ := ho.rd hn
    have HRD6 := Kp.mk hr6
    have BW6 := Kp.mk (BW5.out.trans (hb.mono BW5.out.size))
    have PB6 := Kp.mk (PB5.out.later hb)
    have HO16 := Kp.mk (HO15.out.later hb)
    have HRW6 := Kp.mk (HRW.out.later hb)
    have VA6 := Kp.mk (VA5.out.later hb)
    have VB6 := Kp.mk (VB5.out.later hb)
    clear ho hr6 hb KCP d0 d1 d2 HRW HO15 VA5 VB5
    go_wp2_with (first
      | (refine wpList_load_row rfl 32 _ rfl B rfl 32 R (0, 0) _ PB6.out Tryd.underlying32 rfl HIR.out.2.1 ?_)
      | (refine wpList_store_row rfl 32 _ _ rfl w6.heap.size R rfl rfl 32 _ (Blk.new w6 zRow _) HIR.out.2.1 HIR.out.1 HIR.out.2.2 ?_; refine wpList_gen (F := fun W => Kp (Blk W w6.heap.size R 32 ∧ Below w6.heap.size w6 W)) ⟨setRow_heap _ _ _ _ _ _ (Blk.new w6 zRow _), below_setRow (below_alloc _ _) (Nat.le_refl _) _⟩ ?_; intro w7 H7; have f7 := H7.out.1.free 0; have x7 := H7.out.1.cell 0 _ HR0.out))
    have HI0 : Kp (WalkI w6 (w7.setCell ⟨w6.heap.size, 0, none⟩ (.int .u32 0)) n (zf 0).P (zf 0).q.row.toArray (.slice a6 n cap6)) := ⟨⟨H7.out.2.setCell (p := ⟨w6.heap.size, 0, none⟩) (Nat.le_refl _) _, by rw [HZR.out]; exact H7.out.1.set 0 _, a6, cap6, rfl, by rw [HZP.out]; exact HRD6.out.later (H7.out.2.setCell (p := ⟨w6.heap.size, 0, none⟩) (Nat.le_refl _) _)⟩⟩
    clear H7 f7 x7 HR0 HRD6 HZR HZP
    go_loopw [12, 14] (fun mv iv wr => ∃ i : Nat, i ≤ 0 ∧ iv = .int .i64 (i : Int) ∧ Kp (WalkI w6 wr n (zf i).P (zf i).q.row.toArray mv)) (fun _ iv _ => 0 - (intOf iv).toNat)
    case atStart => exact ⟨0, Nat.zero_le _, rfl, HI0⟩
    case round =>
      obtain ⟨i, hi, rfl, HJ⟩ := hrel
      obtain ⟨am, cm, rfl, hrm⟩ := HJ.out.rd
      have HRM := Kp.mk hrm
      have VB := Kp.mk (VB6.out.later HJ.out.below)
      have d0 := VB.out.cell 0 _ rfl
      have d1 := VB.out.cell 1 _ rfl
      have d2 := VB.out.cell 2 _ rfl
      by_cases hlt : i < 0
      · exact absurd hlt (Nat.not_lt_zero _)
      · have hi2 : 0 = i := by omega
        have t1 : decide ((i : Int) < (0 : Int)) = false := decide_eq_false (by omega)
        have t2 : (0 : Int) ≤ (i : Int) := by omega
        have HIE : Kp (i = 0) := ⟨hi2.symm⟩
        have hq := HJ.out.row
        have hm := HRM.out
        rw [HIE.out, HE1.out.1] at hq
        rw [HIE.out, HE1.out.2.1] at hm
        have HQ := Kp.mk hq
        have HRM1 := Kp.mk hm
        have HJB := Kp.mk HJ.out.below
        have VAr := Kp.mk (VA6.out.later HJ.out.below)
        obtain ⟨_, _, e1, r1⟩ := (HO16.out.later HJ.out.below).rd hn
        simp only [Value.slice.injEq, true_and] at e1
        obtain ⟨rfl, rfl⟩ := e1
        have HR1 := Kp.mk r1
        have hkk := HKK.out
        clear hq hm r1 HJ HRM hi hlt hi2 KST HLG HK0 HE1 HRI HRP HKK
        clear hkk
        go_wp2_with (first
          | ((with_reducible refine wpl_load (32) (.tmp 13) ?_); (refine wpList_load_mid_g rfl 32 _ rfl w6.heap.size 0 rfl R1.toList _ (roww_range HQ.out) Tryd.underlying32 rfl (by simpa using HIR1.out.2.1) ?_))
          | ((with_reducible refine wpl_load (32) (.tmp 8) ?_); (refine wpList_load_mid_g rfl 32 _ rfl w3.heap.size 0 rfl R1.toList _ (roww_range VAr.out) Tryd.underlying32 rfl (by simpa using HIR1.out.2.1) ?_)))
        refine (ref_same am _ n cm _ P1 P1 wr HRM1.out HR1.out (fun _ _ => rfl)).mono ?_
        rintro e w12 ⟨rfl, hd⟩
        have HD := Kp.mk hd.below
        clear hd
        go_wp2_with fail
        go_ret
        exact ⟨rfl, BW6.out.trans ((HJB.out.trans (HD.out.mono HJB.out.size)).mono BW6.out.size)⟩
end Go.Proofs.YtadikbmbadldpaaDoor
