
/- core.Run, walked (printed by gen_corerun.py). -/
import Derived.Test.YtadikbmbadldpaaDoorMachRun
namespace Go.Proofs.YtadikbmbadldpaaDoor
open Go Go.RowKit
set_option linter.unusedVariables false
set_option linter.unusedSimpArgs false

/-- A run as it goes: the pages, the process, why it stopped, the code, the steps taken. -/
structure RunV where
  P : Nat → PageV
  q : ProcV
  k : Nat
  c : Int
  s : Nat
def itV (n : Nat) (P : Nat → PageV) (q : ProcV) : Nat → RunV
  | 0 => ⟨P, q, 0, 0, 0⟩
  | i + 1 => if (itV n P q i).k = 0 then ⟨(stepV n (itV n P q i).P (itV n P q i).q).P, (stepV n (itV n P q i).P (itV n P q i).q).q, (stepV n (itV n P q i).P (itV n P q i).q).k, (stepV n (itV n P q i).P (itV n P q i).q).c, (itV n P q i).s + 1⟩ else itV n P q i
theorem itV_steps {n : Nat} {P : Nat → PageV} {q : ProcV} {i : Nat} (h : (itV n P q i).k = 0) : (itV n P q i).s = i := by
  induction i with
  | zero => rfl
  | succ i ih =>
    by_cases h0 : (itV n P q i).k = 0
    · rw [itV, if_pos h0]
      exact congrArg (· + 1) (ih h0)
    · rw [itV, if_neg h0] at h
      exact absurd h h0
theorem itV_stop {n : Nat} {P : Nat → PageV} {q : ProcV} {i : Nat} (h : (itV n P q i).k ≠ 0) : ∀ j, i ≤ j → itV n P q j = itV n P q i := by
  intro j hj
  induction j with
  | zero => rw [show i = 0 by omega]
  | succ j ih =>
    by_cases e : i = j + 1
    · rw [e]
    · have := ih (by omega)
      rw [itV, this, if_neg h]
theorem itV_next {n : Nat} {P : Nat → PageV} {q : ProcV} {i : Nat} (h : (itV n P q i).k = 0) : itV n P q (i + 1) = ⟨(stepV n (itV n P q i).P (itV n P q i).q).P, (stepV n (itV n P q i).P (itV n P q i).q).q, (stepV n (itV n P q i).P (itV n P q i).q).k, (stepV n (itV n P q i).P (itV n P q i).q).c, (itV n P q i).s + 1⟩ := by
  rw [itV, if_pos h]
abbrev stopA (k : Nat) (s : Nat) (c : Int) : Array Value := #[.int .i64 (k : Int), .int .i64 (s : Int), .int .i64 c]
theorem stopSize (k s : Nat) (c : Int) : (Tryd.prog.info? 38).map (·.size) = some (stopA k s c).size := by kernel_rfl
abbrev zBase (W : World) (g : Nat) (cs : Array Value) : BaseW := ⟨W, [(g, cs, 38)]⟩
theorem St.withStop {W w : World} {b : Nat} {v : Value} {n : Nat} {P : Nat → PageV} {q : ProcV} (h : St ⟨W, []⟩ w b v n P q) (g : Nat) (cs : Array Value) (hb : Blk w g cs 38) (h1 : g ≠ b) (h2 : v.ownBlock ≠ some g) : St (zBase W g cs) w b v n P q :=
  ⟨h.mach, h.own, h.far, h.base, h.below, fun c hc => by
    simp only [List.mem_cons, List.not_mem_nil, or_false] at hc
    subst hc
    exact ⟨hb, h1, h2⟩⟩
theorem St.stop {W w : World} {g : Nat} {cs : Array Value} {b : Nat} {v : Value} {n : Nat} {P : Nat → PageV} {q : ProcV} (h : St (zBase W g cs) w b v n P q) : Blk w g cs 38 ∧ g ≠ b ∧ v.ownBlock ≠ some g := h.keep (g, cs, 38) (by simp)
theorem St.setStop {W w : World} {g : Nat} {x0 x1 x2 : Value} {b : Nat} {v : Value} {n : Nat} {P : Nat → PageV} {q : ProcV} (h : St (zBase W g #[x0, x1, x2]) w b v n P q) (hg : W.heap.size ≤ g) (y0 y1 y2 : Value) :
    St (zBase W g #[y0, y1, y2]) (((w.setCell ⟨g, 0, none⟩ y0).setCell ⟨g, 2, none⟩ y2).setCell ⟨g, 1, none⟩ y1) b v n P q := by
  obtain ⟨h1, h2, h3⟩ := h.stop
  refine ⟨((Blk.other h.mach g 0 y0 (Ne.symm h2)).other g 2 y2 (Ne.symm h2)).other g 1 y1 (Ne.symm h2), ((h.own.other g 0 y0 h3).other g 2 y2 h3).other g 1 y1 h3, h.far, h.base, ((h.below.setCell (p := ⟨g, 0, none⟩) hg y0).setCell (p := ⟨g, 2, none⟩) hg y2).setCell (p := ⟨g, 1, none⟩) hg y1, fun c hc => ?_⟩
  simp only [List.mem_cons, List.not_mem_nil, or_false] at hc
  subst hc
  have := ((h1.set 0 y0).set 2 y2).set 1 y1
  exact ⟨this, h2, h3⟩
theorem MachAt.range {w : World} {b : Nat} {v : Value} {q : ProcV} (h : MachAt w b v q) : w.rangeAt b 1 q.row := fun j u hu => by
  refine Blk.cell h (1 + j) u ?_
  simpa [Nat.add_comm 1 j] using hu
theorem OwnP.setRow {w : World} {B : Nat} {v : Value} {n : Nat} {P : Nat → PageV} (h : OwnP w B v n P) (g : Nat) (cs : Array Value) (hg : g < B) : OwnP (w.setRow g cs) B v n P := by
  refine ⟨h.1, ?_⟩
  rcases h.2 with h' | ⟨g', cap, cur, hv, hb, hh, r⟩
  · exact .inl h'
  · exact .inr ⟨g', cap, cur, hv, hb, (setRow_other _ _ _ _ (by omega)).trans hh, r⟩
theorem resRun {fn : Func} {p c1 c2 : Tmp} {ty1 ty2 : TypeId} {w : World} {g1 g2 : Nat} {T1 T2 : TypeId} {cs1 cs2 : Array Value} (h : fn.results = #[.tmp p, .cell c1 ty1, .cell c2 ty2]) (tmps : Array Value) (h1 : tmps.getD c1 undef = .pointer (some ⟨g1, 0, none⟩)) (h2 : tmps.getD c2 undef = .pointer (some ⟨g2, 0, none⟩))
    (hg1 : Blk w g1 cs1 T1) (hg2 : Blk w g2 cs2 T2) (fs1 fs2 : Array Field) (hu1 : Tryd.prog.underlying ty1 = some (.struct fs1)) (hu2 : Tryd.prog.underlying ty2 = some (.struct fs2)) (hi1 : (Tryd.prog.info? ty1).map (·.size) = some cs1.size) (hi2 : (Tryd.prog.info? ty2).map (·.size) = some cs2.size) :
    (results fn tmps).run Tryd.prog w = .ok (.tuple #[tmps.getD p undef, .agg cs1, .agg cs2]) w := by
  have h1' : tmps[c1]?.getD undef = .pointer (some ⟨g1, 0, none⟩) := by simpa using h1
  have h2' : tmps[c2]?.getD undef = .pointer (some ⟨g2, 0, none⟩) := by simpa using h2
  simp [results, h, h1', h2', asAddr, run_loadVar_row w g1 T1 ty1 cs1 (0, 0) _ hg1 hu1 rfl hi1, run_loadVar_row w g2 T2 ty2 cs2 (0, 0) _ hg2 hu2 rfl hi2]
abbrev zRow : Array Value := #[.int .u32 0, .int .u32 0, .int .u32 0, .int .u32 0, .int .u32 0, .int .u32 0, .int .u32 0, .int .u32 0, .int .u32 0, .int .u32 0, .int .u32 0, .int .u32 0, .int .u32 0, .int .u32 0, .int .u32 0, .int .u32 0, .int .u32 0, .int .i64 0, .int .i64 0, .int .i64 0, .int .i64 0]
set_option maxRecDepth 100000 in
set_option maxHeartbeats 8000000 in
theorem core_run (A : Nat → Addr) (a : Option Addr) (n cap : Nat) (P : Nat → PageV) (q : ProcV) (most : Int) (hm : most < 9223372036854775808) (w : World) (h : RdP w a n cap P) (hE : Errs w [4, 7, 20] A) (ht : BlankT w) :
    Calls Tryd.prog 15 #[.slice a n cap, .agg q.row.toArray, .int .i64 most] w fun e w' => ∃ v, e = .returned (.tuple #[v, .agg (itV n P (q.put 0 0#32) most.toNat).q.row.toArray, .agg (stopA (itV n P (q.put 0 0#32) most.toNat).k (itV n P (q.put 0 0#32) most.toNat).s (itV n P (q.put 0 0#32) most.toNat).c)]) ∧ OwnP w' w.heap.size v n (itV n P (q.put 0 0#32) most.toNat).P ∧ Below w.heap.size w w' := by
  have hn := h.bound
  obtain ⟨w1, e1⟩ : ∃ w1, w1 = w.alloc (.cells q.row.toArray 32) := ⟨_, rfl⟩
  obtain ⟨w2, e2⟩ : ∃ w2, w2 = w1.alloc (.cells zRow 32) := ⟨_, rfl⟩
  obtain ⟨w3, e3⟩ : ∃ w3, w3 = w2.alloc (.cells (stopA 0 0 0) 38) := ⟨_, rfl⟩
  obtain ⟨B, hB⟩ : ∃ B, B = w.heap.size := ⟨_, rfl⟩
  have s1 : w1.heap.size = B + 1 := by rw [e1, hB]; simp
  have s2 : w2.heap.size = B + 2 := by rw [e2]; simp [s1]
  have s3 : w3.heap.size = B + 3 := by rw [e3]; simp [s2]
  have b1 : Below B w w1 := by rw [e1, hB]; exact below_alloc _ _
  have b2 : Below w1.heap.size w1 w2 := by rw [e2]; exact below_alloc _ _
  have b3 : Below w2.heap.size w2 w3 := by rw [e3]; exact below_alloc _ _
  have b13 : Below w1.heap.size w1 w3 := b2.trans (b3.mono (by omega))
  have b03 : Below B w w3 := b1.trans (b13.mono (by omega))
  have U0 : Kp (PrAt w3 B q) := ⟨Blk.later (by rw [e1, hB]; exact Blk.new _ _ _) b13⟩
  have U1 : Kp (Blk w3 (B + 1) zRow 32) := ⟨Blk.later (by rw [e2, ← s1]; exact Blk.new _ _ _) b3⟩
  have U2 : Kp (Blk w3 (B + 2) (stopA 0 0 0) 38) := ⟨by rw [e3, ← s2]; exact Blk.new _ _ _⟩
  have KO := Kp.mk (core_own a n cap P q w3 (h.later (hB ▸ b03)))
  have KE : Kp (Errs w3 [4, 7, 20] A) := ⟨hE.later (hB ▸ b03)⟩
  have KT : Kp (BlankT w3) := ⟨ht.later (hB ▸ b03)⟩
  have B03 := Kp.mk b03
  have S3 := Kp.mk s3
  have HBq := Kp.mk hB
  have EQ : Kp (w3 = ((w.alloc (.cells q.row.toArray 32)).alloc (.cells zRow 32)).alloc (.cells (stopA 0 0 0) 38)) := ⟨by rw [e3, e2, e1]⟩
  obtain ⟨qs, hqs⟩ : ∃ qs, qs = q.put 0 0#32 := ⟨_, rfl⟩
  rw [← hqs] at KO ⊢
  obtain ⟨N, hN⟩ : ∃ N, N = most.toNat := ⟨_, rfl⟩
  rw [← hN]
  have HN := Kp.mk hN
  clear h hE ht e1 e2 e3 s1 s2 s3 b1 b2 b3 b13 b03 hB hqs hN
  go_enter Tryd.func15, Tryd.ntmps15
  have U0' : Kp (Blk (((w.alloc (.cells q.row.toArray 32)).alloc (.cells zRow 32)).alloc (.cells (stopA 0 0 0) 38)) w.heap.size q.row.toArray 32) := ⟨by rw [← EQ.out, ← HBq.out]; exact U0.out⟩
  go_wp2_with (refine wpList_load_row rfl 32 _ rfl w.heap.size rfl 32 q.row.toArray (0, 0) _ U0'.out Tryd.underlying32 rfl (prSizeA q) ?_)
  rw [show (((w.alloc (.cells q.row.toArray 32)).alloc (.cells zRow 32)).alloc (.cells #[.int .i64 0, .int .i64 0, .int .i64 0] 38)) = w3 from EQ.out.symm]
  refine KO.out.mono ?_
  rintro e w4 ⟨b, v, rfl, hst⟩
  obtain ⟨w5, e5⟩ : ∃ w5, w5 = w4.alloc (.cells (stopA 0 0 0) 38) := ⟨_, rfl⟩
  obtain ⟨gs, hgs⟩ : ∃ gs, gs = w4.heap.size := ⟨_, rfl⟩
  have hI : St (zBase w3 gs (stopA 0 0 0)) w5 b v n P qs := by
    rw [e5, hgs]
    exact (hst.later (below_alloc _ _)).withStop w4.heap.size _ (Blk.new _ _ _) (Ne.symm (Nat.ne_of_lt hst.lt)) (ownP_far hst.own)
  have HI := Kp.mk hI
  have HGB : Kp (w3.heap.size ≤ gs) := ⟨by rw [hgs]; exact hst.below.size⟩
  have hb8 : B + 2 < w3.heap.size := by rw [S3.out]; omega
  have hb7 : B + 1 < w3.heap.size := by rw [S3.out]; omega
  have HBL : Kp (b ≠ B + 1 ∧ b ≠ B + 2 ∧ gs ≠ B + 1 ∧ gs ≠ B + 2) := ⟨by
    have h1 : w3.heap.size ≤ b := hst.base
    have h2 := HGB.out
    omega⟩
  have HW5 : Kp (w4.alloc (.cells #[.int .i64 0, .int .i64 0, .int .i64 0] 38) = w5) := ⟨e5.symm⟩
  have HGS := Kp.mk hgs
  clear hst hI e5 KO U0 U0' hgs
  go_wp2_with fail
  rw [HW5.out, ← HGS.out]
  rw [← HBq.out, show B + 1 + 1 = B + 2 from rfl]
  clear HW5 HGS
  go_loopw [16] (fun _ wr => ∃ i : Nat, i ≤ N ∧ Kp ((itV n P qs i).s = i ∧ (i = 0 ∨ True)) ∧ Kp (St (zBase w3 gs (stopA (itV n P qs i).k (itV n P qs i).s (itV n P qs i).c)) wr b v n (itV n P qs i).P (itV n P qs i).q)) (fun _ wr => N - (intOf ((wr.cell? ⟨gs, 1, none⟩).getD (.int .i64 0))).toNat)
  case atStart => exact ⟨0, by omega, ⟨rfl, .inr trivial⟩, HI⟩
  case round =>
    obtain ⟨i, hi, HS, HJ⟩ := hrel
    obtain ⟨z, hz⟩ : ∃ z, z = itV n P qs i := ⟨_, rfl⟩
    rw [← hz] at HS HJ
    rw [HS.out.1] at HJ
    have HZ := Kp.mk hz
    have HSP := HJ.out.stop
    have d0 := HSP.1.cell 0 _ rfl
    have d1 := HSP.1.cell 1 _ rfl
    have d2 := HSP.1.cell 2 _ rfl
    have HIN := Kp.mk hi
    clear hz HSP hi
    by_cases hlt : i < N
    · have t1 : decide ((i : Int) < most) = true := decide_eq_true (by have := HN.out; omega)
      have t3 : (i : Int) < 9223372036854775807 := by have := HN.out; omega
      by_cases hk : z.k = 0
      · have t2 : ((z.k : Int) == 0) = true := by rw [hk]; rfl
        have KST := Kp.mk (core_step A HJ.out hn KE.out KT.out)
        have HNX : Kp (itV n P qs (i + 1) = ⟨(stepV n z.P z.q).P, (stepV n z.P z.q).q, (stepV n z.P z.q).k, (stepV n z.P z.q).c, i + 1⟩) := ⟨by
          rw [itV_next (by rw [← HZ.out]; exact hk), ← HZ.out, HS.out.1]⟩
        obtain ⟨o, ho⟩ : ∃ o, o = stepV n z.P z.q := ⟨_, rfl⟩
        rw [← ho] at KST HNX
        obtain ⟨ok, hok⟩ : ∃ ok : Int, ok = (o.k : Int) := ⟨_, rfl⟩
        rw [← hok] at KST
        have HOK := Kp.mk hok
        have D1 := Kp.mk d1
        have HLT := Kp.mk hlt
        clear hk ho hok HJ hlt
        go_wp2_with (first
          | (go_at_call 29; (with_reducible refine KST.out.mono ?_); rintro e w6 ⟨rfl, hst⟩; have H6 := Kp.mk hst; have HSQ := hst.stop; clear d0 d1 d2; have d0 := HSQ.1.cell 0 _ rfl; have d1 := HSQ.1.cell 1 _ rfl; have d2 := HSQ.1.cell 2 _ rfl; have f0 := HSQ.1.free 0; have f1 := HSQ.1.free 1; have f2 := HSQ.1.free 2; clear hst HSQ))
        have J6 := Kp.mk (H6.out.setStop HGB.out (.int .i64 ok) (.int .i64 ((i : Int) + 1)) (.int .i64 o.c))
        go_roundw
        case rel =>
          refine ⟨i + 1, by have := HLT.out; omega, ⟨by rw [HNX.out], .inr trivial⟩, ⟨?_⟩⟩
          rw [HNX.out]
          have := J6.out
          rw [HOK.out] at this ⊢
          exact this
        case measure =>
          have h1 := HLT.out
          have e1 := J6.out.stop.1.cell 1 _ rfl
          rw [e1, D1.out]
          simp [intOf]
          omega
      · have t2 : ((z.k : Int) == 0) = false := by rw [beq_eq_false_iff_ne]; omega
        have HZN : Kp (itV n P qs N = z) := ⟨by rw [itV_stop (i := i) (by rw [← HZ.out]; exact hk) N (by omega), HZ.out]⟩
        clear hk hlt t3
        have VB7 : Kp (Blk wr (B + 1) zRow 32) := ⟨(HJ.out.below.block _ (by rw [S3.out]; omega)).trans U1.out⟩
        have VB8 : Kp (Blk wr (B + 2) (stopA 0 0 0) 38) := ⟨(HJ.out.below.block _ (by rw [S3.out]; omega)).trans U2.out⟩
        have HMS : Kp (∀ w', Below wr.heap.size wr w' → MachAt w' b v z.q ∧ Blk w' gs (stopA z.k i z.c) 38) := ⟨fun w' hw => ⟨HJ.out.mach.later hw, HJ.out.stop.1.later hw⟩⟩
        go_wp2_with fail
        clear d0 d1 d2
        refine wp_region_held_drew (S := fun w' => MachAt w' b v z.q ∧ Blk w' gs (stopA z.k i z.c) 38) (by kernel_rfl) (HMS.out _ (Drew.once _).below) (fun hHeld => ?_)
        refine wpAnyH_take (i := 0) (v := ?v0a) rfl (by kernel_rfl) (by kernel_rfl) (by kernel_rfl) (fun _ _ _ h => h) (Or.inl ⟨by rfl, ?hy0a⟩) (by assumption) ?rest0a
        case hy0a => (intro w0 hSw; have s0 := hSw.1.pages; (try dsimp only at hSw); (try simp only [List.getElem_toArray, List.getElem_cons_zero, List.getElem_cons_succ]); go_simp) <;> (with_reducible rfl)
        try simp only [Act.put, List.getElem_toArray, List.getElem_cons_zero, List.getElem_cons_succ, List.setIfInBounds_toArray, List.set_cons_zero, List.set_cons_succ]
        refine wpAnyH_take (i := 1) (v := ?v1a) rfl (by kernel_rfl) (by kernel_rfl) (by kernel_rfl) (fun _ _ _ h => h) (Or.inl ⟨by rfl, ?hy1a⟩) (by assumption) ?rest1a
        case hy1a => (intro w0 hSw; have s0 := hSw.1.pages; (try dsimp only at hSw); (try simp only [List.getElem_toArray, List.getElem_cons_zero, List.getElem_cons_succ]); go_simp) <;> (with_reducible rfl)
        try simp only [Act.put, List.getElem_toArray, List.getElem_cons_zero, List.getElem_cons_succ, List.setIfInBounds_toArray, List.set_cons_zero, List.set_cons_succ]
        refine wpAnyH_take (i := 2) (v := ?v2a) rfl (by kernel_rfl) (by kernel_rfl) (by kernel_rfl) (fun _ _ _ h => h) (Or.inl ⟨by rfl, ?hy2a⟩) (by assumption) ?rest2a
        case hy2a => (intro w0 hSw; have s0 := hSw.1.pages; (try dsimp only at hSw); (try simp only [List.getElem_toArray, List.getElem_cons_zero, List.getElem_cons_succ]); go_simp) <;> (with_reducible rfl)
        try simp only [Act.put, List.getElem_toArray, List.getElem_cons_zero, List.getElem_cons_succ, List.setIfInBounds_toArray, List.set_cons_zero, List.set_cons_succ]
        refine wpAnyH_take (i := 3) (v := ?v3a) rfl (by kernel_rfl) (by kernel_rfl) (by kernel_rfl) (fun _ _ _ h => h) (Or.inl ⟨by rfl, ?hy3a⟩) (by assumption) ?rest3a
        case hy3a => (intro w0 hSw; have s0 := hSw.1.pages; (try dsimp only at hSw); (try simp only [List.getElem_toArray, List.getElem_cons_zero, List.getElem_cons_succ]); go_simp) <;> (with_reducible rfl)
        try simp only [Act.put, List.getElem_toArray, List.getElem_cons_zero, List.getElem_cons_succ, List.setIfInBounds_toArray, List.set_cons_zero, List.set_cons_succ]
        refine wpAnyH_take (i := 4) (v := ?v4a) rfl (by kernel_rfl) (by kernel_rfl) (by kernel_rfl) (fun _ _ _ h => h) (Or.inl ⟨by rfl, ?hy4a⟩) (by assumption) ?rest4a
        case hy4a => (intro w0 hSw; have s0 := hSw.1.pages; (try dsimp only at hSw); (try simp only [List.getElem_toArray, List.getElem_cons_zero, List.getElem_cons_succ]); go_simp) <;> (with_reducible rfl)
        try simp only [Act.put, List.getElem_toArray, List.getElem_cons_zero, List.getElem_cons_succ, List.setIfInBounds_toArray, List.set_cons_zero, List.set_cons_succ]
        refine wpAnyH_take (i := 5) (v := ?v5a) rfl (by kernel_rfl) (by kernel_rfl) (by kernel_rfl) (fun _ _ _ h => h) (Or.inl ⟨by rfl, ?hy5a⟩) (by assumption) ?rest5a
        case hy5a => (intro w0 hSw; have s0 := hSw.1.pages; (try dsimp only at hSw); (try simp only [List.getElem_toArray, List.getElem_cons_zero, List.getElem_cons_succ]); go_simp) <;> (with_reducible rfl)
        try simp only [Act.put, List.getElem_toArray, List.getElem_cons_zero, List.getElem_cons_succ, List.setIfInBounds_toArray, List.set_cons_zero, List.set_cons_succ]
        refine wpAnyH_take (i := 6) (v := ?v6a) rfl (by kernel_rfl) (by kernel_rfl) (by kernel_rfl) (fun _ _ _ h => h) (Or.inl ⟨by rfl, ?hy6a⟩) (by assumption) ?rest6a
        case hy6a => (intro w0 hSw; have s0 := hSw.1.pages; (try dsimp only at hSw); (try simp only [List.getElem_toArray, List.getElem_cons_zero, List.getElem_cons_succ]); go_simp) <;> (with_reducible rfl)
        try simp only [Act.put, List.getElem_toArray, List.getElem_cons_zero, List.getElem_cons_succ, List.setIfInBounds_toArray, List.set_cons_zero, List.set_cons_succ]
        refine wpAnyH_take (i := 7) rfl (by kernel_rfl) (by kernel_rfl) (by kernel_rfl) (fun _ _ _ h => h) (yieldsIf_load_mid (by rfl) 32 _ rfl b 1 rfl z.q.row _ (fun _ h => h.1.range) Tryd.underlying32 rfl (prSize z.q)) (by assumption) ?_
        try simp only [Act.put, List.getElem_toArray, List.getElem_cons_zero, List.getElem_cons_succ, List.setIfInBounds_toArray, List.set_cons_zero, List.set_cons_succ]
        refine wpAnyH_take (i := 8) (v := ?v8a) rfl (by kernel_rfl) (by kernel_rfl) (by kernel_rfl) (fun _ _ _ h => h) (Or.inl ⟨by rfl, ?hy8a⟩) (by assumption) ?rest8a
        case hy8a => (intro w0 hSw; have s0 := hSw.2.cell 0 _ rfl; have s1 := hSw.2.cell 1 _ rfl; have s2 := hSw.2.cell 2 _ rfl; (try dsimp only at hSw); (try simp only [List.getElem_toArray, List.getElem_cons_zero, List.getElem_cons_succ]); go_simp) <;> (with_reducible rfl)
        try simp only [Act.put, List.getElem_toArray, List.getElem_cons_zero, List.getElem_cons_succ, List.setIfInBounds_toArray, List.set_cons_zero, List.set_cons_succ]
        refine wpAnyH_take (i := 9) (v := ?v9a) rfl (by kernel_rfl) (by kernel_rfl) (by kernel_rfl) (fun _ _ _ h => h) (Or.inl ⟨by rfl, ?hy9a⟩) (by assumption) ?rest9a
        case hy9a => (intro w0 hSw; have s0 := hSw.1.pages; (try dsimp only at hSw); (try simp only [List.getElem_toArray, List.getElem_cons_zero, List.getElem_cons_succ]); go_simp) <;> (with_reducible rfl)
        try simp only [Act.put, List.getElem_toArray, List.getElem_cons_zero, List.getElem_cons_succ, List.setIfInBounds_toArray, List.set_cons_zero, List.set_cons_succ]
        refine wpAnyH_ready (rs := [10]) (by kernel_rfl) (by simp) ?_
        refine AllReadyH.cons rfl (fun K hK => ?_) AllReadyH.nil
        refine step_store_row rfl 32 _ _ rfl (B + 1) z.q.row.toArray rfl rfl 32 _ VB7.out.drew (prSizeA z.q) (by show 21 = z.q.row.toArray.size; rw [List.size_toArray, ProcV.row_length]) (row_all_one z.q) ?_
        refine hK.out _ _ ⟨(setRow_other _ _ _ _ HBL.out.1).trans hHeld.1, (setRow_other _ _ _ _ HBL.out.2.2.1).trans hHeld.2⟩ (fun hHeld2 => ?_)
        clear hK K
        refine wpAnyH_ready (rs := [11]) (by kernel_rfl) (by simp) ?_
        refine AllReadyH.cons rfl (fun K hK => ?_) AllReadyH.nil
        have VC8 : Blk (wr.drew.setRow (B + 1) z.q.row.toArray) (B + 2) (stopA 0 0 0) 38 := (setRow_other _ _ _ _ (by omega)).trans VB8.out.drew
        refine step_store_row rfl 38 _ _ rfl (B + 2) (stopA z.k i z.c) rfl rfl 38 _ VC8 (stopSize _ _ _) rfl (by simp [Value.oneCell']) ?_
        refine hK.out _ _ ⟨(setRow_other _ _ _ _ HBL.out.2.1).trans hHeld2.1, (setRow_other _ _ _ _ HBL.out.2.2.2).trans hHeld2.2⟩ (fun hHeld3 => ?_)
        clear hK K
        refine wpAnyH_done (by kernel_rfl) ?_ _
        go_wp2_with fail
        have R8 : Blk ((wr.drew.setRow (B + 1) z.q.row.toArray).setRow (B + 2) (stopA z.k i z.c)) (B + 2) (stopA z.k i z.c) 38 := setRow_heap _ _ _ _ _ _ VC8
        have R7 : PrAt ((wr.drew.setRow (B + 1) z.q.row.toArray).setRow (B + 2) (stopA z.k i z.c)) (B + 1) z.q := (setRow_other _ _ _ _ (by omega)).trans (setRow_heap _ _ _ _ _ _ VB7.out.drew)
        refine bodyPost_ret (resRun rfl _ rfl rfl R7 R8 _ _ Tryd.underlying32 Tryd.underlying38 (prSizeA z.q) (stopSize _ _ _)) rfl ?_
        have hb0 : Below w.heap.size w wr := by
          rw [← HBq.out]
          exact B03.out.trans (HJ.out.below.mono (by rw [S3.out]; omega))
        refine ⟨v, by rw [HZN.out, HS.out.1]; rfl, ?_, below_setRow (below_setRow hb0.drew (by rw [HBq.out]; omega) _) (by rw [HBq.out]; omega) _⟩
        rw [HZN.out]
        have ho : OwnP wr w3.heap.size v n z.P := HJ.out.own
        exact ((((ho.later (Drew.once _).below).setRow (B + 1) _ (by rw [S3.out]; omega)).setRow (B + 2) _ (by rw [S3.out]; omega))).mono (by rw [S3.out, HBq.out]; omega)
    · have t1 : decide ((i : Int) < most) = false := decide_eq_false (by have := HN.out; omega)
      have HZN : Kp (itV n P qs N = z) := ⟨by rw [HZ.out, show i = N by have := HIN.out; omega]⟩
      clear hlt
      have VB7 : Kp (Blk wr (B + 1) zRow 32) := ⟨(HJ.out.below.block _ (by rw [S3.out]; omega)).trans U1.out⟩
      have VB8 : Kp (Blk wr (B + 2) (stopA 0 0 0) 38) := ⟨(HJ.out.below.block _ (by rw [S3.out]; omega)).trans U2.out⟩
      have HMS : Kp (∀ w', Below wr.heap.size wr w' → MachAt w' b v z.q ∧ Blk w' gs (stopA z.k i z.c) 38) := ⟨fun w' hw => ⟨HJ.out.mach.later hw, HJ.out.stop.1.later hw⟩⟩
      go_wp2_with fail
      clear d0 d1 d2
      refine wp_region_held_drew (S := fun w' => MachAt w' b v z.q ∧ Blk w' gs (stopA z.k i z.c) 38) (by kernel_rfl) (HMS.out _ (Drew.once _).below) (fun hHeld => ?_)
      refine wpAnyH_take (i := 0) (v := ?v0b) rfl (by kernel_rfl) (by kernel_rfl) (by kernel_rfl) (fun _ _ _ h => h) (Or.inl ⟨by rfl, ?hy0b⟩) (by assumption) ?rest0b
      case hy0b => (intro w0 hSw; have s0 := hSw.1.pages; (try dsimp only at hSw); (try simp only [List.getElem_toArray, List.getElem_cons_zero, List.getElem_cons_succ]); go_simp) <;> (with_reducible rfl)
      try simp only [Act.put, List.getElem_toArray, List.getElem_cons_zero, List.getElem_cons_succ, List.setIfInBounds_toArray, List.set_cons_zero, List.set_cons_succ]
      refine wpAnyH_take (i := 1) (v := ?v1b) rfl (by kernel_rfl) (by kernel_rfl) (by kernel_rfl) (fun _ _ _ h => h) (Or.inl ⟨by rfl, ?hy1b⟩) (by assumption) ?rest1b
      case hy1b => (intro w0 hSw; have s0 := hSw.1.pages; (try dsimp only at hSw); (try simp only [List.getElem_toArray, List.getElem_cons_zero, List.getElem_cons_succ]); go_simp) <;> (with_reducible rfl)
      try simp only [Act.put, List.getElem_toArray, List.getElem_cons_zero, List.getElem_cons_succ, List.setIfInBounds_toArray, List.set_cons_zero, List.set_cons_succ]
      refine wpAnyH_take (i := 2) (v := ?v2b) rfl (by kernel_rfl) (by kernel_rfl) (by kernel_rfl) (fun _ _ _ h => h) (Or.inl ⟨by rfl, ?hy2b⟩) (by assumption) ?rest2b
      case hy2b => (intro w0 hSw; have s0 := hSw.1.pages; (try dsimp only at hSw); (try simp only [List.getElem_toArray, List.getElem_cons_zero, List.getElem_cons_succ]); go_simp) <;> (with_reducible rfl)
      try simp only [Act.put, List.getElem_toArray, List.getElem_cons_zero, List.getElem_cons_succ, List.setIfInBounds_toArray, List.set_cons_zero, List.set_cons_succ]
      refine wpAnyH_take (i := 3) (v := ?v3b) rfl (by kernel_rfl) (by kernel_rfl) (by kernel_rfl) (fun _ _ _ h => h) (Or.inl ⟨by rfl, ?hy3b⟩) (by assumption) ?rest3b
      case hy3b => (intro w0 hSw; have s0 := hSw.1.pages; (try dsimp only at hSw); (try simp only [List.getElem_toArray, List.getElem_cons_zero, List.getElem_cons_succ]); go_simp) <;> (with_reducible rfl)
      try simp only [Act.put, List.getElem_toArray, List.getElem_cons_zero, List.getElem_cons_succ, List.setIfInBounds_toArray, List.set_cons_zero, List.set_cons_succ]
      refine wpAnyH_take (i := 4) (v := ?v4b) rfl (by kernel_rfl) (by kernel_rfl) (by kernel_rfl) (fun _ _ _ h => h) (Or.inl ⟨by rfl, ?hy4b⟩) (by assumption) ?rest4b
      case hy4b => (intro w0 hSw; have s0 := hSw.1.pages; (try dsimp only at hSw); (try simp only [List.getElem_toArray, List.getElem_cons_zero, List.getElem_cons_succ]); go_simp) <;> (with_reducible rfl)
      try simp only [Act.put, List.getElem_toArray, List.getElem_cons_zero, List.getElem_cons_succ, List.setIfInBounds_toArray, List.set_cons_zero, List.set_cons_succ]
      refine wpAnyH_take (i := 5) (v := ?v5b) rfl (by kernel_rfl) (by kernel_rfl) (by kernel_rfl) (fun _ _ _ h => h) (Or.inl ⟨by rfl, ?hy5b⟩) (by assumption) ?rest5b
      case hy5b => (intro w0 hSw; have s0 := hSw.1.pages; (try dsimp only at hSw); (try simp only [List.getElem_toArray, List.getElem_cons_zero, List.getElem_cons_succ]); go_simp) <;> (with_reducible rfl)
      try simp only [Act.put, List.getElem_toArray, List.getElem_cons_zero, List.getElem_cons_succ, List.setIfInBounds_toArray, List.set_cons_zero, List.set_cons_succ]
      refine wpAnyH_take (i := 6) (v := ?v6b) rfl (by kernel_rfl) (by kernel_rfl) (by kernel_rfl) (fun _ _ _ h => h) (Or.inl ⟨by rfl, ?hy6b⟩) (by assumption) ?rest6b
      case hy6b => (intro w0 hSw; have s0 := hSw.1.pages; (try dsimp only at hSw); (try simp only [List.getElem_toArray, List.getElem_cons_zero, List.getElem_cons_succ]); go_simp) <;> (with_reducible rfl)
      try simp only [Act.put, List.getElem_toArray, List.getElem_cons_zero, List.getElem_cons_succ, List.setIfInBounds_toArray, List.set_cons_zero, List.set_cons_succ]
      refine wpAnyH_take (i := 7) rfl (by kernel_rfl) (by kernel_rfl) (by kernel_rfl) (fun _ _ _ h => h) (yieldsIf_load_mid (by rfl) 32 _ rfl b 1 rfl z.q.row _ (fun _ h => h.1.range) Tryd.underlying32 rfl (prSize z.q)) (by assumption) ?_
      try simp only [Act.put, List.getElem_toArray, List.getElem_cons_zero, List.getElem_cons_succ, List.setIfInBounds_toArray, List.set_cons_zero, List.set_cons_succ]
      refine wpAnyH_take (i := 8) (v := ?v8b) rfl (by kernel_rfl) (by kernel_rfl) (by kernel_rfl) (fun _ _ _ h => h) (Or.inl ⟨by rfl, ?hy8b⟩) (by assumption) ?rest8b
      case hy8b => (intro w0 hSw; have s0 := hSw.2.cell 0 _ rfl; have s1 := hSw.2.cell 1 _ rfl; have s2 := hSw.2.cell 2 _ rfl; (try dsimp only at hSw); (try simp only [List.getElem_toArray, List.getElem_cons_zero, List.getElem_cons_succ]); go_simp) <;> (with_reducible rfl)
      try simp only [Act.put, List.getElem_toArray, List.getElem_cons_zero, List.getElem_cons_succ, List.setIfInBounds_toArray, List.set_cons_zero, List.set_cons_succ]
      refine wpAnyH_take (i := 9) (v := ?v9b) rfl (by kernel_rfl) (by kernel_rfl) (by kernel_rfl) (fun _ _ _ h => h) (Or.inl ⟨by rfl, ?hy9b⟩) (by assumption) ?rest9b
      case hy9b => (intro w0 hSw; have s0 := hSw.1.pages; (try dsimp only at hSw); (try simp only [List.getElem_toArray, List.getElem_cons_zero, List.getElem_cons_succ]); go_simp) <;> (with_reducible rfl)
      try simp only [Act.put, List.getElem_toArray, List.getElem_cons_zero, List.getElem_cons_succ, List.setIfInBounds_toArray, List.set_cons_zero, List.set_cons_succ]
      refine wpAnyH_ready (rs := [10]) (by kernel_rfl) (by simp) ?_
      refine AllReadyH.cons rfl (fun K hK => ?_) AllReadyH.nil
      refine step_store_row rfl 32 _ _ rfl (B + 1) z.q.row.toArray rfl rfl 32 _ VB7.out.drew (prSizeA z.q) (by show 21 = z.q.row.toArray.size; rw [List.size_toArray, ProcV.row_length]) (row_all_one z.q) ?_
      refine hK.out _ _ ⟨(setRow_other _ _ _ _ HBL.out.1).trans hHeld.1, (setRow_other _ _ _ _ HBL.out.2.2.1).trans hHeld.2⟩ (fun hHeld2 => ?_)
      clear hK K
      refine wpAnyH_ready (rs := [11]) (by kernel_rfl) (by simp) ?_
      refine AllReadyH.cons rfl (fun K hK => ?_) AllReadyH.nil
      have VC8 : Blk (wr.drew.setRow (B + 1) z.q.row.toArray) (B + 2) (stopA 0 0 0) 38 := (setRow_other _ _ _ _ (by omega)).trans VB8.out.drew
      refine step_store_row rfl 38 _ _ rfl (B + 2) (stopA z.k i z.c) rfl rfl 38 _ VC8 (stopSize _ _ _) rfl (by simp [Value.oneCell']) ?_
      refine hK.out _ _ ⟨(setRow_other _ _ _ _ HBL.out.2.1).trans hHeld2.1, (setRow_other _ _ _ _ HBL.out.2.2.2).trans hHeld2.2⟩ (fun hHeld3 => ?_)
      clear hK K
      refine wpAnyH_done (by kernel_rfl) ?_ _
      go_wp2_with fail
      have R8 : Blk ((wr.drew.setRow (B + 1) z.q.row.toArray).setRow (B + 2) (stopA z.k i z.c)) (B + 2) (stopA z.k i z.c) 38 := setRow_heap _ _ _ _ _ _ VC8
      have R7 : PrAt ((wr.drew.setRow (B + 1) z.q.row.toArray).setRow (B + 2) (stopA z.k i z.c)) (B + 1) z.q := (setRow_other _ _ _ _ (by omega)).trans (setRow_heap _ _ _ _ _ _ VB7.out.drew)
      refine bodyPost_ret (resRun rfl _ rfl rfl R7 R8 _ _ Tryd.underlying32 Tryd.underlying38 (prSizeA z.q) (stopSize _ _ _)) rfl ?_
      have hb0 : Below w.heap.size w wr := by
        rw [← HBq.out]
        exact B03.out.trans (HJ.out.below.mono (by rw [S3.out]; omega))
      refine ⟨v, by rw [HZN.out, HS.out.1]; rfl, ?_, below_setRow (below_setRow hb0.drew (by rw [HBq.out]; omega) _) (by rw [HBq.out]; omega) _⟩
      rw [HZN.out]
      have ho : OwnP wr w3.heap.size v n z.P := HJ.out.own
      exact ((((ho.later (Drew.once _).below).setRow (B + 1) _ (by rw [S3.out]; omega)).setRow (B + 2) _ (by rw [S3.out]; omega))).mono (by rw [S3.out, HBq.out]; omega)
end Go.Proofs.YtadikbmbadldpaaDoor
