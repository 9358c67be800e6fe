
/- RunsBase: merged of CoreRun, CorePath, ProcEq, WalksPlain, RefRun, CoreAwake, CoreStep1, RefRun2, IsWalk, CodeWalk, AsWalk (mergeset.py). -/
import Derived.Test.YtadikbmbadldpaaGreatDoorMachRun
import Derived.Test.YtadikbmbadldpaaGreatDoorStepDoc
import Derived.DeepKeys
import Derived.Laws.StructEq
import Derived.Test.YtadikbmbadldpaaGreatDoorStepWalk
import Derived.Test.YtadikbmbadldpaaGreatDoorLaid
import Derived.Test.YtadikbmbadldpaaGreatDoorDrew
import Derived.Stop.Asserts
import Derived.LaidHandle
namespace Go.Proofs.YtadikbmbadldpaaGreatDoor
open Go Go.RowKit
set_option linter.unusedVariables false
set_option linter.unusedSimpArgs false

/-- A run as it goes: the pages, the process, why it stopped, the code, the steps taken. -/
structure RunV where
  P : Nat → PageV
  q : ProcV
  k : Nat
  c : Int
  s : Nat
def itV (n : Nat) (P : Nat → PageV) (q : ProcV) : Nat → RunV
  | 0 => ⟨P, q, 0, 0, 0⟩
  | i + 1 => if (itV n P q i).k = 0 then ⟨(stepV n (itV n P q i).P (itV n P q i).q).P, (stepV n (itV n P q i).P (itV n P q i).q).q, (stepV n (itV n P q i).P (itV n P q i).q).k, (stepV n (itV n P q i).P (itV n P q i).q).c, (itV n P q i).s + 1⟩ else itV n P q i
theorem itV_steps {n : Nat} {P : Nat → PageV} {q : ProcV} {i : Nat} (h : (itV n P q i).k = 0) : (itV n P q i).s = i := by
  induction i with
  | zero => rfl
  | succ i ih =>
    by_cases h0 : (itV n P q i).k = 0
    · rw [itV, if_pos h0]
      exact congrArg (· + 1) (ih h0)
    · rw [itV, if_neg h0] at h
      exact absurd h h0
theorem itV_stop {n : Nat} {P : Nat → PageV} {q : ProcV} {i : Nat} (h : (itV n P q i).k ≠ 0) : ∀ j, i ≤ j → itV n P q j = itV n P q i := by
  intro j hj
  induction j with
  | zero => rw [show i = 0 by omega]
  | succ j ih =>
    by_cases e : i = j + 1
    · rw [e]
    · have := ih (by omega)
      rw [itV, this, if_neg h]
theorem itV_next {n : Nat} {P : Nat → PageV} {q : ProcV} {i : Nat} (h : (itV n P q i).k = 0) : itV n P q (i + 1) = ⟨(stepV n (itV n P q i).P (itV n P q i).q).P, (stepV n (itV n P q i).P (itV n P q i).q).q, (stepV n (itV n P q i).P (itV n P q i).q).k, (stepV n (itV n P q i).P (itV n P q i).q).c, (itV n P q i).s + 1⟩ := by
  rw [itV, if_pos h]
abbrev stopA (k : Nat) (s : Nat) (c : Int) : Array Value := #[.int .i64 (k : Int), .int .i64 (s : Int), .int .i64 c]
theorem stopSize (k s : Nat) (c : Int) : (Tryz.prog.info? 38).map (·.size) = some (stopA k s c).size := by kernel_rfl
abbrev zBase (W : World) (g : Nat) (cs : Array Value) : BaseW := ⟨W, [(g, cs, 38)]⟩
theorem St.withStop {W w : World} {b : Nat} {v : Value} {n : Nat} {P : Nat → PageV} {q : ProcV} (h : St ⟨W, []⟩ w b v n P q) (g : Nat) (cs : Array Value) (hb : Blk w g cs 38) (h1 : g ≠ b) (h2 : v.ownBlock ≠ some g) : St (zBase W g cs) w b v n P q :=
  ⟨h.mach, h.own, h.far, h.base, h.below, fun c hc => by
    simp only [List.mem_cons, List.not_mem_nil, or_false] at hc
    subst hc
    exact ⟨hb, h1, h2⟩⟩
theorem St.stop {W w : World} {g : Nat} {cs : Array Value} {b : Nat} {v : Value} {n : Nat} {P : Nat → PageV} {q : ProcV} (h : St (zBase W g cs) w b v n P q) : Blk w g cs 38 ∧ g ≠ b ∧ v.ownBlock ≠ some g := h.keep (g, cs, 38) (by simp)
theorem St.setStop {W w : World} {g : Nat} {x0 x1 x2 : Value} {b : Nat} {v : Value} {n : Nat} {P : Nat → PageV} {q : ProcV} (h : St (zBase W g #[x0, x1, x2]) w b v n P q) (hg : W.heap.size ≤ g) (y0 y1 y2 : Value) :
    St (zBase W g #[y0, y1, y2]) (((w.setCell ⟨g, 0, none⟩ y0).setCell ⟨g, 2, none⟩ y2).setCell ⟨g, 1, none⟩ y1) b v n P q := by
  obtain ⟨h1, h2, h3⟩ := h.stop
  refine ⟨((Blk.other h.mach g 0 y0 (Ne.symm h2)).other g 2 y2 (Ne.symm h2)).other g 1 y1 (Ne.symm h2), ((h.own.other g 0 y0 h3).other g 2 y2 h3).other g 1 y1 h3, h.far, h.base, ((h.below.setCell (p := ⟨g, 0, none⟩) hg y0).setCell (p := ⟨g, 2, none⟩) hg y2).setCell (p := ⟨g, 1, none⟩) hg y1, fun c hc => ?_⟩
  simp only [List.mem_cons, List.not_mem_nil, or_false] at hc
  subst hc
  have := ((h1.set 0 y0).set 2 y2).set 1 y1
  exact ⟨this, h2, h3⟩
theorem MachAt.range {w : World} {b : Nat} {v : Value} {q : ProcV} (h : MachAt w b v q) : w.rangeAt b 1 q.row := fun j u hu => by
  refine Blk.cell h (1 + j) u ?_
  simpa [Nat.add_comm 1 j] using hu
theorem OwnP.setRow {w : World} {B : Nat} {v : Value} {n : Nat} {P : Nat → PageV} (h : OwnP w B v n P) (g : Nat) (cs : Array Value) (hg : g < B) : OwnP (w.setRow g cs) B v n P := by
  refine ⟨h.1, ?_⟩
  rcases h.2 with h' | ⟨g', cap, cur, hv, hb, hh, r⟩
  · exact .inl h'
  · exact .inr ⟨g', cap, cur, hv, hb, (setRow_other _ _ _ _ (by omega)).trans hh, r⟩
theorem resRun {fn : Func} {p c1 c2 : Tmp} {ty1 ty2 : TypeId} {w : World} {g1 g2 : Nat} {T1 T2 : TypeId} {cs1 cs2 : Array Value} (h : fn.results = #[.tmp p, .cell c1 ty1, .cell c2 ty2]) (tmps : Array Value) (h1 : tmps.getD c1 undef = .pointer (some ⟨g1, 0, none⟩)) (h2 : tmps.getD c2 undef = .pointer (some ⟨g2, 0, none⟩))
    (hg1 : Blk w g1 cs1 T1) (hg2 : Blk w g2 cs2 T2) (fs1 fs2 : Array Field) (hu1 : Tryz.prog.underlying ty1 = some (.struct fs1)) (hu2 : Tryz.prog.underlying ty2 = some (.struct fs2)) (hi1 : (Tryz.prog.info? ty1).map (·.size) = some cs1.size) (hi2 : (Tryz.prog.info? ty2).map (·.size) = some cs2.size) :
    (results fn tmps).run Tryz.prog w = .ok (.tuple #[tmps.getD p undef, .agg cs1, .agg cs2]) w := by
  have h1' : tmps[c1]?.getD undef = .pointer (some ⟨g1, 0, none⟩) := by simpa using h1
  have h2' : tmps[c2]?.getD undef = .pointer (some ⟨g2, 0, none⟩) := by simpa using h2
  simp [results, h, h1', h2', asAddr, run_loadVar_row w g1 T1 ty1 cs1 (0, 0) _ hg1 hu1 rfl hi1, run_loadVar_row w g2 T2 ty2 cs2 (0, 0) _ hg2 hu2 rfl hi2]
abbrev zRow : Array Value := #[.int .u32 0, .int .u32 0, .int .u32 0, .int .u32 0, .int .u32 0, .int .u32 0, .int .u32 0, .int .u32 0, .int .u32 0, .int .u32 0, .int .u32 0, .int .u32 0, .int .u32 0, .int .u32 0, .int .u32 0, .int .u32 0, .int .u32 0, .int .i64 0, .int .i64 0, .int .i64 0, .int .i64 0]
set_option maxRecDepth 100000 in
set_option maxHeartbeats 8000000 in
theorem core_run (A : Nat → Addr) (a : Option Addr) (n cap : Nat) (P : Nat → PageV) (q : ProcV) (most : Int) (hm : most < 9223372036854775808) (w : World) (h : RdP w a n cap P) (hE : Errs w [4, 7, 20] A) (ht : BlankT w) :
    Calls Tryz.prog 11 #[.slice a n cap, .agg q.row.toArray, .int .i64 most] w fun e w' => ∃ v, e = .returned (.tuple #[v, .agg (itV n P (q.put 0 0#32) most.toNat).q.row.toArray, .agg (stopA (itV n P (q.put 0 0#32) most.toNat).k (itV n P (q.put 0 0#32) most.toNat).s (itV n P (q.put 0 0#32) most.toNat).c)]) ∧ OwnP w' w.heap.size v n (itV n P (q.put 0 0#32) most.toNat).P ∧ Below w.heap.size w w' := by
  have hn := h.bound
  obtain ⟨w1, e1⟩ : ∃ w1, w1 = w.alloc (.cells q.row.toArray 26) := ⟨_, rfl⟩
  obtain ⟨w2, e2⟩ : ∃ w2, w2 = w1.alloc (.cells zRow 26) := ⟨_, rfl⟩
  obtain ⟨w3, e3⟩ : ∃ w3, w3 = w2.alloc (.cells (stopA 0 0 0) 38) := ⟨_, rfl⟩
  obtain ⟨B, hB⟩ : ∃ B, B = w.heap.size := ⟨_, rfl⟩
  have s1 : w1.heap.size = B + 1 := by rw [e1, hB]; simp
  have s2 : w2.heap.size = B + 2 := by rw [e2]; simp [s1]
  have s3 : w3.heap.size = B + 3 := by rw [e3]; simp [s2]
  have b1 : Below B w w1 := by rw [e1, hB]; exact below_alloc _ _
  have b2 : Below w1.heap.size w1 w2 := by rw [e2]; exact below_alloc _ _
  have b3 : Below w2.heap.size w2 w3 := by rw [e3]; exact below_alloc _ _
  have b13 : Below w1.heap.size w1 w3 := b2.trans (b3.mono (by omega))
  have b03 : Below B w w3 := b1.trans (b13.mono (by omega))
  have U0 : Kp (PrAt w3 B q) := ⟨Blk.later (by rw [e1, hB]; exact Blk.new _ _ _) b13⟩
  have U1 : Kp (Blk w3 (B + 1) zRow 26) := ⟨Blk.later (by rw [e2, ← s1]; exact Blk.new _ _ _) b3⟩
  have U2 : Kp (Blk w3 (B + 2) (stopA 0 0 0) 38) := ⟨by rw [e3, ← s2]; exact Blk.new _ _ _⟩
  have KO := Kp.mk (core_own a n cap P q w3 (h.later (hB ▸ b03)))
  have KE : Kp (Errs w3 [4, 7, 20] A) := ⟨hE.later (hB ▸ b03)⟩
  have KT : Kp (BlankT w3) := ⟨ht.later (hB ▸ b03)⟩
  have B03 := Kp.mk b03
  have S3 := Kp.mk s3
  have HBq := Kp.mk hB
  have EQ : Kp (w3 = ((w.alloc (.cells q.row.toArray 26)).alloc (.cells zRow 26)).alloc (.cells (stopA 0 0 0) 38)) := ⟨by rw [e3, e2, e1]⟩
  obtain ⟨qs, hqs⟩ : ∃ qs, qs = q.put 0 0#32 := ⟨_, rfl⟩
  rw [← hqs] at KO ⊢
  obtain ⟨N, hN⟩ : ∃ N, N = most.toNat := ⟨_, rfl⟩
  rw [← hN]
  have HN := Kp.mk hN
  clear h hE ht e1 e2 e3 s1 s2 s3 b1 b2 b3 b13 b03 hB hqs hN
  go_enter Tryz.func11, Tryz.ntmps11
  have U0' : Kp (Blk (((w.alloc (.cells q.row.toArray 26)).alloc (.cells zRow 26)).alloc (.cells (stopA 0 0 0) 38)) w.heap.size q.row.toArray 26) := ⟨by rw [← EQ.out, ← HBq.out]; exact U0.out⟩
  go_wp2_with (refine wpList_load_row rfl 26 _ rfl w.heap.size rfl 26 q.row.toArray (0, 0) _ U0'.out Tryz.underlying26 rfl (prSizeA q) ?_)
  rw [show (((w.alloc (.cells q.row.toArray 26)).alloc (.cells zRow 26)).alloc (.cells #[.int .i64 0, .int .i64 0, .int .i64 0] 38)) = w3 from EQ.out.symm]
  refine KO.out.mono ?_
  rintro e w4 ⟨b, v, rfl, hst⟩
  obtain ⟨w5, e5⟩ : ∃ w5, w5 = w4.alloc (.cells (stopA 0 0 0) 38) := ⟨_, rfl⟩
  obtain ⟨gs, hgs⟩ : ∃ gs, gs = w4.heap.size := ⟨_, rfl⟩
  have hI : St (zBase w3 gs (stopA 0 0 0)) w5 b v n P qs := by
    rw [e5, hgs]
    exact (hst.later (below_alloc _ _)).withStop w4.heap.size _ (Blk.new _ _ _) (Ne.symm (Nat.ne_of_lt hst.lt)) (ownP_far hst.own)
  have HI := Kp.mk hI
  have HGB : Kp (w3.heap.size ≤ gs) := ⟨by rw [hgs]; exact hst.below.size⟩
  have hb8 : B + 2 < w3.heap.size := by rw [S3.out]; omega
  have hb7 : B + 1 < w3.heap.size := by rw [S3.out]; omega
  have HBL : Kp (b ≠ B + 1 ∧ b ≠ B + 2 ∧ gs ≠ B + 1 ∧ gs ≠ B + 2) := ⟨by
    have h1 : w3.heap.size ≤ b := hst.base
    have h2 := HGB.out
    omega⟩
  have HW5 : Kp (w4.alloc (.cells #[.int .i64 0, .int .i64 0, .int .i64 0] 38) = w5) := ⟨e5.symm⟩
  have HGS := Kp.mk hgs
  clear hst hI e5 KO U0 U0' hgs
  go_wp2_with fail
  rw [HW5.out, ← HGS.out]
  rw [← HBq.out, show B + 1 + 1 = B + 2 from rfl]
  clear HW5 HGS
  go_loopw [16] (fun _ wr => ∃ i : Nat, i ≤ N ∧ Kp ((itV n P qs i).s = i ∧ (i = 0 ∨ True)) ∧ Kp (St (zBase w3 gs (stopA (itV n P qs i).k (itV n P qs i).s (itV n P qs i).c)) wr b v n (itV n P qs i).P (itV n P qs i).q)) (fun _ wr => N - (intOf ((wr.cell? ⟨gs, 1, none⟩).getD (.int .i64 0))).toNat)
  case atStart => exact ⟨0, by omega, ⟨rfl, .inr trivial⟩, HI⟩
  case round =>
    obtain ⟨i, hi, HS, HJ⟩ := hrel
    obtain ⟨z, hz⟩ : ∃ z, z = itV n P qs i := ⟨_, rfl⟩
    rw [← hz] at HS HJ
    rw [HS.out.1] at HJ
    have HZ := Kp.mk hz
    have HSP := HJ.out.stop
    have d0 := HSP.1.cell 0 _ rfl
    have d1 := HSP.1.cell 1 _ rfl
    have d2 := HSP.1.cell 2 _ rfl
    have HIN := Kp.mk hi
    clear hz HSP hi
    by_cases hlt : i < N
    · have t1 : decide ((i : Int) < most) = true := decide_eq_true (by have := HN.out; omega)
      have t3 : (i : Int) < 9223372036854775807 := by have := HN.out; omega
      by_cases hk : z.k = 0
      · have t2 : ((z.k : Int) == 0) = true := by rw [hk]; rfl
        have KST := Kp.mk (core_step A HJ.out hn KE.out KT.out)
        have HNX : Kp (itV n P qs (i + 1) = ⟨(stepV n z.P z.q).P, (stepV n z.P z.q).q, (stepV n z.P z.q).k, (stepV n z.P z.q).c, i + 1⟩) := ⟨by
          rw [itV_next (by rw [← HZ.out]; exact hk), ← HZ.out, HS.out.1]⟩
        obtain ⟨o, ho⟩ : ∃ o, o = stepV n z.P z.q := ⟨_, rfl⟩
        rw [← ho] at KST HNX
        obtain ⟨ok, hok⟩ : ∃ ok : Int, ok = (o.k : Int) := ⟨_, rfl⟩
        rw [← hok] at KST
        have HOK := Kp.mk hok
        have D1 := Kp.mk d1
        have HLT := Kp.mk hlt
        clear hk ho hok HJ hlt
        go_wp2_with (first
          | (go_at_call 17; (with_reducible refine KST.out.mono ?_); rintro e w6 ⟨rfl, hst⟩; have H6 := Kp.mk hst; have HSQ := hst.stop; clear d0 d1 d2; have d0 := HSQ.1.cell 0 _ rfl; have d1 := HSQ.1.cell 1 _ rfl; have d2 := HSQ.1.cell 2 _ rfl; have f0 := HSQ.1.free 0; have f1 := HSQ.1.free 1; have f2 := HSQ.1.free 2; clear hst HSQ))
        have J6 := Kp.mk (H6.out.setStop HGB.out (.int .i64 ok) (.int .i64 ((i : Int) + 1)) (.int .i64 o.c))
        go_roundw
        case rel =>
          refine ⟨i + 1, by have := HLT.out; omega, ⟨by rw [HNX.out], .inr trivial⟩, ⟨?_⟩⟩
          rw [HNX.out]
          have := J6.out
          rw [HOK.out] at this ⊢
          exact this
        case measure =>
          have h1 := HLT.out
          have e1 := J6.out.stop.1.cell 1 _ rfl
          rw [e1, D1.out]
          simp [intOf]
          omega
      · have t2 : ((z.k : Int) == 0) = false := by rw [beq_eq_false_iff_ne]; omega
        have HZN : Kp (itV n P qs N = z) := ⟨by rw [itV_stop (i := i) (by rw [← HZ.out]; exact hk) N (by omega), HZ.out]⟩
        clear hk hlt t3
        have VB7 : Kp (Blk wr (B + 1) zRow 26) := ⟨(HJ.out.below.block _ (by rw [S3.out]; omega)).trans U1.out⟩
        have VB8 : Kp (Blk wr (B + 2) (stopA 0 0 0) 38) := ⟨(HJ.out.below.block _ (by rw [S3.out]; omega)).trans U2.out⟩
        have HMS : Kp (∀ w', Below wr.heap.size wr w' → MachAt w' b v z.q ∧ Blk w' gs (stopA z.k i z.c) 38) := ⟨fun w' hw => ⟨HJ.out.mach.later hw, HJ.out.stop.1.later hw⟩⟩
        go_wp2_with fail
        clear d0 d1 d2
        refine wp_region_held_drew (S := fun w' => MachAt w' b v z.q ∧ Blk w' gs (stopA z.k i z.c) 38) (by kernel_rfl) (HMS.out _ (Drew.once _).below) (fun hHeld => ?_)
        refine wpAnyH_take (i := 0) (v := ?v0a) rfl (by kernel_rfl) (by kernel_rfl) (by kernel_rfl) (fun _ _ _ h => h) (Or.inl ⟨by rfl, ?hy0a⟩) (by assumption) ?rest0a
        case hy0a => (intro w0 hSw; have s0 := hSw.1.pages; (try dsimp only at hSw); (try simp only [List.getElem_toArray, List.getElem_cons_zero, List.getElem_cons_succ]); go_simp) <;> (with_reducible rfl)
        try simp only [Act.put, List.getElem_toArray, List.getElem_cons_zero, List.getElem_cons_succ, List.setIfInBounds_toArray, List.set_cons_zero, List.set_cons_succ]
        refine wpAnyH_take (i := 1) (v := ?v1a) rfl (by kernel_rfl) (by kernel_rfl) (by kernel_rfl) (fun _ _ _ h => h) (Or.inl ⟨by rfl, ?hy1a⟩) (by assumption) ?rest1a
        case hy1a => (intro w0 hSw; have s0 := hSw.1.pages; (try dsimp only at hSw); (try simp only [List.getElem_toArray, List.getElem_cons_zero, List.getElem_cons_succ]); go_simp) <;> (with_reducible rfl)
        try simp only [Act.put, List.getElem_toArray, List.getElem_cons_zero, List.getElem_cons_succ, List.setIfInBounds_toArray, List.set_cons_zero, List.set_cons_succ]
        refine wpAnyH_take (i := 2) (v := ?v2a) rfl (by kernel_rfl) (by kernel_rfl) (by kernel_rfl) (fun _ _ _ h => h) (Or.inl ⟨by rfl, ?hy2a⟩) (by assumption) ?rest2a
        case hy2a => (intro w0 hSw; have s0 := hSw.1.pages; (try dsimp only at hSw); (try simp only [List.getElem_toArray, List.getElem_cons_zero, List.getElem_cons_succ]); go_simp) <;> (with_reducible rfl)
        try simp only [Act.put, List.getElem_toArray, List.getElem_cons_zero, List.getElem_cons_succ, List.setIfInBounds_toArray, List.set_cons_zero, List.set_cons_succ]
        refine wpAnyH_take (i := 3) (v := ?v3a) rfl (by kernel_rfl) (by kernel_rfl) (by kernel_rfl) (fun _ _ _ h => h) (Or.inl ⟨by rfl, ?hy3a⟩) (by assumption) ?rest3a
        case hy3a => (intro w0 hSw; have s0 := hSw.1.pages; (try dsimp only at hSw); (try simp only [List.getElem_toArray, List.getElem_cons_zero, List.getElem_cons_succ]); go_simp) <;> (with_reducible rfl)
        try simp only [Act.put, List.getElem_toArray, List.getElem_cons_zero, List.getElem_cons_succ, List.setIfInBounds_toArray, List.set_cons_zero, List.set_cons_succ]
        refine wpAnyH_take (i := 4) (v := ?v4a) rfl (by kernel_rfl) (by kernel_rfl) (by kernel_rfl) (fun _ _ _ h => h) (Or.inl ⟨by rfl, ?hy4a⟩) (by assumption) ?rest4a
        case hy4a => (intro w0 hSw; have s0 := hSw.1.pages; (try dsimp only at hSw); (try simp only [List.getElem_toArray, List.getElem_cons_zero, List.getElem_cons_succ]); go_simp) <;> (with_reducible rfl)
        try simp only [Act.put, List.getElem_toArray, List.getElem_cons_zero, List.getElem_cons_succ, List.setIfInBounds_toArray, List.set_cons_zero, List.set_cons_succ]
        refine wpAnyH_take (i := 5) (v := ?v5a) rfl (by kernel_rfl) (by kernel_rfl) (by kernel_rfl) (fun _ _ _ h => h) (Or.inl ⟨by rfl, ?hy5a⟩) (by assumption) ?rest5a
        case hy5a => (intro w0 hSw; have s0 := hSw.1.pages; (try dsimp only at hSw); (try simp only [List.getElem_toArray, List.getElem_cons_zero, List.getElem_cons_succ]); go_simp) <;> (with_reducible rfl)
        try simp only [Act.put, List.getElem_toArray, List.getElem_cons_zero, List.getElem_cons_succ, List.setIfInBounds_toArray, List.set_cons_zero, List.set_cons_succ]
        refine wpAnyH_take (i := 6) (v := ?v6a) rfl (by kernel_rfl) (by kernel_rfl) (by kernel_rfl) (fun _ _ _ h => h) (Or.inl ⟨by rfl, ?hy6a⟩) (by assumption) ?rest6a
        case hy6a => (intro w0 hSw; have s0 := hSw.1.pages; (try dsimp only at hSw); (try simp only [List.getElem_toArray, List.getElem_cons_zero, List.getElem_cons_succ]); go_simp) <;> (with_reducible rfl)
        try simp only [Act.put, List.getElem_toArray, List.getElem_cons_zero, List.getElem_cons_succ, List.setIfInBounds_toArray, List.set_cons_zero, List.set_cons_succ]
        refine wpAnyH_take (i := 7) rfl (by kernel_rfl) (by kernel_rfl) (by kernel_rfl) (fun _ _ _ h => h) (yieldsIf_load_mid (by rfl) 26 _ rfl b 1 rfl z.q.row _ (fun _ h => h.1.range) Tryz.underlying26 rfl (prSize z.q)) (by assumption) ?_
        try simp only [Act.put, List.getElem_toArray, List.getElem_cons_zero, List.getElem_cons_succ, List.setIfInBounds_toArray, List.set_cons_zero, List.set_cons_succ]
        refine wpAnyH_take (i := 8) (v := ?v8a) rfl (by kernel_rfl) (by kernel_rfl) (by kernel_rfl) (fun _ _ _ h => h) (Or.inl ⟨by rfl, ?hy8a⟩) (by assumption) ?rest8a
        case hy8a => (intro w0 hSw; have s0 := hSw.2.cell 0 _ rfl; have s1 := hSw.2.cell 1 _ rfl; have s2 := hSw.2.cell 2 _ rfl; (try dsimp only at hSw); (try simp only [List.getElem_toArray, List.getElem_cons_zero, List.getElem_cons_succ]); go_simp) <;> (with_reducible rfl)
        try simp only [Act.put, List.getElem_toArray, List.getElem_cons_zero, List.getElem_cons_succ, List.setIfInBounds_toArray, List.set_cons_zero, List.set_cons_succ]
        refine wpAnyH_take (i := 9) (v := ?v9a) rfl (by kernel_rfl) (by kernel_rfl) (by kernel_rfl) (fun _ _ _ h => h) (Or.inl ⟨by rfl, ?hy9a⟩) (by assumption) ?rest9a
        case hy9a => (intro w0 hSw; have s0 := hSw.1.pages; (try dsimp only at hSw); (try simp only [List.getElem_toArray, List.getElem_cons_zero, List.getElem_cons_succ]); go_simp) <;> (with_reducible rfl)
        try simp only [Act.put, List.getElem_toArray, List.getElem_cons_zero, List.getElem_cons_succ, List.setIfInBounds_toArray, List.set_cons_zero, List.set_cons_succ]
        refine wpAnyH_ready (rs := [10]) (by kernel_rfl) (by simp) ?_
        refine AllReadyH.cons rfl (fun K hK => ?_) AllReadyH.nil
        refine step_store_row rfl 26 _ _ rfl (B + 1) z.q.row.toArray rfl rfl 26 _ VB7.out.drew (prSizeA z.q) (by show 21 = z.q.row.toArray.size; rw [List.size_toArray, ProcV.row_length]) (row_all_one z.q) ?_
        refine hK.out _ _ ⟨(setRow_other _ _ _ _ HBL.out.1).trans hHeld.1, (setRow_other _ _ _ _ HBL.out.2.2.1).trans hHeld.2⟩ (fun hHeld2 => ?_)
        clear hK K
        refine wpAnyH_ready (rs := [11]) (by kernel_rfl) (by simp) ?_
        refine AllReadyH.cons rfl (fun K hK => ?_) AllReadyH.nil
        have VC8 : Blk (wr.drew.setRow (B + 1) z.q.row.toArray) (B + 2) (stopA 0 0 0) 38 := (setRow_other _ _ _ _ (by omega)).trans VB8.out.drew
        refine step_store_row rfl 38 _ _ rfl (B + 2) (stopA z.k i z.c) rfl rfl 38 _ VC8 (stopSize _ _ _) rfl (by simp [Value.oneCell']) ?_
        refine hK.out _ _ ⟨(setRow_other _ _ _ _ HBL.out.2.1).trans hHeld2.1, (setRow_other _ _ _ _ HBL.out.2.2.2).trans hHeld2.2⟩ (fun hHeld3 => ?_)
        clear hK K
        refine wpAnyH_done (by kernel_rfl) ?_ _
        go_wp2_with fail
        have R8 : Blk ((wr.drew.setRow (B + 1) z.q.row.toArray).setRow (B + 2) (stopA z.k i z.c)) (B + 2) (stopA z.k i z.c) 38 := setRow_heap _ _ _ _ _ _ VC8
        have R7 : PrAt ((wr.drew.setRow (B + 1) z.q.row.toArray).setRow (B + 2) (stopA z.k i z.c)) (B + 1) z.q := (setRow_other _ _ _ _ (by omega)).trans (setRow_heap _ _ _ _ _ _ VB7.out.drew)
        refine bodyPost_ret (resRun rfl _ rfl rfl R7 R8 _ _ Tryz.underlying26 Tryz.underlying38 (prSizeA z.q) (stopSize _ _ _)) rfl ?_
        have hb0 : Below w.heap.size w wr := by
          rw [← HBq.out]
          exact B03.out.trans (HJ.out.below.mono (by rw [S3.out]; omega))
        refine ⟨v, by rw [HZN.out, HS.out.1]; rfl, ?_, below_setRow (below_setRow hb0.drew (by rw [HBq.out]; omega) _) (by rw [HBq.out]; omega) _⟩
        rw [HZN.out]
        have ho : OwnP wr w3.heap.size v n z.P := HJ.out.own
        exact ((((ho.later (Drew.once _).below).setRow (B + 1) _ (by rw [S3.out]; omega)).setRow (B + 2) _ (by rw [S3.out]; omega))).mono (by rw [S3.out, HBq.out]; omega)
    · have t1 : decide ((i : Int) < most) = false := decide_eq_false (by have := HN.out; omega)
      have HZN : Kp (itV n P qs N = z) := ⟨by rw [HZ.out, show i = N by have := HIN.out; omega]⟩
      clear hlt
      have VB7 : Kp (Blk wr (B + 1) zRow 26) := ⟨(HJ.out.below.block _ (by rw [S3.out]; omega)).trans U1.out⟩
      have VB8 : Kp (Blk wr (B + 2) (stopA 0 0 0) 38) := ⟨(HJ.out.below.block _ (by rw [S3.out]; omega)).trans U2.out⟩
      have HMS : Kp (∀ w', Below wr.heap.size wr w' → MachAt w' b v z.q ∧ Blk w' gs (stopA z.k i z.c) 38) := ⟨fun w' hw => ⟨HJ.out.mach.later hw, HJ.out.stop.1.later hw⟩⟩
      go_wp2_with fail
      clear d0 d1 d2
      refine wp_region_held_drew (S := fun w' => MachAt w' b v z.q ∧ Blk w' gs (stopA z.k i z.c) 38) (by kernel_rfl) (HMS.out _ (Drew.once _).below) (fun hHeld => ?_)
      refine wpAnyH_take (i := 0) (v := ?v0b) rfl (by kernel_rfl) (by kernel_rfl) (by kernel_rfl) (fun _ _ _ h => h) (Or.inl ⟨by rfl, ?hy0b⟩) (by assumption) ?rest0b
      case hy0b => (intro w0 hSw; have s0 := hSw.1.pages; (try dsimp only at hSw); (try simp only [List.getElem_toArray, List.getElem_cons_zero, List.getElem_cons_succ]); go_simp) <;> (with_reducible rfl)
      try simp only [Act.put, List.getElem_toArray, List.getElem_cons_zero, List.getElem_cons_succ, List.setIfInBounds_toArray, List.set_cons_zero, List.set_cons_succ]
      refine wpAnyH_take (i := 1) (v := ?v1b) rfl (by kernel_rfl) (by kernel_rfl) (by kernel_rfl) (fun _ _ _ h => h) (Or.inl ⟨by rfl, ?hy1b⟩) (by assumption) ?rest1b
      case hy1b => (intro w0 hSw; have s0 := hSw.1.pages; (try dsimp only at hSw); (try simp only [List.getElem_toArray, List.getElem_cons_zero, List.getElem_cons_succ]); go_simp) <;> (with_reducible rfl)
      try simp only [Act.put, List.getElem_toArray, List.getElem_cons_zero, List.getElem_cons_succ, List.setIfInBounds_toArray, List.set_cons_zero, List.set_cons_succ]
      refine wpAnyH_take (i := 2) (v := ?v2b) rfl (by kernel_rfl) (by kernel_rfl) (by kernel_rfl) (fun _ _ _ h => h) (Or.inl ⟨by rfl, ?hy2b⟩) (by assumption) ?rest2b
      case hy2b => (intro w0 hSw; have s0 := hSw.1.pages; (try dsimp only at hSw); (try simp only [List.getElem_toArray, List.getElem_cons_zero, List.getElem_cons_succ]); go_simp) <;> (with_reducible rfl)
      try simp only [Act.put, List.getElem_toArray, List.getElem_cons_zero, List.getElem_cons_succ, List.setIfInBounds_toArray, List.set_cons_zero, List.set_cons_succ]
      refine wpAnyH_take (i := 3) (v := ?v3b) rfl (by kernel_rfl) (by kernel_rfl) (by kernel_rfl) (fun _ _ _ h => h) (Or.inl ⟨by rfl, ?hy3b⟩) (by assumption) ?rest3b
      case hy3b => (intro w0 hSw; have s0 := hSw.1.pages; (try dsimp only at hSw); (try simp only [List.getElem_toArray, List.getElem_cons_zero, List.getElem_cons_succ]); go_simp) <;> (with_reducible rfl)
      try simp only [Act.put, List.getElem_toArray, List.getElem_cons_zero, List.getElem_cons_succ, List.setIfInBounds_toArray, List.set_cons_zero, List.set_cons_succ]
      refine wpAnyH_take (i := 4) (v := ?v4b) rfl (by kernel_rfl) (by kernel_rfl) (by kernel_rfl) (fun _ _ _ h => h) (Or.inl ⟨by rfl, ?hy4b⟩) (by assumption) ?rest4b
      case hy4b => (intro w0 hSw; have s0 := hSw.1.pages; (try dsimp only at hSw); (try simp only [List.getElem_toArray, List.getElem_cons_zero, List.getElem_cons_succ]); go_simp) <;> (with_reducible rfl)
      try simp only [Act.put, List.getElem_toArray, List.getElem_cons_zero, List.getElem_cons_succ, List.setIfInBounds_toArray, List.set_cons_zero, List.set_cons_succ]
      refine wpAnyH_take (i := 5) (v := ?v5b) rfl (by kernel_rfl) (by kernel_rfl) (by kernel_rfl) (fun _ _ _ h => h) (Or.inl ⟨by rfl, ?hy5b⟩) (by assumption) ?rest5b
      case hy5b => (intro w0 hSw; have s0 := hSw.1.pages; (try dsimp only at hSw); (try simp only [List.getElem_toArray, List.getElem_cons_zero, List.getElem_cons_succ]); go_simp) <;> (with_reducible rfl)
      try simp only [Act.put, List.getElem_toArray, List.getElem_cons_zero, List.getElem_cons_succ, List.setIfInBounds_toArray, List.set_cons_zero, List.set_cons_succ]
      refine wpAnyH_take (i := 6) (v := ?v6b) rfl (by kernel_rfl) (by kernel_rfl) (by kernel_rfl) (fun _ _ _ h => h) (Or.inl ⟨by rfl, ?hy6b⟩) (by assumption) ?rest6b
      case hy6b => (intro w0 hSw; have s0 := hSw.1.pages; (try dsimp only at hSw); (try simp only [List.getElem_toArray, List.getElem_cons_zero, List.getElem_cons_succ]); go_simp) <;> (with_reducible rfl)
      try simp only [Act.put, List.getElem_toArray, List.getElem_cons_zero, List.getElem_cons_succ, List.setIfInBounds_toArray, List.set_cons_zero, List.set_cons_succ]
      refine wpAnyH_take (i := 7) rfl (by kernel_rfl) (by kernel_rfl) (by kernel_rfl) (fun _ _ _ h => h) (yieldsIf_load_mid (by rfl) 26 _ rfl b 1 rfl z.q.row _ (fun _ h => h.1.range) Tryz.underlying26 rfl (prSize z.q)) (by assumption) ?_
      try simp only [Act.put, List.getElem_toArray, List.getElem_cons_zero, List.getElem_cons_succ, List.setIfInBounds_toArray, List.set_cons_zero, List.set_cons_succ]
      refine wpAnyH_take (i := 8) (v := ?v8b) rfl (by kernel_rfl) (by kernel_rfl) (by kernel_rfl) (fun _ _ _ h => h) (Or.inl ⟨by rfl, ?hy8b⟩) (by assumption) ?rest8b
      case hy8b => (intro w0 hSw; have s0 := hSw.2.cell 0 _ rfl; have s1 := hSw.2.cell 1 _ rfl; have s2 := hSw.2.cell 2 _ rfl; (try dsimp only at hSw); (try simp only [List.getElem_toArray, List.getElem_cons_zero, List.getElem_cons_succ]); go_simp) <;> (with_reducible rfl)
      try simp only [Act.put, List.getElem_toArray, List.getElem_cons_zero, List.getElem_cons_succ, List.setIfInBounds_toArray, List.set_cons_zero, List.set_cons_succ]
      refine wpAnyH_take (i := 9) (v := ?v9b) rfl (by kernel_rfl) (by kernel_rfl) (by kernel_rfl) (fun _ _ _ h => h) (Or.inl ⟨by rfl, ?hy9b⟩) (by assumption) ?rest9b
      case hy9b => (intro w0 hSw; have s0 := hSw.1.pages; (try dsimp only at hSw); (try simp only [List.getElem_toArray, List.getElem_cons_zero, List.getElem_cons_succ]); go_simp) <;> (with_reducible rfl)
      try simp only [Act.put, List.getElem_toArray, List.getElem_cons_zero, List.getElem_cons_succ, List.setIfInBounds_toArray, List.set_cons_zero, List.set_cons_succ]
      refine wpAnyH_ready (rs := [10]) (by kernel_rfl) (by simp) ?_
      refine AllReadyH.cons rfl (fun K hK => ?_) AllReadyH.nil
      refine step_store_row rfl 26 _ _ rfl (B + 1) z.q.row.toArray rfl rfl 26 _ VB7.out.drew (prSizeA z.q) (by show 21 = z.q.row.toArray.size; rw [List.size_toArray, ProcV.row_length]) (row_all_one z.q) ?_
      refine hK.out _ _ ⟨(setRow_other _ _ _ _ HBL.out.1).trans hHeld.1, (setRow_other _ _ _ _ HBL.out.2.2.1).trans hHeld.2⟩ (fun hHeld2 => ?_)
      clear hK K
      refine wpAnyH_ready (rs := [11]) (by kernel_rfl) (by simp) ?_
      refine AllReadyH.cons rfl (fun K hK => ?_) AllReadyH.nil
      have VC8 : Blk (wr.drew.setRow (B + 1) z.q.row.toArray) (B + 2) (stopA 0 0 0) 38 := (setRow_other _ _ _ _ (by omega)).trans VB8.out.drew
      refine step_store_row rfl 38 _ _ rfl (B + 2) (stopA z.k i z.c) rfl rfl 38 _ VC8 (stopSize _ _ _) rfl (by simp [Value.oneCell']) ?_
      refine hK.out _ _ ⟨(setRow_other _ _ _ _ HBL.out.2.1).trans hHeld2.1, (setRow_other _ _ _ _ HBL.out.2.2.2).trans hHeld2.2⟩ (fun hHeld3 => ?_)
      clear hK K
      refine wpAnyH_done (by kernel_rfl) ?_ _
      go_wp2_with fail
      have R8 : Blk ((wr.drew.setRow (B + 1) z.q.row.toArray).setRow (B + 2) (stopA z.k i z.c)) (B + 2) (stopA z.k i z.c) 38 := setRow_heap _ _ _ _ _ _ VC8
      have R7 : PrAt ((wr.drew.setRow (B + 1) z.q.row.toArray).setRow (B + 2) (stopA z.k i z.c)) (B + 1) z.q := (setRow_other _ _ _ _ (by omega)).trans (setRow_heap _ _ _ _ _ _ VB7.out.drew)
      refine bodyPost_ret (resRun rfl _ rfl rfl R7 R8 _ _ Tryz.underlying26 Tryz.underlying38 (prSizeA z.q) (stopSize _ _ _)) rfl ?_
      have hb0 : Below w.heap.size w wr := by
        rw [← HBq.out]
        exact B03.out.trans (HJ.out.below.mono (by rw [S3.out]; omega))
      refine ⟨v, by rw [HZN.out, HS.out.1]; rfl, ?_, below_setRow (below_setRow hb0.drew (by rw [HBq.out]; omega) _) (by rw [HBq.out]; omega) _⟩
      rw [HZN.out]
      have ho : OwnP wr w3.heap.size v n z.P := HJ.out.own
      exact ((((ho.later (Drew.once _).below).setRow (B + 1) _ (by rw [S3.out]; omega)).setRow (B + 2) _ (by rw [S3.out]; omega))).mono (by rw [S3.out, HBq.out]; omega)
end Go.Proofs.YtadikbmbadldpaaGreatDoor
namespace Go.Proofs.YtadikbmbadldpaaGreatDoor
open Go Go.RowKit
set_option linter.unusedVariables false
set_option linter.unusedSimpArgs false

theorem St.withBlk {W w : World} {b : Nat} {v : Value} {n : Nat} {P : Nat → PageV} {q : ProcV} (h : St ⟨W, []⟩ w b v n P q) (g : Nat) (cs : Array Value) (T : TypeId) (hb : Blk w g cs T) (h1 : g ≠ b) (h2 : v.ownBlock ≠ some g) : St ⟨W, [(g, cs, T)]⟩ w b v n P q :=
  ⟨h.mach, h.own, h.far, h.base, h.below, fun c hc => by
    simp only [List.mem_cons, List.not_mem_nil, or_false] at hc
    subst hc
    exact ⟨hb, h1, h2⟩⟩
theorem St.bare {z : BaseW} {w : World} {b : Nat} {v : Value} {n : Nat} {P : Nat → PageV} {q : ProcV} (h : St z w b v n P q) : St ⟨z.w, []⟩ w b v n P q :=
  ⟨h.mach, h.own, h.far, h.base, h.below, fun c hc => by cases hc⟩
theorem St.grown {W w w' : World} {b : Nat} {v : Value} {n : Nat} {P : Nat → PageV} {q : ProcV} {row : Option Nat} (h : St ⟨W, []⟩ w b v n P q) (hg : w.grownBy w' row) (h1 : some b ≠ row) (h2 : v.ownBlock = none ∨ v.ownBlock ≠ row) (h3 : ∀ k, row = some k → W.heap.size ≤ k) : St ⟨W, []⟩ w' b v n P q :=
  ⟨(hg.block b h.mach.lt h1).trans h.mach, World.ownsRow.kept h.own hg h2, h.far, h.base, h.below.grown hg h.below.size h3, fun c hc => by cases hc⟩
/-- A row of one's own that is not empty: its block. -/
theorem words_block {w : World} {B : Nat} {E : TypeId} {v : Value} {n : Nat} {xs : List Value} (h : w.ownsRow B E 1 v (n + 1) xs) :
    ∃ g cap cur, v = .slice (some ⟨g, 0, none⟩) (n + 1) cap ∧ B ≤ g ∧ g < w.heap.size ∧ Blk w g cur E ∧ ∀ w', Blk w' g cur E → w'.ownsRow B E 1 v (n + 1) xs := by
  have h1 := h.1
  rcases h.2 with ⟨_, h0⟩ | ⟨g, cap, cur, hv, hb, hh, r⟩
  · cases h0
  · exact ⟨g, cap, cur, hv, hb, (Array.getElem?_eq_some_iff.1 hh).1, hh, fun w' h' => ⟨h1, .inr ⟨g, cap, cur, hv, hb, h', r⟩⟩⟩
theorem words_far {w : World} {B : Nat} {E : TypeId} {v : Value} {n : Nat} {xs : List Value} (h : w.ownsRow B E 1 v n xs) {k : Nat} (hk : v.ownBlock = some k) : B ≤ k := by
  rcases h.2 with ⟨hv, _⟩ | ⟨g, cap, cur, hv, hb, _⟩
  · subst hv; cases hk
  · subst hv; cases hk; exact hb
theorem ownP_lt {w : World} {B : Nat} {v : Value} {n : Nat} {P : Nat → PageV} (h : OwnP w B v n P) {k : Nat} (hk : v.ownBlock = some k) : k < w.heap.size := by
  rcases h.2 with ⟨hv, _⟩ | ⟨g, cap, cur, hv, hb, hh, _⟩
  · subst hv; cases hk
  · subst hv; cases hk; exact (Array.getElem?_eq_some_iff.1 hh).1
def lenV : Value → Nat
  | .slice _ n _ => n
  | _ => 0
/-- Where the steps stand. -/
def pathL (n : Nat) (P : Nat → PageV) (q : ProcV) (i : Nat) : List (BitVec 32) := (List.range i).map fun j => (itV n P q j).q.pc
theorem pathL_succ (n : Nat) (P : Nat → PageV) (q : ProcV) (i : Nat) : pathL n P q (i + 1) = pathL n P q i ++ [(itV n P q i).q.pc] := by
  unfold pathL; rw [List.range_succ, List.map_append]; rfl
theorem pathL_length (n : Nat) (P : Nat → PageV) (q : ProcV) (i : Nat) : (pathL n P q i).length = i := by simp [pathL]
theorem pathL_get (n : Nat) (P : Nat → PageV) (q : ProcV) (i j : Nat) (h : j < i) : (pathL n P q i).getD j 0#32 = (itV n P q j).q.pc := by
  simp [pathL, List.getD_eq_getElem?_getD, h]
structure PathI (W wc wr : World) (b : Nat) (v : Value) (n : Nat) (z : RunV) (L : List (BitVec 32)) (i : Nat) (pv : Value) : Prop where
  st : St ⟨W, []⟩ wr b v n z.P z.q
  row : wr.ownsRow wc.heap.size 23 1 pv i (wv L)
  size : wc.heap.size ≤ wr.heap.size
  lt : b < wc.heap.size
  far : ∀ k, v.ownBlock = some k → k < wc.heap.size
set_option maxRecDepth 100000 in
set_option maxHeartbeats 8000000 in
theorem core_path (A : Nat → Addr) (a : Option Addr) (n cap : Nat) (P : Nat → PageV) (q : ProcV) (most : Int) (hm : most ≤ 10000) (w : World) (h : RdP w a n cap P) (hE : Errs w [4, 7, 20] A) (ht : BlankT w) :
    Calls Tryz.prog 6 #[.slice a n cap, .agg q.row.toArray, .int .i64 most] w fun e w' => ∃ v, e = .returned (.tuple #[v, .nilIface]) ∧ w'.ownsRow w.heap.size 23 1 v (itV n P (q.put 0 0#32) most.toNat).s (wv (pathL n P (q.put 0 0#32) (itV n P (q.put 0 0#32) most.toNat).s)) ∧ Below w.heap.size w w' := by
  have hn := h.bound
  obtain ⟨w1, e1⟩ : ∃ w1, w1 = w.alloc (.cells q.row.toArray 26) := ⟨_, rfl⟩
  obtain ⟨B, hB⟩ : ∃ B, B = w.heap.size := ⟨_, rfl⟩
  have b1 : Below w.heap.size w w1 := by rw [e1]; exact below_alloc _ _
  have U0' : Kp (Blk (w.alloc (.cells q.row.toArray 26)) w.heap.size q.row.toArray 26) := ⟨Blk.new _ _ _⟩
  have KO := Kp.mk (core_own a n cap P q w1 (h.later b1))
  have KE : Kp (Errs w1 [4, 7, 20] A) := ⟨hE.later b1⟩
  have KT : Kp (BlankT w1) := ⟨ht.later b1⟩
  have BW1 := Kp.mk b1
  have EQ : Kp (w.alloc (.cells q.row.toArray 26) = w1) := ⟨e1.symm⟩
  obtain ⟨qs, hqs⟩ : ∃ qs, qs = q.put 0 0#32 := ⟨_, rfl⟩
  rw [← hqs] at KO ⊢
  obtain ⟨N, hN⟩ : ∃ N, N = most.toNat := ⟨_, rfl⟩
  rw [← hN]
  have HN := Kp.mk hN
  have t0 : decide (most > 10000) = false := decide_eq_false (by omega)
  have HM := Kp.mk hm
  clear h hE ht e1 b1 hB hqs hN hm
  go_enter Tryz.func6, Tryz.ntmps6
  go_wp2_with (refine wpList_load_row rfl 26 _ rfl w.heap.size rfl 26 q.row.toArray (0, 0) _ U0'.out Tryz.underlying26 rfl (prSizeA q) ?_)
  rw [EQ.out]
  refine KO.out.mono ?_
  rintro e wc ⟨b, v, rfl, hst⟩
  have HI : Kp (PathI w1 wc wc b v n (itV n P qs 0) (pathL n P qs 0) 0 (.slice none 0 0)) := ⟨⟨hst, World.ownsRow_nil _ _ _ _, Nat.le_refl _, hst.mach.lt, fun k hk => ownP_lt hst.own hk⟩⟩
  clear hst KO U0' EQ
  go_wp2_with fail
  go_loopw [9, 10] (fun pv kv wr => ∃ i : Nat, i ≤ N ∧ kv = .int .i64 ((itV n P qs i).k : Int) ∧ Kp ((itV n P qs i).s = i) ∧ Kp (PathI w1 wc wr b v n (itV n P qs i) (pathL n P qs i) i pv)) (fun pv _ _ => N - lenV pv)
  case atStart => exact ⟨0, by omega, rfl, ⟨rfl⟩, HI⟩
  case round =>
    obtain ⟨i, hi, rfl, HS, HJ⟩ := hrel
    have hi2 : i ≤ 10000 := by have := HN.out; have := HM.out; omega
    obtain ⟨x, cx, hpv, hrd⟩ := wown_rd HJ.out.row (by omega)
    subst hpv
    clear hrd
    obtain ⟨z, hz⟩ : ∃ z, z = itV n P qs i := ⟨_, rfl⟩
    have HPL : Kp (pathL n P qs (i + 1) = pathL n P qs i ++ [z.q.pc]) := ⟨by rw [hz]; exact pathL_succ _ _ _ _⟩
    rw [← hz] at HS HJ ⊢
    have HZ := Kp.mk hz
    have HIN := Kp.mk hi
    clear hz hi
    by_cases hlt : i < N
    · have t1 : decide ((i : Int) < most) = true := decide_eq_true (by have := HN.out; omega)
      by_cases hk : z.k = 0
      · have t2 : ((z.k : Int) == 0) = true := by rw [hk]; rfl
        have KST := Kp.mk (fun (w' : World) (g : Nat) (cur : Array Value) (hs : St ⟨w1, [(g, cur, 23)]⟩ w' b v n z.P z.q) => core_step A hs hn KE.out KT.out)
        have HNX : Kp (itV n P qs (i + 1) = ⟨(stepV n z.P z.q).P, (stepV n z.P z.q).q, (stepV n z.P z.q).k, (stepV n z.P z.q).c, i + 1⟩) := ⟨by
          rw [itV_next (by rw [← HZ.out]; exact hk), ← HZ.out, HS.out]⟩
        obtain ⟨o, ho⟩ : ∃ o, o = stepV n z.P z.q := ⟨_, rfl⟩
        rw [← ho] at KST HNX
        obtain ⟨ok, hok⟩ : ∃ ok : Int, ok = (o.k : Int) := ⟨_, rfl⟩
        rw [← hok] at KST
        have HOK := Kp.mk hok
        have HLT := Kp.mk hlt
        have d0 := HJ.out.st.mach.pc
        obtain ⟨pc, hpc⟩ : ∃ pc, pc = z.q.pc := ⟨_, rfl⟩
        rw [← hpc] at d0 HPL
        have HSZ := Kp.mk HJ.out.size
        have HROW : Kp ((wr.alloc (.cells #[.int .u32 (pc.toNat : Int)] 23)).ownsRow wc.heap.size 23 1 (.slice x i cx) i (wv (pathL n P qs i))) := ⟨wown_later HJ.out.row (below_alloc _ _)⟩
        have HST1 : Kp (St ⟨w1, []⟩ (wr.alloc (.cells #[.int .u32 (pc.toNat : Int)] 23)) b v n z.P z.q) := ⟨HJ.out.st.later (below_alloc _ _)⟩
        have HFR : Kp (∀ k, (Value.slice x i cx).ownBlock = some k → wc.heap.size ≤ k) := ⟨fun k hk => words_far HJ.out.row hk⟩
        have HLB := Kp.mk (show b < wc.heap.size ∧ ∀ k, v.ownBlock = some k → k < wc.heap.size from ⟨HJ.out.lt, HJ.out.far⟩)
        clear hk ho hok HJ hlt hpc
        go_wp2_with (first
          | (refine append_words rfl _ _ rfl wc.heap.size (.slice x i cx) i (wv (pathL n P qs i)) rfl HROW.out ⟨wr.heap.size, 0, none⟩ 1 1 [pc] rfl (RdW.lit1 wr pc) (by omega) (by have := HSZ.out; simp; omega) ?_; intro pv' w5 hr hg; rw [← wv_append, ← HPL.out] at hr; have HR5 := Kp.mk hr; have HG5 := Kp.mk hg; clear hr hg))
        obtain ⟨g, cp, cur, rfl, hgB, hgl, hgb, hgo⟩ := words_block HR5.out
        have HGO := Kp.mk hgo
        have HGBK := Kp.mk hgB
        have HST5 : Kp (St ⟨w1, [(g, cur, 23)]⟩ w5 b v n z.P z.q) := ⟨by
          have h1 := HLB.out.1
          have h2 := HLB.out.2
          have h3 := HFR.out
          have hw : w1.heap.size ≤ wc.heap.size := Nat.le_of_lt (Nat.lt_of_le_of_lt HST1.out.base h1)
          refine (HST1.out.grown HG5.out (fun e => ?_) ?_ (fun k hk => ?_)).withBlk g cur _ hgb (by omega) (fun e => ?_)
          · have := h3 b e.symm; omega
          · cases hv : v.ownBlock with
            | none => exact .inl rfl
            | some k => exact .inr (fun e => by have := h2 k hv; have := h3 k e.symm; omega)
          · exact Nat.le_trans hw (h3 k hk)
          · have := h2 g e; omega⟩
        have HS5 : Kp (wc.heap.size ≤ w5.heap.size) := ⟨by have := HG5.out.size; have h2 := HSZ.out; simp at this; omega⟩
        clear HR5 HG5 HROW HST1 hgo hgB hgl hgb
        go_wp2_with (first
          | (go_at_call 17; (with_reducible refine (KST.out _ g cur HST5.out).mono ?_); rintro e w6 ⟨rfl, hst⟩; have H6 := Kp.mk hst; clear hst))
        have J6 : Kp (PathI w1 wc w6 b v n (itV n P qs (i + 1)) (pathL n P qs (i + 1)) (i + 1) (.slice (some ⟨g, 0, none⟩) (i + 1) cp)) := ⟨by
          rw [HNX.out]
          exact ⟨H6.out.bare, HGO.out _ (H6.out.keep (g, cur, 23) (by simp)).1, Nat.le_of_lt (Nat.lt_of_le_of_lt HGBK.out (Nat.lt_of_le_of_lt (Nat.le_refl g) (H6.out.keep (g, cur, 23) (by simp)).1.lt)), HLB.out.1, HLB.out.2⟩⟩
        go_roundw
        case rel =>
          refine ⟨i + 1, by have := HLT.out; omega, ?_, ⟨by rw [HNX.out]⟩, J6⟩
          rw [HNX.out, HOK.out]
        case measure => have := HLT.out; simp [lenV]; omega
      · have t2 : ((z.k : Int) == 0) = false := by simpa using hk
        have HZN : Kp (itV n P qs N = z) := ⟨by rw [HZ.out]; exact itV_stop (by rw [← HZ.out]; exact hk) N (by have := HIN.out; omega)⟩
        clear hk hlt
        go_wp2_with fail
        go_ret2
        refine ⟨_, rfl, ?_, BW1.out.trans (HJ.out.st.below.mono BW1.out.size)⟩
        rw [HZN.out, HS.out]
        exact wown_mono HJ.out.row (Nat.le_trans BW1.out.size (Nat.le_of_lt (Nat.lt_of_le_of_lt HJ.out.st.base HJ.out.lt)))
    · have t1 : decide ((i : Int) < most) = false := decide_eq_false (by have := HN.out; omega)
      have HZN : Kp (itV n P qs N = z) := ⟨by rw [HZ.out, show i = N by have := HIN.out; omega]⟩
      clear hlt
      go_wp2_with fail
      go_ret2
      refine ⟨_, rfl, ?_, BW1.out.trans (HJ.out.st.below.mono BW1.out.size)⟩
      rw [HZN.out, HS.out]
      exact wown_mono HJ.out.row (Nat.le_trans BW1.out.size (Nat.le_of_lt (Nat.lt_of_le_of_lt HJ.out.st.base HJ.out.lt)))
end Go.Proofs.YtadikbmbadldpaaGreatDoor
namespace Go.Proofs.YtadikbmbadldpaaGreatDoor
open Go Go.RowKit
set_option linter.unusedVariables false
set_option linter.unusedSimpArgs false

theorem plainU32 : Tryz.prog.plainKey 23 = true := by kernel_rfl
theorem cellsU32' : Tryz.prog.cellsOf 23 = 1 := by kernel_rfl
theorem eqItems_regs (d : Nat) (f : Nat → BitVec 32) (w : World) : ∀ is : List Nat, (∀ i ∈ is, i < 16) →
    (Op.eqItems (d + 1) 23 1 (regsL f).toArray (regsL f).toArray is).run Tryz.prog w = .ok true w
  | [], _ => by simp [Op.eqItems]
  | i :: is, h => by
    have hi : i < 16 := h i (by simp)
    have p1 : (part 23 (regsL f).toArray (i * 1)).run Tryz.prog w = .ok (.int .u32 ((f i).toNat : Int)) w :=
      run_part_plain w plainU32 (by rw [Nat.mul_one]; simpa using regsL_get f i hi)
    have p3 := run_equalIn_int (P := Tryz.prog) w d 23 .u32 .u32 ((f i).toNat : Int) ((f i).toNat : Int) Tryz.underlying23
    have ih := eqItems_regs d f w is (fun j hj => h j (by simp [hj]))
    have e : (((f i).toNat : Int) == ((f i).toNat : Int)) = true := by simp
    simp only [Op.eqItems, Sem.run_bind, p1, p3, Result.andThen_ok, e]
    simp [ih]
theorem regs_eq (d : Nat) (f : Nat → BitVec 32) (w : World) : (Op.equalIn (d + 2) 24 (.agg (regsL f).toArray) (.agg (regsL f).toArray)).run Tryz.prog w = .ok true w := by
  cases hi : Tryz.prog.info? 23 with
  | none => exact absurd hi (by have h : (Tryz.prog.info? 23).isSome = true := by kernel_rfl
                                intro h'; rw [h'] at h; cases h)
  | some i =>
    rw [run_equalIn_array w (d + 1) _ _ Tryz.underlying24 hi, cellsU32', eqItems_regs d f w (List.range 16) (fun i hi => List.mem_range.1 hi)]
theorem guardProc : Tryz.prog.eqGuardType Tryz.prog.depth 26 = false := by kernel_rfl
theorem fieldsProc : (Tryz.prog.fieldsOf 26).toList.map (fun f => (f.type, f.offset, f.name == "_")) = [(24, 0, false), (23, 16, false), (3, 17, false), (3, 18, false), (3, 19, false), (3, 20, false)] := by kernel_rfl
theorem undProc : Tryz.prog.underlying 26 = some (.struct (Tryz.prog.fieldsOf 26)) := by kernel_rfl
theorem heldProc : Tryz.prog.stoodInHeld 26 = false := by kernel_rfl
theorem plainIntP : Tryz.prog.plainKey 3 = true := by kernel_rfl
theorem infoRegs : (Tryz.prog.info? 24).map (·.size) = some 16 := by kernel_rfl
theorem part_regs (q : ProcV) (w : World) : (part 24 q.row.toArray 0).run Tryz.prog w = .ok (.agg (regsL q.r).toArray) w := by
  cases hi : Tryz.prog.info? 24 with
  | none => exact absurd infoRegs (by rw [hi]; simp)
  | some i =>
    have hs : i.size = 16 := by have := infoRegs; rw [hi] at this; simpa using this
    have e : List.take i.size (List.drop 0 q.row) = regsL q.r := by
      rw [hs, List.drop_zero]
      unfold ProcV.row
      rw [List.take_append_of_le_length (by rw [regsL_length]; omega), List.take_of_length_le (by rw [regsL_length]; omega)]
    simp [part, isAgg, run_underlying Tryz.underlying24, sizeOf, typeInfo, hi]
    simpa using e
theorem row_tail (q : ProcV) (k : Nat) (v : Value) (h : [Value.int .u32 (q.pc.toNat : Int), .int .i64 q.st, .int .i64 q.pr, .int .i64 q.wa, .int .i64 q.ob][k]? = some v) : q.row[16 + k]? = some v := by
  unfold ProcV.row
  rw [List.getElem?_append_right (by rw [regsL_length]; omega), regsL_length, Nat.add_sub_cancel_left]
  exact h
theorem eqFields_proc (d : Nat) (q : ProcV) (w : World) (fs : List Field) (h : fs.map (fun f => (f.type, f.offset, f.name == "_")) = [(24, 0, false), (23, 16, false), (3, 17, false), (3, 18, false), (3, 19, false), (3, 20, false)]) :
    (Op.eqFields (d + 2) q.row.toArray q.row.toArray fs).run Tryz.prog w = .ok true w := by
  obtain ⟨f1, f2, f3, f4, f5, f6, rfl⟩ : ∃ f1 f2 f3 f4 f5 f6, fs = [f1, f2, f3, f4, f5, f6] := by
    match fs, (show fs.length = 6 by have := congrArg List.length h; simpa using this) with
    | [f1, f2, f3, f4, f5, f6], _ => exact ⟨f1, f2, f3, f4, f5, f6, rfl⟩
  simp only [List.map_cons, List.map_nil, List.cons.injEq, Prod.mk.injEq, and_true] at h
  obtain ⟨⟨t1, o1, n1⟩, ⟨t2, o2, n2⟩, ⟨t3, o3, n3⟩, ⟨t4, o4, n4⟩, ⟨t5, o5, n5⟩, ⟨t6, o6, n6⟩⟩ := h
  have n1' : f1.name ≠ "_" := by intro e; rw [e] at n1; simp at n1
  have n2' : f2.name ≠ "_" := by intro e; rw [e] at n2; simp at n2
  have n3' : f3.name ≠ "_" := by intro e; rw [e] at n3; simp at n3
  have n4' : f4.name ≠ "_" := by intro e; rw [e] at n4; simp at n4
  have n5' : f5.name ≠ "_" := by intro e; rw [e] at n5; simp at n5
  have n6' : f6.name ≠ "_" := by intro e; rw [e] at n6; simp at n6
  have a2 : (part 23 q.row.toArray 16).run Tryz.prog w = .ok (.int .u32 (q.pc.toNat : Int)) w := run_part_plain w plainU32 (by simpa using row_tail q 0 _ rfl)
  have a3 : (part 3 q.row.toArray 17).run Tryz.prog w = .ok (.int .i64 q.st) w := run_part_plain w plainIntP (by simpa using row_tail q 1 _ rfl)
  have a4 : (part 3 q.row.toArray 18).run Tryz.prog w = .ok (.int .i64 q.pr) w := run_part_plain w plainIntP (by simpa using row_tail q 2 _ rfl)
  have a5 : (part 3 q.row.toArray 19).run Tryz.prog w = .ok (.int .i64 q.wa) w := run_part_plain w plainIntP (by simpa using row_tail q 3 _ rfl)
  have a6 : (part 3 q.row.toArray 20).run Tryz.prog w = .ok (.int .i64 q.ob) w := run_part_plain w plainIntP (by simpa using row_tail q 4 _ rfl)
  have b1 := regs_eq d q.r w
  have b2 := run_equalIn_int (P := Tryz.prog) w (d + 1) 23 .u32 .u32 (q.pc.toNat : Int) (q.pc.toNat : Int) Tryz.underlying23
  have b : ∀ x : Int, (Op.equalIn (d + 2) 3 (.int .i64 x) (.int .i64 x)).run Tryz.prog w = .ok (x == x) w := fun x => run_equalIn_int (P := Tryz.prog) w (d + 1) 3 .i64 .i64 x x Tryz.underlying3
  simp only [Op.eqFields, t1, t2, t3, t4, t5, t6, o1, o2, o3, o4, o5, o6, n1', n2', n3', n4', n5', n6', ne_eq, not_false_eq_true, if_true, Sem.run_bind, part_regs, a2, a3, a4, a5, a6, Result.andThen_ok, b1, b2, b, beq_self_eq_true, Bool.not_true, Bool.false_eq_true, if_false]
  try simp
theorem proc_eq (d : Nat) (q : ProcV) (w : World) : (Op.equalIn (d + 3) 26 (.agg q.row.toArray) (.agg q.row.toArray)).run Tryz.prog w = .ok true w := by
  rw [run_equalIn_struct w (d + 2) 26 _ _ undProc heldProc]
  exact eqFields_proc d q w _ fieldsProc
theorem set_r0 {q : ProcV} (h : q.r 0 = 0#32) (k : Nat) (x : BitVec 32) : (q.set k x).r 0 = 0#32 := by
  unfold ProcV.set
  by_cases hk : k = 0
  · rw [if_pos hk]; exact h
  · rw [if_neg hk]
    show (if (0 : Nat) = k then x else q.r 0) = 0#32
    rw [if_neg (fun e => hk e.symm)]
    exact h
theorem cmp_r0 {q : ProcV} (h : q.r 0 = 0#32) (i : InsV) : (cmpV q i).2.r 0 = 0#32 := by
  unfold cmpV
  dsimp only
  repeat' (first | exact set_r0 h _ _ | exact h | split)
theorem mem_r0 {P : Nat → PageV} {n : Nat} {q : ProcV} (h : q.r 0 = 0#32) (i : InsV) : (memV P n q i).2.2.r 0 = 0#32 := by
  unfold memV
  dsimp only
  split
  · exact h
  · dsimp only
    split
    · exact set_r0 h _ _
    · exact h
theorem jmp_r0 {q : ProcV} (h : q.r 0 = 0#32) (i : InsV) (nx : BitVec 32) : (jmpV q i nx).2.r 0 = 0#32 := by
  unfold jmpV
  split
  · exact set_r0 h _ _
  · split
    · exact h
    · exact h
theorem step_r0 {n : Nat} {P : Nat → PageV} {q : ProcV} (h : q.r 0 = 0#32) : (stepV n P q).q.r 0 = 0#32 := by
  unfold stepV
  dsimp only
  split
  · exact h
  · split
    · exact h
    · split
      · exact jmp_r0 h _ _
      · split
        · split
          · exact mem_r0 h _
          · exact mem_r0 h _
        · split
          · exact cmp_r0 h _
          · exact cmp_r0 h _
theorem it_r0 {n : Nat} {P : Nat → PageV} {q : ProcV} (h : q.r 0 = 0#32) (i : Nat) : (itV n P q i).q.r 0 = 0#32 := by
  induction i with
  | zero => exact h
  | succ i ih =>
    rw [itV]
    split
    · exact step_r0 ih
    · exact ih
theorem put_r0 (q : ProcV) : (q.put 0 0#32).r 0 = 0#32 := rfl
theorem put_same {q : ProcV} (h : q.r 0 = 0#32) : q.put 0 0#32 = q := by
  unfold ProcV.put
  have : (fun i => if i = 0 then 0#32 else q.r i) = q.r := by
    funext i
    by_cases hi : i = 0
    · rw [if_pos hi, hi, h]
    · rw [if_neg hi]
  rw [this]
theorem it_add {n : Nat} {P : Nat → PageV} {q : ProcV} {i : Nat} (h : (itV n P q i).k = 0) (j : Nat) :
    itV n P q (i + j) = ⟨(itV n (itV n P q i).P (itV n P q i).q j).P, (itV n (itV n P q i).P (itV n P q i).q j).q, (itV n (itV n P q i).P (itV n P q i).q j).k, (itV n (itV n P q i).P (itV n P q i).q j).c, i + (itV n (itV n P q i).P (itV n P q i).q j).s⟩ ∨ j = 0 := by
  induction j with
  | zero => exact .inr rfl
  | succ j ih =>
    left
    have hs := itV_steps h
    by_cases hj : j = 0
    · subst hj
      rw [Nat.zero_add, itV_next h]
      have e : itV n (itV n P q i).P (itV n P q i).q 1 = _ := itV_next (i := 0) rfl
      rw [e, hs]
      rfl
    · rcases ih with ih | ih
      · rw [← Nat.add_assoc]
        by_cases hk : (itV n (itV n P q i).P (itV n P q i).q j).k = 0
        · rw [itV_next (by rw [ih]; exact hk), itV_next hk, ih]
          rfl
        · rw [itV_stop (i := i + j) (by rw [ih]; exact hk) (i + j + 1) (by omega), itV_stop hk (j + 1) (by omega), ih]
      · exact absurd ih hj
/-- The steps taken; nothing taken. -/
theorem it_zero_k {n : Nat} {P : Nat → PageV} {q : ProcV} : itV n P q 0 = ⟨P, q, 0, 0, 0⟩ := rfl
theorem step_c0 {n : Nat} {P : Nat → PageV} {q : ProcV} (h : (stepV n P q).k = 0) : (stepV n P q).c = 0 := by
  unfold stepV at h ⊢
  dsimp only at h ⊢
  split at h
  · cases h
  · rename_i h1
    rw [if_neg h1]
    split at h
    · cases h
    · rename_i h2
      rw [if_neg h2]
      split at h
      · rename_i h3; rw [if_pos h3]
      · rename_i h3
        rw [if_neg h3]
        split at h
        · rename_i h4
          rw [if_pos h4]
          split at h
          · cases h
          · rename_i h5; rw [if_neg h5]
        · rename_i h4
          rw [if_neg h4]
          split at h
          · cases h
          · rename_i h5; rw [if_neg h5]
theorem it_c0 {n : Nat} {P : Nat → PageV} {q : ProcV} {i : Nat} (h : (itV n P q i).k = 0) : (itV n P q i).c = 0 := by
  cases i with
  | zero => rfl
  | succ i =>
    by_cases h0 : (itV n P q i).k = 0
    · rw [itV_next h0] at h ⊢
      exact step_c0 h
    · rw [itV, if_neg h0] at h
      exact absurd h h0
/-- A run for i + j steps behind one for i. -/
theorem it_split {n : Nat} {P : Nat → PageV} {q : ProcV} (h0 : q.r 0 = 0#32) {i : Nat} (h : (itV n P q i).k = 0) (j : Nat) (z : RunV) (hz : z = itV n (itV n P q i).P ((itV n P q i).q.put 0 0#32) j) :
    (itV n P q (i + j)).P = z.P ∧ (itV n P q (i + j)).q = z.q ∧ (itV n P q (i + j)).k = z.k ∧ (itV n P q (i + j)).c = z.c ∧ (itV n P q (i + j)).s = i + z.s := by
  rw [put_same (it_r0 h0 i)] at hz
  subst hz
  rcases it_add h j with h1 | h1
  · rw [h1]; exact ⟨rfl, rfl, rfl, rfl, rfl⟩
  · subst h1
    rw [Nat.add_zero]
    exact ⟨rfl, rfl, h, it_c0 h, itV_steps h⟩
end Go.Proofs.YtadikbmbadldpaaGreatDoor
namespace Go.Proofs.YtadikbmbadldpaaGreatDoor
set_option linter.unusedVariables false

theorem it_at {n : Nat} {P : Nat → PageV} {q : ProcV} (N : Nat) : itV n P q (itV n P q N).s = itV n P q N ∧ (∀ i, i < (itV n P q N).s → (itV n P q i).k = 0) ∧ (itV n P q N).s ≤ N ∧ ((itV n P q N).k = 0 → (itV n P q N).s = N) := by
  induction N with
  | zero => exact ⟨rfl, fun i hi => absurd hi (Nat.not_lt_zero _), Nat.le_refl _, fun _ => rfl⟩
  | succ N ih =>
    obtain ⟨h1, h2, h3, h4⟩ := ih
    by_cases h0 : (itV n P q N).k = 0
    · have e : (itV n P q (N + 1)).s = N + 1 := by rw [itV_next h0]; exact congrArg (· + 1) (itV_steps h0)
      refine ⟨by rw [e], fun i hi => ?_, by omega, fun _ => e⟩
      rw [e] at hi
      by_cases hi2 : i = N
      · rw [hi2]; exact h0
      · exact h2 i (by rw [h4 h0]; omega)
    · have e : itV n P q (N + 1) = itV n P q N := itV_stop h0 (N + 1) (by omega)
      rw [e]
      exact ⟨h1, h2, by omega, fun h => absurd h h0⟩
/-- One step from a run's end, as a run of one step. -/
theorem it_one {n : Nat} {P : Nat → PageV} {q : ProcV} (h0 : q.r 0 = 0#32) {i : Nat} (h : (itV n P q i).k = 0) : itV n (itV n P q i).P ((itV n P q i).q.put 0 0#32) 1 = ⟨(itV n P q (i + 1)).P, (itV n P q (i + 1)).q, (itV n P q (i + 1)).k, (itV n P q (i + 1)).c, 1⟩ := by
  rw [put_same (it_r0 h0 i), itV_next h]
  have e : itV n (itV n P q i).P (itV n P q i).q 1 = _ := itV_next (i := 0) rfl
  rw [e]
  rfl
end Go.Proofs.YtadikbmbadldpaaGreatDoor
namespace Go.Proofs.YtadikbmbadldpaaGreatDoor
open Go Go.RowKit
set_option linter.unusedVariables false
set_option linter.unusedSimpArgs false

abbrev zM : Array Value := #[.slice none 0 0, .int .u32 0, .int .u32 0, .int .u32 0, .int .u32 0, .int .u32 0, .int .u32 0, .int .u32 0, .int .u32 0, .int .u32 0, .int .u32 0, .int .u32 0, .int .u32 0, .int .u32 0, .int .u32 0, .int .u32 0, .int .u32 0, .int .u32 0, .int .i64 0, .int .i64 0, .int .i64 0, .int .i64 0, .int .i64 0, .int .i64 0, .int .i64 0]
/-- The machine's cells. -/
def mRow (v : Value) (q : ProcV) (k s c : Int) : Array Value := (v :: (q.row ++ stC k s c)).toArray
theorem mRow_size (v : Value) (q : ProcV) (k s c : Int) : (mRow v q k s c).size = 25 := by
  unfold mRow
  rw [List.size_toArray, List.length_cons, List.length_append, q.row_length]
  rfl
theorem mRow_info (v : Value) (q : ProcV) (k s c : Int) : (Tryz.prog.info? 49).map (·.size) = some (mRow v q k s c).size := by rw [mRow_size]; kernel_rfl
theorem mRow_one (a : Option Addr) (n cap : Nat) (q : ProcV) (k s c : Int) : (mRow (.slice a n cap) q k s c).all (·.oneCell') = true := by
  unfold mRow
  rw [List.all_toArray, List.all_eq_true]
  intro u hu
  simp only [List.mem_cons, List.mem_append, stC, List.not_mem_nil, or_false] at hu
  rcases hu with rfl | hu | rfl | rfl | rfl
  · rfl
  · exact q.row_one u hu
  · rfl
  · rfl
  · rfl
theorem built_M (a : Option Addr) (n c : Nat) (q : ProcV) : Tryz.prog.built 49 [(0, .slice a n c), (1, .agg q.row.toArray)] = some (mRow (.slice a n c) q 0 0 0) := by kernel_rfl
theorem built_M' (a : Option Addr) (n c : Nat) (q : ProcV) (act : Act) (h8 : act.eval (.tmp 12) = .slice a n c) (h9 : act.eval (.tmp 13) = .agg q.row.toArray) : Tryz.prog.built 49 ((#[(0, .tmp 12), (1, .tmp 13)] : Array (Nat × Operand)).map fun (i, x) => (i, act.eval x)).toList = some (mRow (.slice a n c) q 0 0 0) := by
  have e : ((#[(0, .tmp 12), (1, .tmp 13)] : Array (Nat × Operand)).map fun (i, x) => (i, act.eval x)).toList = [(0, act.eval (.tmp 12)), (1, act.eval (.tmp 13))] := by simp
  rw [e, h8, h9]
  exact built_M a n c q
theorem tag_ne {w : World} {g : Nat} {cs ds : Array Value} {S T : TypeId} (h1 : Blk w g cs S) (h2 : Blk w g ds T) (hne : S ≠ T) : False := by
  have h1' : w.heap[g]? = some (.cells cs S (0, 0)) := h1
  have h2' : w.heap[g]? = some (.cells ds T (0, 0)) := h2
  rw [h1'] at h2'
  simp only [Option.some.injEq, Obj.cells.injEq] at h2'
  exact hne h2'.2.1
theorem row_blk {w : World} {B : Nat} {E : TypeId} {m : Nat} {v : Value} {n : Nat} {xs : List Value} (h : w.ownsRow B E m v n xs) {k : Nat} (e : v.ownBlock = some k) : ∃ cs, Blk w k cs E := by
  rcases h.2 with ⟨hv, _⟩ | ⟨g, cap, cur, hv, _, hh, _⟩
  · subst hv; cases e
  · subst hv; cases e; exact ⟨cur, hh⟩
theorem rows_setRow {w : World} {B : Nat} {E : TypeId} {m : Nat} {v : Value} {n : Nat} {xs : List Value} (h : w.ownsRow B E m v n xs) (g : Nat) (cs : Array Value) (hg : v.ownBlock ≠ some g) : (w.setRow g cs).ownsRow B E m v n xs := by
  refine ⟨h.1, ?_⟩
  rcases h.2 with h' | ⟨g', cap, cur, hv, hb, hh, r⟩
  · exact .inl h'
  · exact .inr ⟨g', cap, cur, hv, hb, (setRow_other _ _ _ _ (fun e => hg (by rw [hv, e]; rfl))).trans hh, r⟩
theorem rows_setCell {w : World} {B : Nat} {E : TypeId} {m : Nat} {v : Value} {n : Nat} {xs : List Value} (h : w.ownsRow B E m v n xs) (g i : Nat) (u : Value) (hg : v.ownBlock ≠ some g) : (w.setCell ⟨g, i, none⟩ u).ownsRow B E m v n xs := by
  refine ⟨h.1, ?_⟩
  rcases h.2 with h' | ⟨g', cap, cur, hv, hb, hh, r⟩
  · exact .inl h'
  · exact .inr ⟨g', cap, cur, hv, hb, (heap_setCell_other _ ⟨g, i, none⟩ g' _ (fun e => hg (by rw [hv, e]; rfl))).trans hh, r⟩
theorem RSt.grown {W w w' : World} {cs : List (Nat × Array Value × TypeId)} {b : Nat} {v : Value} {n : Nat} {P : Nat → PageV} {q : ProcV} {k s c : Int} {row : Option Nat} (h : RSt ⟨W, cs⟩ w b v n P q k s c) (hg : w.grownBy w' row) (h1 : some b ≠ row) (h2 : v.ownBlock = none ∨ v.ownBlock ≠ row) (h3 : ∀ k, row = some k → W.heap.size ≤ k) (h4 : ∀ c ∈ cs, some c.1 ≠ row) : RSt ⟨W, cs⟩ w' b v n P q k s c :=
  ⟨(hg.block b h.mach.lt h1).trans h.mach, World.ownsRow.kept h.own hg h2, h.far, h.base, h.below.grown hg h.below.size h3, fun c hc => ⟨(hg.block c.1 (h.keep c hc).1.lt (h4 c hc)).trans (h.keep c hc).1, (h.keep c hc).2⟩⟩
theorem RMachAt.steps {w : World} {b : Nat} {v : Value} {q : ProcV} {k s c : Int} (h : RMachAt w b v q k s c) (s' : Int) : RMachAt (w.setCell ⟨b, 23, none⟩ (.int .i64 s')) b v q k s' c := by
  have := Blk.set h 23 (.int .i64 s')
  unfold RMachAt
  have e : ((v :: (q.row ++ stC k s c)).toArray.setIfInBounds 23 (.int .i64 s')) = (v :: (q.row ++ stC k s' c)).toArray := by
    simp only [List.setIfInBounds_toArray, List.set_cons_succ]
    rw [List.set_append_right _ _ (by rw [q.row_length]; omega), q.row_length]
    rfl
  rw [← e]
  exact this
theorem RSt.steps {W : BaseW} {w : World} {b : Nat} {v : Value} {n : Nat} {P : Nat → PageV} {q : ProcV} {k s c : Int} (h : RSt W w b v n P q k s c) (s' : Int) : RSt W (w.setCell ⟨b, 23, none⟩ (.int .i64 s')) b v n P q k s' c :=
  ⟨h.mach.steps s', h.own.other b _ _ h.far, h.far, h.base, h.below.setCell (p := ⟨b, 23, none⟩) h.base _, fun c hc => ⟨(h.keep c hc).1.other _ _ _ (h.keep c hc).2.1, (h.keep c hc).2⟩⟩
theorem Blk.setRowO {w : World} {k : Nat} {cs : Array Value} {T : TypeId} (h : Blk w k cs T) (g : Nat) (ds : Array Value) (hne : k ≠ g) : Blk (w.setRow g ds) k cs T := (setRow_other w g k ds hne).trans h
structure RPathI (z0 : BaseW) (wr : World) (b : Nat) (n : Nat) (z : RunV) (L : List (BitVec 32)) (i : Nat) (pv : Value) : Prop where
  st : ∃ v s, RSt z0 wr b v n z.P z.q (z.k : Nat) s z.c
  row : wr.ownsRow z0.heap.size 23 1 pv i (wv L)
set_option maxRecDepth 100000 in
set_option maxHeartbeats 8000000 in
theorem ref6_run_ (a : Option Addr) (n cap : Nat) (P : Nat → PageV) (q : ProcV) (most : Int) (hm : most ≤ 10000) (w : World) (h : RdP w a n cap P) :
    Calls Tryz.prog 15 #[.slice a n cap, .agg q.row.toArray, .int .i64 most] w fun e w' => ∃ a2 cap2 pv, e = .returned (.tuple #[.agg (mRow (.slice a2 n cap2) (itV n P (q.put 0 0#32) most.toNat).q (itV n P (q.put 0 0#32) most.toNat).k (itV n P (q.put 0 0#32) most.toNat).s (itV n P (q.put 0 0#32) most.toNat).c), pv]) ∧ OwnP w' w.heap.size (.slice a2 n cap2) n (itV n P (q.put 0 0#32) most.toNat).P
      ∧ w'.ownsRow w.heap.size 23 1 pv (itV n P (q.put 0 0#32) most.toNat).s (wv (pathL n P (q.put 0 0#32) (itV n P (q.put 0 0#32) most.toNat).s)) ∧ Below w.heap.size w w' := by
  have hn := h.bound
  obtain ⟨w1, e1⟩ : ∃ w1, w1 = w.alloc (.cells q.row.toArray 26) := ⟨_, rfl⟩
  obtain ⟨w2, e2⟩ : ∃ w2, w2 = w1.alloc (.cells zM 49) := ⟨_, rfl⟩
  obtain ⟨B, hB⟩ : ∃ B, B = w.heap.size := ⟨_, rfl⟩
  have s1 : w1.heap.size = B + 1 := by rw [e1, hB]; simp
  have b1 : Below B w w1 := by rw [e1, hB]; exact below_alloc _ _
  have b2 : Below w1.heap.size w1 w2 := by rw [e2]; exact below_alloc _ _
  have b02 : Below B w w2 := b1.trans (b2.mono (by omega))
  have V1 : Kp (PrAt w2 B q) := ⟨Blk.later (by rw [e1, hB]; exact Blk.new _ _ _) b2⟩
  have V2 : Kp (Blk w2 (B + 1) zM 49) := ⟨by rw [e2, ← s1]; exact Blk.new _ _ _⟩
  have KC := Kp.mk (fun w' (hw : Below w.heap.size w w') => ref_copy a n cap P w' (h.later hw))
  have EW : Kp ((w.alloc (.cells q.row.toArray 26)).alloc (.cells zM 49) = w2) := ⟨by rw [e2, e1]⟩
  have HBq := Kp.mk hB
  have B2 := Kp.mk (hB ▸ b02)
  have S2 : Kp (w2.heap.size = B + 2) := ⟨by rw [e2]; simp [s1]⟩
  obtain ⟨qs, hqs⟩ : ∃ qs, qs = q.put 0 0#32 := ⟨_, rfl⟩
  have HQS := Kp.mk hqs
  have HR0 : Kp (qs.r 0 = 0#32) := ⟨by rw [hqs]; exact put_r0 q⟩
  rw [← hqs]
  obtain ⟨N, hN⟩ : ∃ N, N = most.toNat := ⟨_, rfl⟩
  rw [← hN]
  have HN := Kp.mk hN
  have HM := Kp.mk hm
  clear h e1 e2 hB s1 b1 b2 b02 hqs hN hm
  go_enter Tryz.func15, Tryz.ntmps15
  go_wp2_with fail
  rw [show ((w.alloc (.cells q.row.toArray 26)).alloc (.cells #[.slice none 0 0, .int .u32 0, .int .u32 0, .int .u32 0, .int .u32 0, .int .u32 0, .int .u32 0, .int .u32 0, .int .u32 0, .int .u32 0, .int .u32 0, .int .u32 0, .int .u32 0, .int .u32 0, .int .u32 0, .int .u32 0, .int .u32 0, .int .u32 0, .int .i64 0, .int .i64 0, .int .i64 0, .int .i64 0, .int .i64 0, .int .i64 0, .int .i64 0] 49)) = w2 from EW.out, ← HBq.out]
  refine wp_region_held_drew (S := fun v => v.rangeAt B 0 q.row) (by kernel_rfl) V1.out.drew.range (fun hHeld => ?_)
  refine wpAnyH_take (i := 0) (v := ?v0) rfl (by kernel_rfl) (by kernel_rfl) (by kernel_rfl) (fun _ _ _ h => h) (Or.inl ⟨by rfl, ?hy0⟩) (by assumption) ?rest0
  case hy0 => (intro w0 hSw; (try dsimp only at hSw); (try simp only [List.getElem_toArray, List.getElem_cons_zero, List.getElem_cons_succ]); go_simp) <;> (with_reducible rfl)
  try simp only [Act.put, List.getElem_toArray, List.getElem_cons_zero, List.getElem_cons_succ, List.setIfInBounds_toArray, List.set_cons_zero, List.set_cons_succ]
  refine wpAnyH_take (i := 2) rfl (by kernel_rfl) (by kernel_rfl) (by kernel_rfl) (fun _ _ _ h => h) (yieldsIf_load_mid (by rfl) 26 _ rfl B 0 rfl q.row _ (fun _ h => h) Tryz.underlying26 rfl (prSize q)) (by assumption) ?_
  try simp only [Act.put, List.getElem_toArray, List.getElem_cons_zero, List.getElem_cons_succ, List.setIfInBounds_toArray, List.set_cons_zero, List.set_cons_succ]
  refine wpAnyH_ready (rs := [1, 4]) (by kernel_rfl) (by simp) ?_
  refine AllReadyH.cons rfl (fun K hK => ?_) (AllReadyH.cons rfl (fun K hK => ?_) AllReadyH.nil)
  · go_simp
    refine (KC.out _ (B2.out.drew)).mono ?_
    rintro e w3 ⟨v, rfl, ho, hb⟩
    obtain ⟨a3, cap3, rfl, _⟩ := ho.rd hn
    have HO := Kp.mk ho
    have B3 := Kp.mk ((B2.out.drew).trans (hb.mono (B2.out.drew).size))
    have V3 := Kp.mk ((V1.out.drew).later hb)
    have V23 := Kp.mk ((V2.out.drew).later hb)
    have S3 : Kp (B + 2 ≤ w3.heap.size) := ⟨by have := hb.size; have h2 := S2.out; simp at this; omega⟩
    clear ho hb hHeld
    go_wp2_with fail
    refine hK.out _ _ V3.out.range (fun hHeld => ?_)
    clear hK K
    try simp only [Act.put, List.getElem_toArray, List.getElem_cons_zero, List.getElem_cons_succ, List.setIfInBounds_toArray, List.set_cons_zero, List.set_cons_succ]
    refine wpAnyH_take (i := 3) rfl (by kernel_rfl) (by kernel_rfl) (by kernel_rfl) (fun _ _ _ h => h) (yieldsIf_build (by rfl) 49 _ rfl _ (built_M' _ _ _ q _ rfl rfl)) (by assumption) ?_
    try simp only [Act.put, List.getElem_toArray, List.getElem_cons_zero, List.getElem_cons_succ, List.setIfInBounds_toArray, List.set_cons_zero, List.set_cons_succ]
    refine wpAnyH_ready (rs := [4]) (by kernel_rfl) (by simp) ?_
    refine AllReadyH.cons rfl (fun K hK => ?_) AllReadyH.nil
    go_simp
    refine hK.out _ _ (V3.out.later (below_alloc _ _)).range (fun hHeld => ?_)
    clear hK K
    try simp only [Act.put, List.getElem_toArray, List.getElem_cons_zero, List.getElem_cons_succ, List.setIfInBounds_toArray, List.set_cons_zero, List.set_cons_succ]
    have hb3 : B ≠ w3.heap.size := by have := S3.out; omega
    have hb4 : B + 1 ≠ w3.heap.size := by have := S3.out; omega
    refine wpAnyH_ready (rs := [5]) (by kernel_rfl) (by simp) ?_
    refine AllReadyH.cons rfl (fun K hK => ?_) AllReadyH.nil
    refine step_store_row rfl 49 _ _ rfl w3.heap.size (mRow (.slice a3 n cap3) q 0 0 0) rfl rfl 49 zM (Blk.new w3 _ _) (mRow_info _ _ _ _ _) (mRow_size _ _ _ _ _).symm (mRow_one _ _ _ _ _ _ _) ?_
    refine hK.out _ _ ((Blk.later V3.out (below_alloc _ _)).setRowO w3.heap.size _ hb3).range (fun hHeld => ?_)
    clear hK K
    refine wpAnyH_done (by kernel_rfl) ?_ _
    have HR3 : RSt ⟨w, [(B + 1, zM, 49)]⟩ ((w3.alloc (.cells zM 49)).setRow w3.heap.size (mRow (.slice a3 n cap3) q 0 0 0)) w3.heap.size (.slice a3 n cap3) n P q 0 0 0 := ⟨setRow_heap _ _ _ _ _ _ (Blk.new w3 _ _), rows_setRow ((HO.out.mono B2.out.drew.size).later (below_alloc _ _)) _ _ (ownP_far HO.out), ownP_far HO.out, B3.out.size, below_setRow (B3.out.trans ((below_alloc _ _).mono B3.out.size)) B3.out.size _, fun c hc => by
      simp only [List.mem_cons, List.not_mem_nil, or_false] at hc
      subst hc
      exact ⟨(V23.out.later (below_alloc _ _)).setRowO w3.heap.size _ hb4, hb4, fun e => absurd (own_far2 HO.out e) (by have := S2.out; simp; omega)⟩⟩
    have HRS := Kp.mk HR3
    clear HR3 hHeld hb3 hb4
    refine then_gen (F := fun W => Kp (RSt ⟨w, [(B + 1, zM, 49)]⟩ W w3.heap.size (.slice a3 n cap3) n P q 0 0 0)) HRS ?_
    generalize w3.heap.size = b
    intro W HST
    clear V23 S3
    clear KC EW V1 V2 B2 S2 HO B3 V3 HRS
    have x1 := HST.out.mach.reg 0 (by decide)
    have f1 := HST.out.mach.free 1
    have hlt := HST.out.lt
    have HI0 : Kp (RPathI ⟨w, [(B + 1, zM, 49)]⟩ (W.setCell ⟨b, 1, none⟩ (.int .u32 0)) b n (itV n P qs 0) (pathL n P qs 0) 0 (.slice none 0 0)) := ⟨⟨⟨_, 0, by have := HST.out.put 0 0#32 (by decide); rw [HQS.out]; exact this⟩, World.ownsRow_nil _ _ _ _⟩⟩
    go_wp2_with fail
    clear x1 f1 hlt HST
    go_loopw [9, 10] (fun pv kv wr => ∃ i : Nat, i ≤ N ∧ kv = .int .i64 (i : Int) ∧ Kp ((itV n P qs i).s = i) ∧ Kp (RPathI ⟨w, [(B + 1, zM, 49)]⟩ wr b n (itV n P qs i) (pathL n P qs i) i pv)) (fun pv _ _ => N - lenV pv)
    case atStart => exact ⟨0, Nat.zero_le _, rfl, ⟨rfl⟩, HI0⟩
    case round =>
      obtain ⟨i, hi, rfl, HS, HJ⟩ := hrel
      have hi2 : i ≤ 10000 := by have := HN.out; have := HM.out; omega
      obtain ⟨v, s, hst⟩ := HJ.out.st
      obtain ⟨va, vc, rfl, _⟩ := hst.own.rd hn
      obtain ⟨x, cx, hpv, hrd⟩ := wown_rd HJ.out.row (by omega)
      subst hpv
      clear hrd HI0
      obtain ⟨z, hz⟩ : ∃ z, z = itV n P qs i := ⟨_, rfl⟩
      have HPL : Kp (pathL n P qs (i + 1) = pathL n P qs i ++ [z.q.pc]) := ⟨by rw [hz]; exact pathL_succ _ _ _ _⟩
      have hz0 : z.q.r 0 = 0#32 := by rw [hz]; exact it_r0 HR0.out i
      rw [← hz] at HS HJ hst
      have HZ := Kp.mk hz
      have HIN := Kp.mk hi
      have HST := Kp.mk hst
      have HROW0 := Kp.mk HJ.out.row
      have HZ0 := Kp.mk hz0
      have d22 := hst.mach.st0
      have d23 := hst.mach.st1
      have f23 := hst.mach.free 23
      have d0 := hst.mach.pc
      clear hz hi hst HJ hz0
      by_cases hlt : i < N
      · have t1 : decide ((i : Int) < most) = true := decide_eq_true (by have := HN.out; omega)
        by_cases hk : z.k = 0
        · have t2 : ((z.k : Int) == 0) = true := by rw [hk]; rfl
          have KST := Kp.mk (fun (w' : World) (g : Nat) (cur : Array Value) (hs : RSt ⟨w, [(g, cur, 23), (B + 1, zM, 49)]⟩ w' b (.slice va n vc) n z.P z.q z.k s z.c) => ref6_step hs hn HZ0.out)
          have HNX : Kp (itV n P qs (i + 1) = ⟨(stepV n z.P z.q).P, (stepV n z.P z.q).q, (stepV n z.P z.q).k, (stepV n z.P z.q).c, i + 1⟩) := ⟨by
            rw [itV_next (by rw [← HZ.out]; exact hk), ← HZ.out, HS.out]⟩
          obtain ⟨o, ho⟩ : ∃ o, o = stepV n z.P z.q := ⟨_, rfl⟩
          rw [← ho] at KST HNX
          have HLT := Kp.mk hlt
          obtain ⟨pc, hpc⟩ : ∃ pc, pc = z.q.pc := ⟨_, rfl⟩
          rw [← hpc] at d0 HPL
          have HSZ : Kp (w.heap.size ≤ wr.heap.size) := ⟨HST.out.below.size⟩
          have HROW : Kp ((wr.alloc (.cells #[.int .u32 (pc.toNat : Int)] 23)).ownsRow w.heap.size 23 1 (.slice x i cx) i (wv (pathL n P qs i))) := ⟨wown_later HROW0.out (below_alloc _ _)⟩
          have HST1 := Kp.mk (HST.out.later (below_alloc (w := wr) (.cells #[.int .u32 (pc.toNat : Int)] 23)))
          clear hk ho hlt hpc d23 f23
          go_wp2_with (first
            | (refine append_words rfl _ _ rfl w.heap.size (.slice x i cx) i (wv (pathL n P qs i)) rfl HROW.out ⟨wr.heap.size, 0, none⟩ 1 1 [pc] rfl (RdW.lit1 wr pc) (by omega) (by have := HSZ.out; simp; omega) ?_; intro pv' w5 hr hg; rw [← wv_append, ← HPL.out] at hr; have HR5 := Kp.mk hr; have HG5 := Kp.mk hg; clear hr hg))
          obtain ⟨g, cp, cur, rfl, hgB, hgl, hgb, hgo⟩ := words_block HR5.out
          have HGO := Kp.mk hgo
          have HST5 : Kp (RSt ⟨w, [(g, cur, 23), (B + 1, zM, 49)]⟩ w5 b (.slice va n vc) n z.P z.q z.k s z.c) := ⟨by
            have hne : ∀ k, (Value.slice x i cx).ownBlock = some k → ∃ cs, Blk (wr.alloc (.cells #[.int .u32 (pc.toNat : Int)] 23)) k cs 23 := fun k e => row_blk HROW.out e
            have hgr : RSt ⟨w, [(B + 1, zM, 49)]⟩ w5 b (.slice va n vc) n z.P z.q z.k s z.c := by
              refine HST1.out.grown HG5.out (fun e => ?_) ?_ (fun k hk => words_far HROW.out hk) (fun c hc e => ?_)
              · obtain ⟨cs, h⟩ := hne b e.symm
                exact tag_ne HST1.out.mach h (by decide)
              · cases hv : (Value.slice va n vc).ownBlock with
                | none => exact .inl rfl
                | some k =>
                  refine .inr (fun e => ?_)
                  obtain ⟨cs, h⟩ := hne k e.symm
                  obtain ⟨ds, h2⟩ := row_blk HST1.out.own hv
                  exact tag_ne h2 h (by decide)
              · obtain ⟨cs, h⟩ := hne _ e.symm
                have h2 := (HST1.out.keep c hc).1
                simp only [List.mem_cons, List.not_mem_nil, or_false] at hc
                subst hc
                exact tag_ne h2 h (by show (49 : TypeId) ≠ 23; decide)
            refine hgr.withB g cur _ hgb (fun e => ?_) (fun e => ?_)
            · subst e
              exact tag_ne hgr.mach hgb (by decide)
            · obtain ⟨ds, h2⟩ := row_blk hgr.own e
              exact tag_ne h2 hgb (by decide)⟩
          clear HR5 HG5 HROW HST1 HST HROW0 hgo hgB hgl hgb d22 d0
          go_wp2_with (first
            | (go_at_call 22; (with_reducible refine (KST.out _ g cur HST5.out).mono ?_); rintro e w6 ⟨rfl, v6, hst⟩; have H6 := Kp.mk hst; clear hst))
          have J6 : Kp (RPathI ⟨w, [(B + 1, zM, 49)]⟩ w6 b n (itV n P qs (i + 1)) (pathL n P qs (i + 1)) (i + 1) (.slice (some ⟨g, 0, none⟩) (i + 1) cp)) := ⟨by
            rw [HNX.out]
            exact ⟨⟨v6, 1, H6.out.tail⟩, HGO.out _ H6.out.head⟩⟩
          go_roundw
          case rel => exact ⟨i + 1, HLT.out, by go_num, ⟨by rw [HNX.out]⟩, J6⟩
          case measure => have := HLT.out; simp [lenV]; omega
        · have t2 : ((z.k : Int) == 0) = false := by simpa using hk
          have HZN : Kp (itV n P qs N = z) := ⟨by rw [HZ.out]; exact itV_stop (by rw [← HZ.out]; exact hk) N (by have := HIN.out; omega)⟩
          clear hk hlt
          have HS23 := Kp.mk (HST.out.steps (i : Int))
          have HRW23 : Kp ((wr.setCell ⟨b, 23, none⟩ (.int .i64 (i : Int))).ownsRow w.heap.size 23 1 (.slice x i cx) i (wv (pathL n P qs i))) := ⟨rows_setCell HROW0.out b 23 _ (fun e => by
            obtain ⟨cs, h⟩ := row_blk HROW0.out e
            exact tag_ne HST.out.mach h (by decide))⟩
          clear HROW0 d0
          go_wp2_with (first
            | (refine wpList_load_row rfl 49 _ rfl b rfl 49 (mRow (.slice va n vc) z.q z.k i z.c) (0, 0) _ HS23.out.mach Tryz.underlying49 rfl (mRow_info _ _ _ _ _) ?_)
            | (refine wpList_store_row rfl 49 _ _ rfl (B + 1) (mRow (.slice va n vc) z.q z.k i z.c) rfl rfl 49 zM HS23.out.head (mRow_info _ _ _ _ _) (mRow_size _ _ _ _ _).symm (mRow_one _ _ _ _ _ _ _) ?_))
          refine bodyPost_ret (res2 rfl _ rfl (setRow_heap _ _ _ _ _ _ HS23.out.head) _ Tryz.underlying49 (mRow_info _ _ _ _ _)) rfl ?_
          refine ⟨va, vc, .slice x i cx, ?_, ?_, ?_, ?_⟩
          · rw [HZN.out, HS.out]; rfl
          · rw [HZN.out]
            exact rows_setRow HS23.out.own _ _ (HS23.out.keep _ (List.mem_cons_self ..)).2.2
          · rw [HZN.out, HS.out]
            exact rows_setRow HRW23.out _ _ (fun e => by
              obtain ⟨cs, h⟩ := row_blk HRW23.out e
              exact tag_ne HS23.out.head h (by decide))
          · exact below_setRow (show Below w.heap.size w _ from HS23.out.below) (by rw [HBq.out]; omega) _
      · have t1 : decide ((i : Int) < most) = false := decide_eq_false (by have := HN.out; omega)
        have HZN : Kp (itV n P qs N = z) := ⟨by rw [HZ.out, show i = N by have := HIN.out; omega]⟩
        clear hlt
        have HS23 := Kp.mk (HST.out.steps (i : Int))
        have HRW23 : Kp ((wr.setCell ⟨b, 23, none⟩ (.int .i64 (i : Int))).ownsRow w.heap.size 23 1 (.slice x i cx) i (wv (pathL n P qs i))) := ⟨rows_setCell HROW0.out b 23 _ (fun e => by
          obtain ⟨cs, h⟩ := row_blk HROW0.out e
          exact tag_ne HST.out.mach h (by decide))⟩
        clear HROW0 d0
        go_wp2_with (first
          | (refine wpList_load_row rfl 49 _ rfl b rfl 49 (mRow (.slice va n vc) z.q z.k i z.c) (0, 0) _ HS23.out.mach Tryz.underlying49 rfl (mRow_info _ _ _ _ _) ?_)
          | (refine wpList_store_row rfl 49 _ _ rfl (B + 1) (mRow (.slice va n vc) z.q z.k i z.c) rfl rfl 49 zM HS23.out.head (mRow_info _ _ _ _ _) (mRow_size _ _ _ _ _).symm (mRow_one _ _ _ _ _ _ _) ?_))
        refine bodyPost_ret (res2 rfl _ rfl (setRow_heap _ _ _ _ _ _ HS23.out.head) _ Tryz.underlying49 (mRow_info _ _ _ _ _)) rfl ?_
        refine ⟨va, vc, .slice x i cx, ?_, ?_, ?_, ?_⟩
        · rw [HZN.out, HS.out]; rfl
        · rw [HZN.out]
          exact rows_setRow HS23.out.own _ _ (HS23.out.keep _ (List.mem_cons_self ..)).2.2
        · rw [HZN.out, HS.out]
          exact rows_setRow HRW23.out _ _ (fun e => by
            obtain ⟨cs, h⟩ := row_blk HRW23.out e
            exact tag_ne HS23.out.head h (by decide))
        · exact below_setRow (show Below w.heap.size w _ from HS23.out.below) (by rw [HBq.out]; omega) _
  · go_simp
    refine hK.out _ _ (V1.out.drew.later (below_alloc _ _)).range (fun hHeld => ?_)
    clear hK K
    try simp only [Act.put, List.getElem_toArray, List.getElem_cons_zero, List.getElem_cons_succ, List.setIfInBounds_toArray, List.set_cons_zero, List.set_cons_succ]
    refine wpAnyH_ready (rs := [1]) (by kernel_rfl) (by simp) ?_
    refine AllReadyH.cons rfl (fun K hK => ?_) AllReadyH.nil
    go_simp
    refine (KC.out _ ((B2.out.drew).trans ((below_alloc (w := w2.drew) (.cells zM 49)).mono (B2.out.drew).size))).mono ?_
    rintro e w3 ⟨v, rfl, ho, hb⟩
    obtain ⟨a3, cap3, rfl, _⟩ := ho.rd hn
    have HO := Kp.mk ho
    have B3 := Kp.mk (((B2.out.drew).trans ((below_alloc (w := w2.drew) (.cells zM 49)).mono (B2.out.drew).size)).trans (hb.mono ((B2.out.drew).trans ((below_alloc (w := w2.drew) (.cells zM 49)).mono (B2.out.drew).size)).size))
    have V3 := Kp.mk ((V1.out.drew.later (below_alloc _ _)).later hb)
    have VN : Kp (Blk w3 w2.drew.heap.size zM 49) := ⟨(Blk.new w2.drew zM _).later hb⟩
    have V23 := Kp.mk ((V2.out.drew.later (below_alloc (w := w2.drew) (.cells zM 49))).later hb)
    have HFAR : Kp ((Value.slice a3 n cap3).ownBlock ≠ some w2.drew.heap.size) := ⟨fun e => absurd (own_far2 HO.out e) (by simp)⟩
    have HFAR1 : Kp ((Value.slice a3 n cap3).ownBlock ≠ some (B + 1)) := ⟨fun e => absurd (own_far2 HO.out e) (by have := S2.out; simp; omega)⟩
    clear ho hb hHeld
    go_wp2_with fail
    refine hK.out _ _ V3.out.range (fun hHeld => ?_)
    clear hK K
    try simp only [Act.put, List.getElem_toArray, List.getElem_cons_zero, List.getElem_cons_succ, List.setIfInBounds_toArray, List.set_cons_zero, List.set_cons_succ]
    refine wpAnyH_take (i := 3) rfl (by kernel_rfl) (by kernel_rfl) (by kernel_rfl) (fun _ _ _ h => h) (yieldsIf_build (by rfl) 49 _ rfl _ (built_M' _ _ _ q _ rfl rfl)) (by assumption) ?_
    try simp only [Act.put, List.getElem_toArray, List.getElem_cons_zero, List.getElem_cons_succ, List.setIfInBounds_toArray, List.set_cons_zero, List.set_cons_succ]
    have hb3 : B ≠ w2.drew.heap.size := by have := S2.out; simp; omega
    have hb4 : B + 1 ≠ w2.drew.heap.size := by have := S2.out; simp; omega
    refine wpAnyH_ready (rs := [5]) (by kernel_rfl) (by simp) ?_
    refine AllReadyH.cons rfl (fun K hK => ?_) AllReadyH.nil
    refine step_store_row rfl 49 _ _ rfl w2.drew.heap.size (mRow (.slice a3 n cap3) q 0 0 0) rfl rfl 49 zM (VN.out) (mRow_info _ _ _ _ _) (mRow_size _ _ _ _ _).symm (mRow_one _ _ _ _ _ _ _) ?_
    refine hK.out _ _ (V3.out.setRowO w2.drew.heap.size _ hb3).range (fun hHeld => ?_)
    clear hK K
    refine wpAnyH_done (by kernel_rfl) ?_ _
    have HR3 : RSt ⟨w, [(B + 1, zM, 49)]⟩ (w3.setRow w2.drew.heap.size (mRow (.slice a3 n cap3) q 0 0 0)) w2.drew.heap.size (.slice a3 n cap3) n P q 0 0 0 := ⟨setRow_heap _ _ _ _ _ _ VN.out, rows_setRow (HO.out.mono ((B2.out.drew).trans ((below_alloc (w := w2.drew) (.cells zM 49)).mono (B2.out.drew).size)).size) _ _ HFAR.out, HFAR.out, B2.out.drew.size, below_setRow B3.out B2.out.drew.size _, fun c hc => by
      simp only [List.mem_cons, List.not_mem_nil, or_false] at hc
      subst hc
      exact ⟨V23.out.setRowO w2.drew.heap.size _ hb4, hb4, HFAR1.out⟩⟩
    have HRS := Kp.mk HR3
    clear HR3 hHeld hb3 hb4
    refine then_gen (F := fun W => Kp (RSt ⟨w, [(B + 1, zM, 49)]⟩ W w2.heap.size (.slice a3 n cap3) n P q 0 0 0)) HRS ?_
    generalize w2.heap.size = b
    intro W HST
    clear VN V23 HFAR HFAR1
    clear KC EW V1 V2 B2 S2 HO B3 V3 HRS
    have x1 := HST.out.mach.reg 0 (by decide)
    have f1 := HST.out.mach.free 1
    have hlt := HST.out.lt
    have HI0 : Kp (RPathI ⟨w, [(B + 1, zM, 49)]⟩ (W.setCell ⟨b, 1, none⟩ (.int .u32 0)) b n (itV n P qs 0) (pathL n P qs 0) 0 (.slice none 0 0)) := ⟨⟨⟨_, 0, by have := HST.out.put 0 0#32 (by decide); rw [HQS.out]; exact this⟩, World.ownsRow_nil _ _ _ _⟩⟩
    go_wp2_with fail
    clear x1 f1 hlt HST
    go_loopw [9, 10] (fun pv kv wr => ∃ i : Nat, i ≤ N ∧ kv = .int .i64 (i : Int) ∧ Kp ((itV n P qs i).s = i) ∧ Kp (RPathI ⟨w, [(B + 1, zM, 49)]⟩ wr b n (itV n P qs i) (pathL n P qs i) i pv)) (fun pv _ _ => N - lenV pv)
    case atStart => exact ⟨0, Nat.zero_le _, rfl, ⟨rfl⟩, HI0⟩
    case round =>
      obtain ⟨i, hi, rfl, HS, HJ⟩ := hrel
      have hi2 : i ≤ 10000 := by have := HN.out; have := HM.out; omega
      obtain ⟨v, s, hst⟩ := HJ.out.st
      obtain ⟨va, vc, rfl, _⟩ := hst.own.rd hn
      obtain ⟨x, cx, hpv, hrd⟩ := wown_rd HJ.out.row (by omega)
      subst hpv
      clear hrd HI0
      obtain ⟨z, hz⟩ : ∃ z, z = itV n P qs i := ⟨_, rfl⟩
      have HPL : Kp (pathL n P qs (i + 1) = pathL n P qs i ++ [z.q.pc]) := ⟨by rw [hz]; exact pathL_succ _ _ _ _⟩
      have hz0 : z.q.r 0 = 0#32 := by rw [hz]; exact it_r0 HR0.out i
      rw [← hz] at HS HJ hst
      have HZ := Kp.mk hz
      have HIN := Kp.mk hi
      have HST := Kp.mk hst
      have HROW0 := Kp.mk HJ.out.row
      have HZ0 := Kp.mk hz0
      have d22 := hst.mach.st0
      have d23 := hst.mach.st1
      have f23 := hst.mach.free 23
      have d0 := hst.mach.pc
      clear hz hi hst HJ hz0
      by_cases hlt : i < N
      · have t1 : decide ((i : Int) < most) = true := decide_eq_true (by have := HN.out; omega)
        by_cases hk : z.k = 0
        · have t2 : ((z.k : Int) == 0) = true := by rw [hk]; rfl
          have KST := Kp.mk (fun (w' : World) (g : Nat) (cur : Array Value) (hs : RSt ⟨w, [(g, cur, 23), (B + 1, zM, 49)]⟩ w' b (.slice va n vc) n z.P z.q z.k s z.c) => ref6_step hs hn HZ0.out)
          have HNX : Kp (itV n P qs (i + 1) = ⟨(stepV n z.P z.q).P, (stepV n z.P z.q).q, (stepV n z.P z.q).k, (stepV n z.P z.q).c, i + 1⟩) := ⟨by
            rw [itV_next (by rw [← HZ.out]; exact hk), ← HZ.out, HS.out]⟩
          obtain ⟨o, ho⟩ : ∃ o, o = stepV n z.P z.q := ⟨_, rfl⟩
          rw [← ho] at KST HNX
          have HLT := Kp.mk hlt
          obtain ⟨pc, hpc⟩ : ∃ pc, pc = z.q.pc := ⟨_, rfl⟩
          rw [← hpc] at d0 HPL
          have HSZ : Kp (w.heap.size ≤ wr.heap.size) := ⟨HST.out.below.size⟩
          have HROW : Kp ((wr.alloc (.cells #[.int .u32 (pc.toNat : Int)] 23)).ownsRow w.heap.size 23 1 (.slice x i cx) i (wv (pathL n P qs i))) := ⟨wown_later HROW0.out (below_alloc _ _)⟩
          have HST1 := Kp.mk (HST.out.later (below_alloc (w := wr) (.cells #[.int .u32 (pc.toNat : Int)] 23)))
          clear hk ho hlt hpc d23 f23
          go_wp2_with (first
            | (refine append_words rfl _ _ rfl w.heap.size (.slice x i cx) i (wv (pathL n P qs i)) rfl HROW.out ⟨wr.heap.size, 0, none⟩ 1 1 [pc] rfl (RdW.lit1 wr pc) (by omega) (by have := HSZ.out; simp; omega) ?_; intro pv' w5 hr hg; rw [← wv_append, ← HPL.out] at hr; have HR5 := Kp.mk hr; have HG5 := Kp.mk hg; clear hr hg))
          obtain ⟨g, cp, cur, rfl, hgB, hgl, hgb, hgo⟩ := words_block HR5.out
          have HGO := Kp.mk hgo
          have HST5 : Kp (RSt ⟨w, [(g, cur, 23), (B + 1, zM, 49)]⟩ w5 b (.slice va n vc) n z.P z.q z.k s z.c) := ⟨by
            have hne : ∀ k, (Value.slice x i cx).ownBlock = some k → ∃ cs, Blk (wr.alloc (.cells #[.int .u32 (pc.toNat : Int)] 23)) k cs 23 := fun k e => row_blk HROW.out e
            have hgr : RSt ⟨w, [(B + 1, zM, 49)]⟩ w5 b (.slice va n vc) n z.P z.q z.k s z.c := by
              refine HST1.out.grown HG5.out (fun e => ?_) ?_ (fun k hk => words_far HROW.out hk) (fun c hc e => ?_)
              · obtain ⟨cs, h⟩ := hne b e.symm
                exact tag_ne HST1.out.mach h (by decide)
              · cases hv : (Value.slice va n vc).ownBlock with
                | none => exact .inl rfl
                | some k =>
                  refine .inr (fun e => ?_)
                  obtain ⟨cs, h⟩ := hne k e.symm
                  obtain ⟨ds, h2⟩ := row_blk HST1.out.own hv
                  exact tag_ne h2 h (by decide)
              · obtain ⟨cs, h⟩ := hne _ e.symm
                have h2 := (HST1.out.keep c hc).1
                simp only [List.mem_cons, List.not_mem_nil, or_false] at hc
                subst hc
                exact tag_ne h2 h (by show (49 : TypeId) ≠ 23; decide)
            refine hgr.withB g cur _ hgb (fun e => ?_) (fun e => ?_)
            · subst e
              exact tag_ne hgr.mach hgb (by decide)
            · obtain ⟨ds, h2⟩ := row_blk hgr.own e
              exact tag_ne h2 hgb (by decide)⟩
          clear HR5 HG5 HROW HST1 HST HROW0 hgo hgB hgl hgb d22 d0
          go_wp2_with (first
            | (go_at_call 22; (with_reducible refine (KST.out _ g cur HST5.out).mono ?_); rintro e w6 ⟨rfl, v6, hst⟩; have H6 := Kp.mk hst; clear hst))
          have J6 : Kp (RPathI ⟨w, [(B + 1, zM, 49)]⟩ w6 b n (itV n P qs (i + 1)) (pathL n P qs (i + 1)) (i + 1) (.slice (some ⟨g, 0, none⟩) (i + 1) cp)) := ⟨by
            rw [HNX.out]
            exact ⟨⟨v6, 1, H6.out.tail⟩, HGO.out _ H6.out.head⟩⟩
          go_roundw
          case rel => exact ⟨i + 1, HLT.out, by go_num, ⟨by rw [HNX.out]⟩, J6⟩
          case measure => have := HLT.out; simp [lenV]; omega
        · have t2 : ((z.k : Int) == 0) = false := by simpa using hk
          have HZN : Kp (itV n P qs N = z) := ⟨by rw [HZ.out]; exact itV_stop (by rw [← HZ.out]; exact hk) N (by have := HIN.out; omega)⟩
          clear hk hlt
          have HS23 := Kp.mk (HST.out.steps (i : Int))
          have HRW23 : Kp ((wr.setCell ⟨b, 23, none⟩ (.int .i64 (i : Int))).ownsRow w.heap.size 23 1 (.slice x i cx) i (wv (pathL n P qs i))) := ⟨rows_setCell HROW0.out b 23 _ (fun e => by
            obtain ⟨cs, h⟩ := row_blk HROW0.out e
            exact tag_ne HST.out.mach h (by decide))⟩
          clear HROW0 d0
          go_wp2_with (first
            | (refine wpList_load_row rfl 49 _ rfl b rfl 49 (mRow (.slice va n vc) z.q z.k i z.c) (0, 0) _ HS23.out.mach Tryz.underlying49 rfl (mRow_info _ _ _ _ _) ?_)
            | (refine wpList_store_row rfl 49 _ _ rfl (B + 1) (mRow (.slice va n vc) z.q z.k i z.c) rfl rfl 49 zM HS23.out.head (mRow_info _ _ _ _ _) (mRow_size _ _ _ _ _).symm (mRow_one _ _ _ _ _ _ _) ?_))
          refine bodyPost_ret (res2 rfl _ rfl (setRow_heap _ _ _ _ _ _ HS23.out.head) _ Tryz.underlying49 (mRow_info _ _ _ _ _)) rfl ?_
          refine ⟨va, vc, .slice x i cx, ?_, ?_, ?_, ?_⟩
          · rw [HZN.out, HS.out]; rfl
          · rw [HZN.out]
            exact rows_setRow HS23.out.own _ _ (HS23.out.keep _ (List.mem_cons_self ..)).2.2
          · rw [HZN.out, HS.out]
            exact rows_setRow HRW23.out _ _ (fun e => by
              obtain ⟨cs, h⟩ := row_blk HRW23.out e
              exact tag_ne HS23.out.head h (by decide))
          · exact below_setRow (show Below w.heap.size w _ from HS23.out.below) (by rw [HBq.out]; omega) _
      · have t1 : decide ((i : Int) < most) = false := decide_eq_false (by have := HN.out; omega)
        have HZN : Kp (itV n P qs N = z) := ⟨by rw [HZ.out, show i = N by have := HIN.out; omega]⟩
        clear hlt
        have HS23 := Kp.mk (HST.out.steps (i : Int))
        have HRW23 : Kp ((wr.setCell ⟨b, 23, none⟩ (.int .i64 (i : Int))).ownsRow w.heap.size 23 1 (.slice x i cx) i (wv (pathL n P qs i))) := ⟨rows_setCell HROW0.out b 23 _ (fun e => by
          obtain ⟨cs, h⟩ := row_blk HROW0.out e
          exact tag_ne HST.out.mach h (by decide))⟩
        clear HROW0 d0
        go_wp2_with (first
          | (refine wpList_load_row rfl 49 _ rfl b rfl 49 (mRow (.slice va n vc) z.q z.k i z.c) (0, 0) _ HS23.out.mach Tryz.underlying49 rfl (mRow_info _ _ _ _ _) ?_)
          | (refine wpList_store_row rfl 49 _ _ rfl (B + 1) (mRow (.slice va n vc) z.q z.k i z.c) rfl rfl 49 zM HS23.out.head (mRow_info _ _ _ _ _) (mRow_size _ _ _ _ _).symm (mRow_one _ _ _ _ _ _ _) ?_))
        refine bodyPost_ret (res2 rfl _ rfl (setRow_heap _ _ _ _ _ _ HS23.out.head) _ Tryz.underlying49 (mRow_info _ _ _ _ _)) rfl ?_
        refine ⟨va, vc, .slice x i cx, ?_, ?_, ?_, ?_⟩
        · rw [HZN.out, HS.out]; rfl
        · rw [HZN.out]
          exact rows_setRow HS23.out.own _ _ (HS23.out.keep _ (List.mem_cons_self ..)).2.2
        · rw [HZN.out, HS.out]
          exact rows_setRow HRW23.out _ _ (fun e => by
            obtain ⟨cs, h⟩ := row_blk HRW23.out e
            exact tag_ne HS23.out.head h (by decide))
        · exact below_setRow (show Below w.heap.size w _ from HS23.out.below) (by rw [HBq.out]; omega) _
end Go.Proofs.YtadikbmbadldpaaGreatDoor
namespace Go.Proofs.YtadikbmbadldpaaGreatDoor
open Go Go.RowKit
set_option linter.unusedVariables false
set_option linter.unusedSimpArgs false

def bndV (n : Int) : Int := if n > 3000 then 3000 else n
set_option maxRecDepth 100000 in
theorem law_bounded (n : Int) (w : World) : Calls Tryz.prog 9 #[.int .i64 n] w fun e w' => e = .returned (.int .i64 (bndV n)) ∧ w' = w := by
  unfold bndV
  by_cases h : n > 3000
  · rw [if_pos h]
    have t : decide (n > 3000) = true := decide_eq_true h
    clear h
    go_enter Tryz.func9, Tryz.ntmps9
    go_wp2
    go_ret
    exact ⟨rfl, rfl⟩
  · rw [if_neg h]
    have t : decide (n > 3000) = false := decide_eq_false h
    clear h
    go_enter Tryz.func9, Tryz.ntmps9
    go_wp2
    go_ret
    exact ⟨rfl, rfl⟩
def qz : ProcV := ⟨fun _ => 0#32, 0#32, 0, 0, 0, 0⟩
theorem qz_row : qz.row.toArray = zRow := by kernel_rfl
def awz : RunV := itV 2 (memP 12) (qz.put 0 0#32) 3
theorem aw_k : awz.k = 1 := by kernel_rfl
theorem aw_c : awz.c = 3 := by kernel_rfl
theorem aw_s : awz.s = 3 := by kernel_rfl
theorem aw_pc : awz.q.pc = 12#32 := by kernel_rfl
theorem aw_r1 : awz.q.r 1 = 5#32 := by kernel_rfl
theorem aw_d1 : (awz.P 1).dirty = true := by kernel_rfl
theorem aw_d0 : (awz.P 0).dirty = false := by kernel_rfl
theorem aw_b : (awz.P 1).data 3 = 5#8 := by kernel_rfl
theorem aw_ten : itV 2 (memP 12) (qz.put 0 0#32) 10 = awz := itV_stop (i := 3) (by show awz.k ≠ 0; rw [aw_k]; decide) 10 (by decide)
/-- Two variables of the call's own: a process, a stop. -/
abbrev st0 : Array Value := #[.int .i64 0, .int .i64 0, .int .i64 0]
abbrev twoW (w : World) : World := (w.alloc (.cells zRow 26)).alloc (.cells st0 38)
theorem two_a (w : World) : Blk (twoW w) w.heap.size zRow 26 := (Blk.new w zRow _).alloc _
theorem two_b (w : World) (R : Array Value) : Blk ((twoW w).setRow w.heap.size R) (w.heap.size + 1) st0 38 := by
  refine (setRow_other _ _ _ _ (by omega)).trans ?_
  have := Blk.new (w.alloc (.cells zRow 26)) st0 38
  have e : (w.alloc (.cells zRow 26)).heap.size = w.heap.size + 1 := by simp
  rw [e] at this
  exact this
structure TwoV (w W : World) (R S : Array Value) : Prop where
  a : Blk W w.heap.size R 26
  b : Blk W (w.heap.size + 1) S 38
  below : Below w.heap.size w W
theorem two_v (w : World) (R S : Array Value) : TwoV w (((twoW w).setRow w.heap.size R).setRow (w.heap.size + 1) S) R S :=
  ⟨(setRow_other _ _ _ _ (by omega)).trans (setRow_heap _ _ _ _ _ _ (two_a w)), setRow_heap _ _ _ _ _ _ (two_b w R), below_setRow (below_setRow ((below_alloc w _).trans ((below_alloc _ _).mono (by simp))) (Nat.le_refl _) _) (by omega) _⟩
theorem wpList_gen {ops : Array Oper} {rest : List Oper} {a : Act} {W : World} {Q : Exit → Act → World → Prop} (F : World → Prop) (hF : F W) (h : ∀ W', F W' → wpList Tryz.prog ops Q rest a W') : wpList Tryz.prog ops Q rest a W := h W hF
theorem stop_one (k s : Nat) (c : Int) : (stopA k s c).all (·.oneCell') = true := by simp [Value.oneCell']
theorem row_size21 (q : ProcV) : zRow.size = q.row.toArray.size := by
  show 21 = q.row.toArray.size
  rw [List.size_toArray, ProcV.row_length]
set_option maxRecDepth 100000 in
set_option maxHeartbeats 8000000 in
theorem law_awake (A : Nat → Addr) (w : World) (hE : Errs w [4, 7, 20] A) (ht : BlankT w) : Calls Tryz.prog 4 #[] w fun e w' => e = .returned (.bool true) ∧ Below w.heap.size w w' := by
  have KM := Kp.mk (law_memory w)
  have KR : Kp (∀ v w1, OwnP w1 w.heap.size v 2 (memP 12) → Below w.heap.size w w1 → Calls Tryz.prog 11 #[v, .agg zRow, .int .i64 10] w1 fun e w' => ∃ v2, e = .returned (.tuple #[v2, .agg awz.q.row.toArray, .agg (stopA 1 3 3)]) ∧ OwnP w' w1.heap.size v2 2 awz.P ∧ Below w1.heap.size w1 w') := ⟨fun v w1 ho hb => by
    obtain ⟨a, cap, rfl, hrd⟩ := ho.rd (by decide)
    have := core_run A a 2 cap (memP 12) qz 10 (by decide) w1 hrd (hE.later hb) (ht.later hb)
    rw [show ((10 : Int).toNat) = 10 from rfl, aw_ten, aw_k, aw_s, aw_c, qz_row] at this
    exact this⟩
  obtain ⟨z, hz⟩ : ∃ z, z = awz := ⟨_, rfl⟩
  have hp16 : z.q.row[16]? = some (.int .u32 12) := by rw [hz, ProcV.row_pc, aw_pc]; rfl
  have hp1 : z.q.row[1]? = some (.int .u32 5) := by rw [hz, ProcV.row_reg _ 1 (by decide), aw_r1]; rfl
  have hd1 : (z.P 1).dirty = true := by rw [hz]; exact aw_d1
  have hd0 : (z.P 0).dirty = false := by rw [hz]; exact aw_d0
  have hb1 : (z.P 1).data 3 = 5#8 := by rw [hz]; exact aw_b
  rw [← hz] at KR
  obtain ⟨R, hR⟩ : ∃ R, R = z.q.row.toArray := ⟨_, rfl⟩
  have hRs : zRow.size = R.size := by rw [hR]; exact row_size21 _
  have hRi : (Tryz.prog.info? 26).map (·.size) = some R.size := by rw [hR]; exact prSizeA _
  have hR1 : R.all (·.oneCell') = true := by rw [hR]; exact row_all_one _
  have hR16 : R[16]? = some (.int .u32 12) := by rw [hR]; simpa using hp16
  have hRr1 : R[1]? = some (.int .u32 5) := by rw [hR]; simpa using hp1
  rw [← hR] at KR
  have HI := Kp.mk (And.intro hRs (And.intro hRi hR1))
  have HC := Kp.mk (And.intro hR16 hRr1)
  have HD := Kp.mk (And.intro hd1 (And.intro hd0 hb1))
  clear hz hp16 hp1 hd1 hd0 hb1 hR hRs hRi hR1 hR16 hRr1 hE ht
  go_enter Tryz.func4, Tryz.ntmps4
  go_wp2_with fail
  refine KM.out.mono ?_
  rintro e w1 ⟨v, rfl, ho, hb⟩
  have H1 := Kp.mk ho
  have B1 := Kp.mk hb
  clear ho hb KM
  go_wp2_with fail
  refine (KR.out v w1 H1.out B1.out).mono ?_
  rintro e w2 ⟨v2, rfl, ho, hb⟩
  obtain ⟨g, cap, rfl, hg, _⟩ := ho.shape (by decide)
  have HO := Kp.mk ho
  have B2 := Kp.mk (B1.out.trans (hb.mono B1.out.size))
  clear ho hb KR H1 B1 hg
  go_wp2_with (first
    | (refine wpList_store_row rfl 26 _ _ rfl w2.heap.size R rfl rfl 26 _ (two_a w2) HI.out.2.1 HI.out.1 HI.out.2.2 ?_)
    | (refine wpList_store_row rfl 38 _ _ rfl (w2.heap.size + 1) (stopA 1 3 3) rfl rfl 38 _ (two_b w2 R) (stopSize _ _ _) rfl (stop_one _ _ _) ?_; refine wpList_gen (F := fun W => Kp (TwoV w2 W R (stopA 1 3 3))) ⟨two_v w2 R _⟩ ?_; intro w3 HT3; have s0 := HT3.out.b.cell 0 _ rfl; have s1 := HT3.out.b.cell 1 _ rfl; have s2 := HT3.out.b.cell 2 _ rfl; have r16 := HT3.out.a.cell 16 _ HC.out.1; have r1 := HT3.out.a.cell 1 _ HC.out.2; have HO3 := Kp.mk (HO.out.later HT3.out.below); have d1 : w3.cell? ⟨g, 67, none⟩ = some (.bool true) := (by have := HO3.out.cell 1 1 (by decide) (by decide); rw [this]; show some (Value.bool (z.P 1).dirty) = _; rw [HD.out.1]); have d0 : w3.cell? ⟨g, 1, none⟩ = some (.bool false) := (by have := HO3.out.cell 0 1 (by decide) (by decide); rw [this]; show some (Value.bool (z.P 0).dirty) = _; rw [HD.out.2.1]); have b3 : w3.cell? ⟨g, 71, none⟩ = some (.int .u8 5) := (by have := HO3.out.cell 1 5 (by decide) (by decide); rw [this, PageV.row_data _ 3 (by decide), HD.out.2.2]; rfl)))
  go_ret
  exact ⟨rfl, B2.out.trans (HT3.out.below.mono B2.out.size)⟩
end Go.Proofs.YtadikbmbadldpaaGreatDoor
namespace Go.Proofs.YtadikbmbadldpaaGreatDoor
open Go Go.RowKit
set_option linter.unusedVariables false
set_option linter.unusedSimpArgs false

end Go.Proofs.YtadikbmbadldpaaGreatDoor
namespace Go.Proofs.YtadikbmbadldpaaGreatDoor
open Go Go.RowKit
set_option linter.unusedVariables false
set_option linter.unusedSimpArgs false

theorem stSize (k s c : Int) : (Tryz.prog.info? 38).map (·.size) = some (stC k s c).length := by kernel_rfl
theorem mrow_proc {w : World} {g : Nat} {v : Value} {q : ProcV} {k s c : Int} {T : TypeId} (h : Blk w g (mRow v q k s c) T) : w.rangeAt g 1 q.row := fun j u hu => by
  refine Blk.cell h (1 + j) u ?_
  unfold mRow
  rw [show 1 + j = j + 1 by omega]
  simp only [List.getElem?_toArray, List.getElem?_cons_succ]
  have hl : j < q.row.length := by
    rcases List.getElem?_eq_some_iff.1 hu with ⟨hlt, _⟩
    exact hlt
  rw [List.getElem?_append_left hl]
  exact hu
theorem mrow_stop {w : World} {g : Nat} {v : Value} {q : ProcV} {k s c : Int} {T : TypeId} (h : Blk w g (mRow v q k s c) T) : w.rangeAt g 22 (stC k s c) := fun j u hu => by
  refine Blk.cell h (22 + j) u ?_
  unfold mRow
  rw [show 22 + j = (21 + j) + 1 by omega]
  simp only [List.getElem?_toArray, List.getElem?_cons_succ]
  rw [List.getElem?_append_right (by rw [q.row_length]; omega), q.row_length, show 21 + j - 21 = j by omega]
  exact hu
set_option maxRecDepth 100000 in
set_option maxHeartbeats 8000000 in
theorem ref6_run (a : Option Addr) (n cap : Nat) (P : Nat → PageV) (q : ProcV) (most : Int) (hm : most ≤ 10000) (w : World) (h : RdP w a n cap P) (z : RunV) (hz : z = itV n P (q.put 0 0#32) most.toNat) :
    Calls Tryz.prog 10 #[.slice a n cap, .agg q.row.toArray, .int .i64 most] w fun e w' => ∃ v, e = .returned (.tuple #[v, .agg z.q.row.toArray, .agg (stopA z.k z.s z.c)]) ∧ OwnP w' w.heap.size v n z.P ∧ Below w.heap.size w w' := by
  have hn := h.bound
  obtain ⟨w1, e1⟩ : ∃ w1, w1 = w.alloc (.cells q.row.toArray 26) := ⟨_, rfl⟩
  obtain ⟨w2, e2⟩ : ∃ w2, w2 = w1.alloc (.cells zRow 26) := ⟨_, rfl⟩
  obtain ⟨w3, e3⟩ : ∃ w3, w3 = w2.alloc (.cells (stopA 0 0 0) 38) := ⟨_, rfl⟩
  obtain ⟨B, hB⟩ : ∃ B, B = w.heap.size := ⟨_, rfl⟩
  have s1 : w1.heap.size = B + 1 := by rw [e1, hB]; simp
  have s22 : w2.heap.size = B + 2 := by rw [e2]; simp [s1]
  have s3 : w3.heap.size = B + 3 := by rw [e3]; simp [s22]
  have b1 : Below B w w1 := by rw [e1, hB]; exact below_alloc _ _
  have b2 : Below w1.heap.size w1 w2 := by rw [e2]; exact below_alloc _ _
  have b3 : Below w2.heap.size w2 w3 := by rw [e3]; exact below_alloc _ _
  have b13 : Below w1.heap.size w1 w3 := b2.trans (b3.mono (by omega))
  have b03 : Below B w w3 := b1.trans (b13.mono (by omega))
  have U0 : Kp (PrAt w3 B q) := ⟨Blk.later (by rw [e1, hB]; exact Blk.new _ _ _) b13⟩
  have U1 : Kp (Blk w3 (B + 1) zRow 26) := ⟨Blk.later (by rw [e2, ← s1]; exact Blk.new _ _ _) b3⟩
  have U2 : Kp (Blk w3 (B + 2) (stopA 0 0 0) 38) := ⟨by rw [e3, ← s22]; exact Blk.new _ _ _⟩
  have KR := Kp.mk (ref6_run_ a n cap P q most hm w3 (h.later (hB ▸ b03)))
  rw [← hz] at KR
  have B03 := Kp.mk b03
  have S3 := Kp.mk s3
  have HBq := Kp.mk hB
  have EQ : Kp (((w.alloc (.cells q.row.toArray 26)).alloc (.cells zRow 26)).alloc (.cells (stopA 0 0 0) 38) = w3) := ⟨by rw [e3, e2, e1]⟩
  have U0' : Kp (Blk (((w.alloc (.cells q.row.toArray 26)).alloc (.cells zRow 26)).alloc (.cells (stopA 0 0 0) 38)) w.heap.size q.row.toArray 26) := ⟨by rw [EQ.out, ← HBq.out]; exact U0.out⟩
  obtain ⟨k2, hk2⟩ : ∃ k : Int, k = (z.k : Nat) := ⟨_, rfl⟩
  obtain ⟨s2, hs2⟩ : ∃ k : Int, k = (z.s : Nat) := ⟨_, rfl⟩
  obtain ⟨c2, hc2⟩ : ∃ k : Int, k = z.c := ⟨_, rfl⟩
  obtain ⟨q2, hq2⟩ : ∃ k, k = z.q := ⟨_, rfl⟩
  obtain ⟨P2, hP2⟩ : ∃ k, k = z.P := ⟨_, rfl⟩
  have hsa : (stopA z.k z.s z.c) = (stC k2 s2 c2).toArray := by rw [hk2, hs2, hc2]; rfl
  rw [hsa, ← hq2, ← hP2]
  rw [← hk2, ← hs2, ← hc2, ← hq2, ← hP2] at KR
  have KR2 : Kp (Calls Tryz.prog 15 #[.slice a n cap, .agg q.row.toArray, .int .i64 most] w3 fun e w' => ∃ a2 cap2 pv, e = .returned (.tuple #[.agg (mRow (.slice a2 n cap2) q2 k2 s2 c2), pv]) ∧ OwnP w' w3.heap.size (.slice a2 n cap2) n P2 ∧ Below w3.heap.size w3 w') := ⟨KR.out.mono fun e w' ⟨a2, cap2, pv, h1, h2, _, h3⟩ => ⟨a2, cap2, pv, h1, h2, h3⟩⟩
  clear h e1 e2 e3 s1 s22 s3 b1 b2 b3 b13 b03 hB hz hk2 hs2 hc2 hq2 hP2 hsa KR
  go_enter Tryz.func10, Tryz.ntmps10
  go_wp2_with (refine wpList_load_row rfl 26 _ rfl w.heap.size rfl 26 q.row.toArray (0, 0) _ U0'.out Tryz.underlying26 rfl (prSizeA q) ?_)
  rw [show (((w.alloc (.cells q.row.toArray 26)).alloc (.cells zRow 26)).alloc (.cells #[.int .i64 0, .int .i64 0, .int .i64 0] 38)) = w3 from EQ.out]
  refine KR2.out.mono ?_
  rintro e w4 ⟨a2, cap2, pv, rfl, ho, hb⟩
  have V7 := Kp.mk (U1.out.later hb)
  have V8 := Kp.mk (U2.out.later hb)
  have HO := Kp.mk ho
  have BW4 : Kp (Below w.heap.size w w4) := ⟨by rw [← HBq.out]; exact B03.out.trans (hb.mono (by rw [HBq.out]; exact B03.out.size))⟩
  have HW4 : Kp (B + 3 ≤ w4.heap.size) := ⟨by have := hb.size; rw [S3.out] at this; exact this⟩
  clear ho hb KR2 U0 U0' EQ U1 U2
  rw [← HBq.out, show B + 1 + 1 = B + 2 from rfl]
  go_wp2_with (refine wpList_store_row rfl 49 _ _ rfl w4.heap.size (mRow (.slice a2 n cap2) q2 k2 s2 c2) rfl rfl 49 zM (Blk.new w4 zM _) (mRow_info _ _ _ _ _) (mRow_size _ _ _ _ _).symm (mRow_one _ _ _ _ _ _ _) ?_)
  trace_state
  have VM0 : Kp (Blk ((w4.alloc (.cells zM 49)).setRow w4.heap.size (mRow (.slice a2 n cap2) q2 k2 s2 c2)) w4.heap.size (mRow (.slice a2 n cap2) q2 k2 s2 c2) 49) := ⟨setRow_heap _ _ _ _ _ _ (Blk.new w4 zM _)⟩
  obtain ⟨g, hg⟩ : ∃ g, g = w4.heap.size := ⟨_, rfl⟩
  obtain ⟨w6, hw6⟩ : ∃ w6, w6 = (w4.alloc (.cells zM 49)).setRow w4.heap.size (mRow (.slice a2 n cap2) q2 k2 s2 c2) := ⟨_, rfl⟩
  have b46 : Below w4.heap.size w4 w6 := by rw [hw6]; exact below_setRow (below_alloc _ _) (Nat.le_refl _) _
  have VM : Kp (Blk w6 g (mRow (.slice a2 n cap2) q2 k2 s2 c2) 49) := ⟨by rw [hw6, hg]; exact VM0.out⟩
  have V76 := Kp.mk (V7.out.later b46)
  have V86 := Kp.mk (V8.out.later b46)
  clear V7 V8
  have V7 := V76
  have V8 := V86
  have HO6 := Kp.mk (HO.out.later b46)
  have BW6 : Kp (Below w.heap.size w w6) := ⟨BW4.out.trans (b46.mono BW4.out.size)⟩
  have HNE : Kp (g ≠ B + 1 ∧ g ≠ B + 2) := ⟨by have := HW4.out; omega⟩
  have HFR : Kp ((Value.slice a2 n cap2).ownBlock ≠ some (B + 1) ∧ (Value.slice a2 n cap2).ownBlock ≠ some (B + 2)) := ⟨fun e => absurd (own_far2 HO.out e) (by have := S3.out; omega), fun e => absurd (own_far2 HO.out e) (by have := S3.out; omega)⟩
  rw [← hw6, ← hg]
  clear hw6 hg b46 VM0 HO V76 V86
  refine wp_region_held_drew (S := fun w' => Blk w' g (mRow (.slice a2 n cap2) q2 k2 s2 c2) 49) (by kernel_rfl) VM.out.drew (fun hHeld => ?_)
  refine wpAnyH_take (i := 0) (v := ?v0) rfl (by kernel_rfl) (by kernel_rfl) (by kernel_rfl) (fun _ _ _ h => h) (Or.inl ⟨by rfl, ?hy0⟩) (by assumption) ?rest0
  case hy0 => (intro w0 hSw; have s0 := hSw.cell 0 _ rfl; (try dsimp only at hSw); (try simp only [List.getElem_toArray, List.getElem_cons_zero, List.getElem_cons_succ]); go_simp) <;> (with_reducible rfl)
  try simp only [Act.put, List.getElem_toArray, List.getElem_cons_zero, List.getElem_cons_succ, List.setIfInBounds_toArray, List.set_cons_zero, List.set_cons_succ]
  refine wpAnyH_take (i := 1) (v := ?v1) rfl (by kernel_rfl) (by kernel_rfl) (by kernel_rfl) (fun _ _ _ h => h) (Or.inl ⟨by rfl, ?hy1⟩) (by assumption) ?rest1
  case hy1 => (intro w0 hSw; have s0 := hSw.cell 0 _ rfl; (try dsimp only at hSw); (try simp only [List.getElem_toArray, List.getElem_cons_zero, List.getElem_cons_succ]); go_simp) <;> (with_reducible rfl)
  try simp only [Act.put, List.getElem_toArray, List.getElem_cons_zero, List.getElem_cons_succ, List.setIfInBounds_toArray, List.set_cons_zero, List.set_cons_succ]
  refine wpAnyH_take (i := 2) (v := ?v2) rfl (by kernel_rfl) (by kernel_rfl) (by kernel_rfl) (fun _ _ _ h => h) (Or.inl ⟨by rfl, ?hy2⟩) (by assumption) ?rest2
  case hy2 => (intro w0 hSw; have s0 := hSw.cell 0 _ rfl; (try dsimp only at hSw); (try simp only [List.getElem_toArray, List.getElem_cons_zero, List.getElem_cons_succ]); go_simp) <;> (with_reducible rfl)
  try simp only [Act.put, List.getElem_toArray, List.getElem_cons_zero, List.getElem_cons_succ, List.setIfInBounds_toArray, List.set_cons_zero, List.set_cons_succ]
  refine wpAnyH_take (i := 3) rfl (by kernel_rfl) (by kernel_rfl) (by kernel_rfl) (fun _ _ _ h => h) (yieldsIf_load_mid (by rfl) 26 _ rfl g 1 rfl q2.row _ (fun _ h => mrow_proc h) Tryz.underlying26 rfl (prSize q2)) (by assumption) ?_
  try simp only [Act.put, List.getElem_toArray, List.getElem_cons_zero, List.getElem_cons_succ, List.setIfInBounds_toArray, List.set_cons_zero, List.set_cons_succ]
  refine wpAnyH_take (i := 4) (v := ?v4) rfl (by kernel_rfl) (by kernel_rfl) (by kernel_rfl) (fun _ _ _ h => h) (Or.inl ⟨by rfl, ?hy4⟩) (by assumption) ?rest4
  case hy4 => (intro w0 hSw; have s0 := hSw.cell 0 _ rfl; (try dsimp only at hSw); (try simp only [List.getElem_toArray, List.getElem_cons_zero, List.getElem_cons_succ]); go_simp) <;> (with_reducible rfl)
  try simp only [Act.put, List.getElem_toArray, List.getElem_cons_zero, List.getElem_cons_succ, List.setIfInBounds_toArray, List.set_cons_zero, List.set_cons_succ]
  refine wpAnyH_take (i := 5) rfl (by kernel_rfl) (by kernel_rfl) (by kernel_rfl) (fun _ _ _ h => h) (yieldsIf_load_mid (by rfl) 38 _ rfl g 22 rfl (stC k2 s2 c2) _ (fun _ h => mrow_stop h) Tryz.underlying38 rfl (stSize k2 s2 c2)) (by assumption) ?_
  try simp only [Act.put, List.getElem_toArray, List.getElem_cons_zero, List.getElem_cons_succ, List.setIfInBounds_toArray, List.set_cons_zero, List.set_cons_succ]
  refine wpAnyH_take (i := 6) (v := ?v6) rfl (by kernel_rfl) (by kernel_rfl) (by kernel_rfl) (fun _ _ _ h => h) (Or.inl ⟨by rfl, ?hy6⟩) (by assumption) ?rest6
  case hy6 => (intro w0 hSw; have s0 := hSw.cell 0 _ rfl; (try dsimp only at hSw); (try simp only [List.getElem_toArray, List.getElem_cons_zero, List.getElem_cons_succ]); go_simp) <;> (with_reducible rfl)
  try simp only [Act.put, List.getElem_toArray, List.getElem_cons_zero, List.getElem_cons_succ, List.setIfInBounds_toArray, List.set_cons_zero, List.set_cons_succ]
  refine wpAnyH_ready (rs := [7]) (by kernel_rfl) (by simp) ?_
  refine AllReadyH.cons rfl (fun K hK => ?_) AllReadyH.nil
  refine step_store_row rfl 26 _ _ rfl (B + 1) q2.row.toArray rfl rfl 26 zRow V7.out.drew (prSizeA q2) (by show 21 = q2.row.toArray.size; rw [List.size_toArray, ProcV.row_length]) (row_all_one q2) ?_
  refine hK.out _ _ (hHeld.setRowO _ _ HNE.out.1) (fun hHeld2 => ?_)
  clear hK K
  refine wpAnyH_ready (rs := [8]) (by kernel_rfl) (by simp) ?_
  refine AllReadyH.cons rfl (fun K hK => ?_) AllReadyH.nil
  have VC8 : Blk (w6.drew.setRow (B + 1) q2.row.toArray) (B + 2) (stopA 0 0 0) 38 := V8.out.drew.setRowO _ _ (by omega)
  refine step_store_row rfl 38 _ _ rfl (B + 2) (stC k2 s2 c2).toArray rfl rfl 38 _ VC8 (stSize k2 s2 c2) rfl (by simp [stC, Value.oneCell']) ?_
  refine hK.out _ _ (hHeld2.setRowO _ _ HNE.out.2) (fun hHeld3 => ?_)
  clear hK K
  refine wpAnyH_done (by kernel_rfl) ?_ _
  go_wp2_with fail
  have R8 : Blk ((w6.drew.setRow (B + 1) q2.row.toArray).setRow (B + 2) (stC k2 s2 c2).toArray) (B + 2) (stC k2 s2 c2).toArray 38 := setRow_heap _ _ _ _ _ _ VC8
  have R7 : PrAt ((w6.drew.setRow (B + 1) q2.row.toArray).setRow (B + 2) (stC k2 s2 c2).toArray) (B + 1) q2 := Blk.setRowO (setRow_heap _ _ _ _ _ _ V7.out.drew) _ _ (by omega)
  refine bodyPost_ret (resRun rfl _ rfl rfl R7 R8 _ _ Tryz.underlying26 Tryz.underlying38 (prSizeA q2) (stSize k2 s2 c2)) rfl ?_
  refine ⟨_, rfl, ?_, ?_⟩
  · exact OwnP.mono (show OwnP _ w3.heap.size _ n P2 from rows_setRow (rows_setRow (HO6.out.later (Drew.once _).below) (B + 1) _ HFR.out.1) (B + 2) _ HFR.out.2) (by rw [S3.out, HBq.out]; omega)
  · exact below_setRow (below_setRow BW6.out.drew (by rw [HBq.out]; omega) _) (by rw [HBq.out]; omega) _
end Go.Proofs.YtadikbmbadldpaaGreatDoor
namespace Go.Proofs.YtadikbmbadldpaaGreatDoor
open Go Go.RowKit Go.Extern.Stop Go.Stop Go.Extern
set_option linter.unusedVariables false

noncomputable def comparableE : Array Value → Sem Value := Extern.ReflectliteType.method fun t => do Rtype.noPackHeld "Comparable" t; pure (.bool (← typeInfo t).comparable)
theorem isTypeOf (v : Value) (w : World) : (Extern.ReflectliteType.typeOf #[.iface 199 v]).run Tryz.prog w = .ok (.iface 111 (.agg #[.pointer (some ⟨24, 199, none⟩)])) w := by kernel_rfl
theorem isComparable (w : World) : (comparableE #[.agg #[.pointer (some ⟨24, 199, none⟩)]]).run Tryz.prog w = .ok (.bool true) w := by kernel_rfl
theorem isMethodComparable (v : Value) (w : World) : (Go.method 331 111 v "Comparable").run Tryz.prog w = .ok (129, v) w := by kernel_rfl
theorem isComp : (Tryz.prog.info? 199).map (·.comparable) = some true := by kernel_rfl
theorem isSize : (Tryz.prog.info? 220).map (·.size) = some 1 := by kernel_rfl
theorem noIsE (v : Value) (xT : TypeId) (w : World) : (Instr.typeAssert (.iface 199 v) xT 113 true).run Tryz.prog w = .ok (.tuple #[.nilIface, .bool false]) w := run_typeAssert_lacksB Tryz.underlying113 (by kernel_rfl) (by kernel_rfl) v xT w
theorem noUnwrapE (v : Value) (xT : TypeId) (w : World) : (Instr.typeAssert (.iface 199 v) xT 116 true).run Tryz.prog w = .ok (.tuple #[.nilIface, .bool false]) w := run_typeAssert_lacksB Tryz.underlying116 (by kernel_rfl) (by kernel_rfl) v xT w
theorem noUnwrapsE (v : Value) (xT : TypeId) (w : World) : (Instr.typeAssert (.iface 199 v) xT 118 true).run Tryz.prog w = .ok (.tuple #[.nilIface, .bool false]) w := run_typeAssert_lacksB Tryz.underlying118 (by kernel_rfl) (by kernel_rfl) v xT w

set_option maxRecDepth 100000 in
/-- errors.Is(x, x). -/
theorem is_same (a : Addr) (w : World) :
    Calls Tryz.prog 18 #[errv a, errv a] w fun e w' => e = .returned (.bool true) ∧ w' = w := by
  obtain ⟨i, hi, hcmp⟩ := Option.map_eq_some_iff.1 isComp
  obtain ⟨j, hj, hjs⟩ := Option.map_eq_some_iff.1 isSize
  have h8 := @run_callFunc_extern Tryz.prog 28 _ Extern.ReflectliteType.typeOf Tryz.func28 (by kernel_rfl) (by kernel_rfl) (by kernel_rfl) (by kernel_rfl)
  have h32 := @run_callFunc_extern Tryz.prog 129 _ comparableE Tryz.func129 (by kernel_rfl) (by kernel_rfl) (by kernel_rfl) (by kernel_rfl)
  have tT := isTypeOf
  have cT := isComparable
  have mR := isMethodComparable
  have heq := run_eql_iface_ptr_same (P := Tryz.prog) w a Tryz.underlying32 Tryz.underlying199 hi hcmp hj
  go_enter Tryz.func18, Tryz.ntmps18
  go_wp2
  refine wp_loop_rounds 1 ?_
  rw [rounds_succ]
  go_wp2
  go_ret
  exact ⟨rfl, rfl⟩
/-- errors.Is(nil, x). -/
theorem is_nil (b : Addr) (w : World) :
    Calls Tryz.prog 18 #[.nilIface, errv b] w fun e w' => e = .returned (.bool false) ∧ w' = w := by
  have hn := run_eql_iface_nil_left (P := Tryz.prog) w 199 (.pointer (some b)) Tryz.underlying32
  go_enter Tryz.func18, Tryz.ntmps18
  go_wp2
  go_ret
  exact ⟨rfl, rfl⟩
set_option maxRecDepth 100000 in
/-- errors.Is(x, y), two sentinels unlike one another. -/
theorem is_other (a b : Addr) (ca cb : Array Value) (ta tb : TypeId) (w : World) (hne : a ≠ b) (ha : w.heap[a.block]? = some (.cells ca ta (0, 0))) (hb : w.heap[b.block]? = some (.cells cb tb (0, 0))) :
    Calls Tryz.prog 18 #[errv a, errv b] w fun e w' => e = .returned (.bool false) ∧ w' = w := by
  obtain ⟨i, hi, hcmp⟩ := Option.map_eq_some_iff.1 isComp
  obtain ⟨j, hj, hjs⟩ := Option.map_eq_some_iff.1 isSize
  have h8 := @run_callFunc_extern Tryz.prog 28 _ Extern.ReflectliteType.typeOf Tryz.func28 (by kernel_rfl) (by kernel_rfl) (by kernel_rfl) (by kernel_rfl)
  have h32 := @run_callFunc_extern Tryz.prog 129 _ comparableE Tryz.func129 (by kernel_rfl) (by kernel_rfl) (by kernel_rfl) (by kernel_rfl)
  have tT := isTypeOf
  have cT := isComparable
  have mR := isMethodComparable
  have nE := noIsE
  have uE := noUnwrapE
  have vE := noUnwrapsE
  have heq := run_eql_iface_ptr_other (P := Tryz.prog) w Tryz.underlying32 Tryz.underlying199 hi hcmp hj (by rw [hjs]; decide) hne ha hb
  go_enter Tryz.func18, Tryz.ntmps18
  go_wp2
  refine wp_loop_rounds 1 ?_
  rw [rounds_succ]
  go_wp2
  go_ret
  exact ⟨rfl, rfl⟩
end Go.Proofs.YtadikbmbadldpaaGreatDoor
namespace Go.Proofs.YtadikbmbadldpaaGreatDoor
open Go Go.RowKit
set_option linter.unusedVariables false

abbrev allCodes : List Nat := [1, 2, 3, 4, 5, 6, 7, 8, 9, 10, 11, 12, 13, 14, 15, 16, 17, 18, 19, 20]
theorem mem_all {k : Nat} (h1 : 1 ≤ k) (h2 : k ≤ 20) : k ∈ allCodes := by
  unfold allCodes
  simp only [List.mem_cons, List.not_mem_nil, or_false]
  omega
/-- errors.Is of two sentinels by their codes. -/
theorem is_code {A : Nat → Addr} {w : World} (hE : Errs w allCodes A) (c k : Nat) (hc1 : 1 ≤ c) (hc : c ≤ 20) (hk1 : 1 ≤ k) (hk : k ≤ 20) :
    Calls Tryz.prog 18 #[errv (A c), errv (A k)] w fun e w' => e = .returned (.bool (decide (c = k))) ∧ w' = w := by
  by_cases h : c = k
  · subst h
    simp only [decide_true]
    exact is_same _ _
  · obtain ⟨ca, ta, ha⟩ := hE.row c (mem_all hc1 hc)
    obtain ⟨cb, tb, hb⟩ := hE.row k (mem_all hk1 hk)
    have e : decide (c = k) = false := decide_eq_false h
    rw [e]
    exact is_other (A c) (A k) ca cb ta tb w (hE.ne c (mem_all hc1 hc) k (mem_all hk1 hk) h) ha hb
set_option maxRecDepth 100000 in
theorem api_code2 {A : Nat → Addr} (w : World) (hE : Errs w allCodes A) (c : Nat) (hc1 : 11 ≤ c) (hc : c ≤ 20) :
    Calls Tryz.prog 19 #[errv (A c)] w fun e w' => e = .returned (.int .i64 (c : Int)) ∧ w' = w := by
  obtain ⟨bk, hbk⟩ : ∃ bk : Nat → Bool, bk = fun k => decide (c = k) := ⟨_, rfl⟩
  have HC : Kp (∀ k, 1 ≤ k → k ≤ 20 → Calls Tryz.prog 18 #[errv (A c), errv (A k)] w fun e w' => e = .returned (.bool (bk k)) ∧ w' = w) := ⟨fun k h1 h2 => by rw [hbk]; exact is_code hE c k (by omega) hc h1 h2⟩
  have HB : Kp (∀ k, bk k = true → c = k) := ⟨fun k h => by rw [hbk] at h; exact of_decide_eq_true h⟩
  have HF : Kp (∀ k, bk k = false → c ≠ k) := ⟨fun k h => by rw [hbk] at h; exact of_decide_eq_false h⟩
  have hcell := hE.cell
  have E11 := hcell 11 (by decide)
  have E12 := hcell 12 (by decide)
  have E13 := hcell 13 (by decide)
  have E14 := hcell 14 (by decide)
  have E15 := hcell 15 (by decide)
  have E16 := hcell 16 (by decide)
  have E17 := hcell 17 (by decide)
  have E18 := hcell 18 (by decide)
  have E19 := hcell 19 (by decide)
  have E20 := hcell 20 (by decide)
  simp only [errVar] at E11 E12 E13 E14 E15 E16 E17 E18 E19 E20
  have HX := Kp.mk (And.intro hc1 hc)
  clear hbk hcell hE hc1 hc
  go_enter Tryz.func19, Tryz.ntmps19
  go_wp2_with (go_at_call 18; refine (HC.out _ (by decide) (by decide)).mono ?_; rintro e w' ⟨rfl, rfl⟩)
  all_goals go_ret
  all_goals first
    | (have h := HB.out _ (by assumption); exact ⟨ret_int (by rw [h]; rfl), rfl⟩)
    | (exfalso; have hx := HX.out; have h11 := HF.out 11 (by assumption); have h12 := HF.out 12 (by assumption); have h13 := HF.out 13 (by assumption); have h14 := HF.out 14 (by assumption); have h15 := HF.out 15 (by assumption); have h16 := HF.out 16 (by assumption); have h17 := HF.out 17 (by assumption); have h18 := HF.out 18 (by assumption); have h19 := HF.out 19 (by assumption); have h20 := HF.out 20 (by assumption); omega)
set_option maxRecDepth 100000 in
/-- api.Code of a sentinel. -/
theorem api_code {A : Nat → Addr} (w : World) (hE : Errs w allCodes A) (c : Nat) (hc1 : 1 ≤ c) (hc : c ≤ 20) :
    Calls Tryz.prog 7 #[errv (A c)] w fun e w' => e = .returned (.int .i64 (c : Int)) ∧ w' = w := by
  obtain ⟨bk, hbk⟩ : ∃ bk : Nat → Bool, bk = fun k => decide (c = k) := ⟨_, rfl⟩
  have HC : Kp (∀ k, 1 ≤ k → k ≤ 20 → Calls Tryz.prog 18 #[errv (A c), errv (A k)] w fun e w' => e = .returned (.bool (bk k)) ∧ w' = w) := ⟨fun k h1 h2 => by rw [hbk]; exact is_code hE c k (by omega) hc h1 h2⟩
  have HB : Kp (∀ k, bk k = true → c = k) := ⟨fun k h => by rw [hbk] at h; exact of_decide_eq_true h⟩
  have HF : Kp (∀ k, bk k = false → c ≠ k) := ⟨fun k h => by rw [hbk] at h; exact of_decide_eq_false h⟩
  have HC2 : Kp (11 ≤ c → Calls Tryz.prog 19 #[errv (A c)] w fun e w' => e = .returned (.int .i64 (c : Int)) ∧ w' = w) := ⟨fun h => api_code2 w hE c h hc⟩
  have hcell := hE.cell
  have E1 := hcell 1 (by decide)
  have E2 := hcell 2 (by decide)
  have E3 := hcell 3 (by decide)
  have E4 := hcell 4 (by decide)
  have E5 := hcell 5 (by decide)
  have E6 := hcell 6 (by decide)
  have E7 := hcell 7 (by decide)
  have E8 := hcell 8 (by decide)
  have E9 := hcell 9 (by decide)
  have E10 := hcell 10 (by decide)
  simp only [errVar] at E1 E2 E3 E4 E5 E6 E7 E8 E9 E10
  have HX := Kp.mk (And.intro hc1 hc)
  clear hbk hcell hE hc1 hc
  go_enter Tryz.func7, Tryz.ntmps7
  go_wp2_with (first
    | (go_at_call 18; refine (HC.out _ (by decide) (by decide)).mono ?_; rintro e w' ⟨rfl, rfl⟩)
    | (go_at_call 19; refine (HC2.out ?_).mono ?_; (have hx := HX.out; have h1 := HF.out 1 (by assumption); have h2 := HF.out 2 (by assumption); have h3 := HF.out 3 (by assumption); have h4 := HF.out 4 (by assumption); have h5 := HF.out 5 (by assumption); have h6 := HF.out 6 (by assumption); have h7 := HF.out 7 (by assumption); have h8 := HF.out 8 (by assumption); have h9 := HF.out 9 (by assumption); have h10 := HF.out 10 (by assumption); omega); rintro e w' ⟨rfl, rfl⟩))
  all_goals go_ret
  all_goals first
    | exact ⟨rfl, rfl⟩
    | (have h := HB.out _ (by assumption); exact ⟨ret_int (by rw [h]; rfl), rfl⟩)
theorem api_code_nil (w : World) :
    Calls Tryz.prog 7 #[.nilIface] w fun e w' => e = .returned (.int .i64 0) ∧ w' = w := by
  go_enter Tryz.func7, Tryz.ntmps7
  go_wp2
  go_ret
  exact ⟨rfl, rfl⟩
end Go.Proofs.YtadikbmbadldpaaGreatDoor
namespace Go.Proofs.YtadikbmbadldpaaGreatDoor
open Go Go.RowKit Go.Extern.Stop Go.Stop Go.Extern
set_option linter.unusedVariables false

theorem as_nil (t : Value) (w : World) :
    Calls Tryz.prog 20 #[.nilIface, t] w fun e w' => e = .returned (.bool false) ∧ w' = w := by
  go_enter Tryz.func20, Tryz.ntmps20
  go_wp2
  go_ret
  exact ⟨rfl, rfl⟩
theorem asValueOf (t : Addr) (w : World) : (ReflectliteValue.unpack (.iface 61 (.pointer (some t)))).run Tryz.prog w
    = .ok (.agg #[.pointer (some ⟨24, 61, none⟩), .pointer (some ⟨w.heap.size, 0, none⟩), .int .u64 150]) (w.alloc (.cells #[.pointer (some t)] 61)) := by kernel_rfl
theorem asType (a : Addr) (w : World) : (ReflectliteValue.methodAny (ReflectliteValue.valueError "reflectlite.Value.Type" 0) (fun t _ _ _ => ReflectliteType.toType t) #[.agg #[.pointer (some ⟨24, 61, none⟩), .pointer (some a), .int .u64 150]]).run Tryz.prog w
    = .ok (.iface 111 (.agg #[.pointer (some ⟨24, 61, none⟩)])) w := by kernel_rfl
theorem asMethodKind (h : Value) (w : World) : (Go.method 331 111 (.agg #[h]) "Kind").run Tryz.prog w = .ok (119, h) w := by kernel_rfl
theorem asKind1 (w : World) : ((ReflectliteType.abiMethod fun t => (fun a : Nat => Value.int IntKind.u8 (a : Int)) <$> Rtype.kind t) #[.pointer (some ⟨24, 61, none⟩)]).run Tryz.prog w = .ok (.int .u8 22) w := by kernel_rfl
theorem asKind2 (w : World) : ((ReflectliteType.abiMethod fun t => (fun a : Nat => Value.int IntKind.u8 (a : Int)) <$> Rtype.kind t) #[.pointer (some ⟨24, 59, none⟩)]).run Tryz.prog w = .ok (.int .u8 22) w := by kernel_rfl
theorem rlm (z : Sem Value) (f : TypeId → Addr → Nat → Nat → Sem Value) (v : Value) :
    ReflectliteValue.method z f #[v] = (do match ← ReflectliteValue.parts v with | none => z | some (t, a, fl) => f t a fl (fl % 32)) := rfl
theorem asParts (a : Addr) (w : World) : (ReflectliteValue.parts (.agg #[.pointer (some ⟨24, 61, none⟩), .pointer (some a), .int .u64 150])).run Tryz.prog w = .ok (some (61, a, 150)) w := by kernel_rfl
theorem asIsNil (a p : Addr) (W : World) (ha : W.cell? a = some (.pointer (some p))) :
    (ReflectliteValue.method (ReflectliteValue.valueError "reflectlite.Value.IsNil" 0) ReflectliteValue.isNil #[.agg #[.pointer (some ⟨24, 61, none⟩), .pointer (some a), .int .u64 150]]).run Tryz.prog W = .ok (.bool false) W := by
  rw [rlm]
  simp only [Sem.run_bind, asParts, Result.andThen]
  simp [ReflectliteValue.isNil, loadVar, isAgg, underlying, Tryz.underlying61, ha, Result.andThen]
theorem asMethodElem (h : Value) (w : World) : (Go.method 331 111 (.agg #[h]) "Elem").run Tryz.prog w = .ok (130, .agg #[h]) w := by kernel_rfl
theorem asMethodImplements (h : Value) (w : World) : (Go.method 331 111 (.agg #[h]) "Implements").run Tryz.prog w = .ok (131, .agg #[h]) w := by kernel_rfl
theorem asMethodAssignable (h : Value) (w : World) : (Go.method 331 111 (.agg #[h]) "AssignableTo").run Tryz.prog w = .ok (128, .agg #[h]) w := by kernel_rfl
theorem asElem (w : World) : (ReflectliteType.method ReflectliteType.elem #[.agg #[.pointer (some ⟨24, 61, none⟩)]]).run Tryz.prog w = .ok (.iface 111 (.agg #[.pointer (some ⟨24, 59, none⟩)])) w := by kernel_rfl
theorem asImplements (w : World) : (ReflectliteType.relation "Implements" ReflectliteType.implements_ #[.agg #[.pointer (some ⟨24, 59, none⟩)], .iface 111 (.agg #[.pointer (some ⟨24, 32, none⟩)])]).run Tryz.prog w = .ok (.bool true) w := by kernel_rfl
theorem asAssignable (w : World) : (ReflectliteType.relation "AssignableTo" ReflectliteType.assignableTo #[.agg #[.pointer (some ⟨24, 199, none⟩)], .iface 111 (.agg #[.pointer (some ⟨24, 59, none⟩)])]).run Tryz.prog w = .ok (.bool false) w := by kernel_rfl
theorem noAsE (v : Value) (xT : TypeId) (w : World) : (Instr.typeAssert (.iface 199 v) xT 123 true).run Tryz.prog w = .ok (.tuple #[.nilIface, .bool false]) w := run_typeAssert_lacksB Tryz.underlying123 (by kernel_rfl) (by kernel_rfl) v xT w

/-- The handle of the type error, where errors.As looks for it. -/
def TypeVar (w : World) : Prop := w.cell? ⟨20, 0, none⟩ = some (.iface 111 (.agg #[.pointer (some ⟨24, 32, none⟩)]))
theorem TypeVar.later {w w' : World} (h : TypeVar w) (hb : Below w.heap.size w w') : TypeVar w' :=
  (hb.cell (p := ⟨20, 0, none⟩) (World.block_lt_of_cell? w _ h)).trans h

set_option maxRecDepth 100000 in
set_option maxHeartbeats 4000000 in
theorem as_miss (e t : Addr) (old : Value) (w : World) (hg : TypeVar w) (ht0 : w.cell? t = some old) :
    Calls Tryz.prog 20 #[errv e, .iface 61 (.pointer (some t))] w fun ev w' => ev = .returned (.bool false) ∧ w'.cell? t = some old ∧ Below w.heap.size w w' := by
  have h6 := @run_callFunc_extern Tryz.prog 30 _ (fun args => ReflectliteValue.unpack (args.getD 0 (.tuple #[]))) Tryz.func30 (by kernel_rfl) (by kernel_rfl) (by kernel_rfl) (by kernel_rfl)
  have h7 := @run_callFunc_extern Tryz.prog 31 _ (ReflectliteValue.methodAny (ReflectliteValue.valueError "reflectlite.Value.Type" 0) (fun t _ _ _ => ReflectliteType.toType t)) Tryz.func31 (by kernel_rfl) (by kernel_rfl) (by kernel_rfl) (by kernel_rfl)
  have h8 := @run_callFunc_extern Tryz.prog 32 _ (ReflectliteValue.method (ReflectliteValue.valueError "reflectlite.Value.IsNil" 0) ReflectliteValue.isNil) Tryz.func32 (by kernel_rfl) (by kernel_rfl) (by kernel_rfl) (by kernel_rfl)
  have h27 := @run_callFunc_extern Tryz.prog 119 _ (ReflectliteType.abiMethod fun t => do pure (.int .u8 (← Rtype.kind t))) Tryz.func119 (by kernel_rfl) (by kernel_rfl) (by kernel_rfl) (by kernel_rfl)
  have h37 := @run_callFunc_extern Tryz.prog 130 _ (ReflectliteType.method ReflectliteType.elem) Tryz.func130 (by kernel_rfl) (by kernel_rfl) (by kernel_rfl) (by kernel_rfl)
  have h38 := @run_callFunc_extern Tryz.prog 131 _ (ReflectliteType.relation "Implements" ReflectliteType.implements_) Tryz.func131 (by kernel_rfl) (by kernel_rfl) (by kernel_rfl) (by kernel_rfl)
  have h10 := @run_callFunc_extern Tryz.prog 28 _ ReflectliteType.typeOf Tryz.func28 (by kernel_rfl) (by kernel_rfl) (by kernel_rfl) (by kernel_rfl)
  have h35 := @run_callFunc_extern Tryz.prog 128 _ (ReflectliteType.relation "AssignableTo" ReflectliteType.assignableTo) Tryz.func128 (by kernel_rfl) (by kernel_rfl) (by kernel_rfl) (by kernel_rfl)
  have tO := isTypeOf
  have mA := asMethodAssignable
  have aA := asAssignable
  have f6 := asValueOf
  have f7 := asType
  have mK := asMethodKind
  have mE := asMethodElem
  have mI := asMethodImplements
  have k1 := asKind1
  have k2 := asKind2
  have eE := asElem
  have iI := asImplements
  have nA := noAsE
  have uE := noUnwrapE
  have vE := noUnwrapsE
  unfold TypeVar at hg
  have n8 := asIsNil ⟨w.heap.size, 0, none⟩ t ((w.alloc (.cells #[.pointer (some t)] 61)).alloc (.cells #[.pointer (some ⟨24, 61, none⟩), .pointer (some ⟨w.heap.size, 0, none⟩), .int .u64 150] 79)) (by simp)
  have hlt : 20 < w.heap.size := World.block_lt_of_cell? w _ hg
  have hg2 : ((w.alloc (.cells #[.pointer (some t)] 61)).alloc (.cells #[.pointer (some ⟨24, 61, none⟩), .pointer (some ⟨w.heap.size, 0, none⟩), .int .u64 150] 79)).cell? ⟨20, 0, none⟩ = some (.iface 111 (.agg #[.pointer (some ⟨24, 32, none⟩)])) := by
    rw [World.cell?_alloc_lt _ _ ⟨20, 0, none⟩ (by simp; omega), World.cell?_alloc_lt _ _ ⟨20, 0, none⟩ hlt]; exact hg
  have htl : t.block < w.heap.size := World.block_lt_of_cell? w _ ht0
  have HT := Kp.mk ht0
  have HL := Kp.mk htl
  clear ht0 htl
  go_enter Tryz.func20, Tryz.ntmps20
  go_wp2
  refine wp_loop_rounds 1 ?_
  rw [rounds_succ]
  go_wp2
  go_ret
  have b1 := fun (o : Obj) => (Below.refl w.heap.size w).alloc (Nat.le_refl _) o
  have b2 := fun (o o' : Obj) => (b1 o).alloc (b1 o).size o'
  have b3 := fun (o o' o'' : Obj) => (b2 o o').alloc (b2 o o').size o''
  exact ⟨rfl, ((b3 _ _ _).cell HL.out).trans HT.out, b3 _ _ _⟩
set_option maxRecDepth 100000 in
/-- api.Place of a sentinel. -/
theorem api_place (e : Addr) (w : World) (hg : TypeVar w) :
    Calls Tryz.prog 8 #[errv e] w fun ev w' => ev = .returned (.int .i64 (-1)) ∧ Below w.heap.size w w' := by
  have HG := Kp.mk hg
  clear hg
  go_enter Tryz.func8, Tryz.ntmps8
  go_wp2_with fail
  refine (as_miss e _ (.pointer none) _ (HG.out.later ((Below.refl _ _).alloc (Nat.le_refl _) _)) (by rw [World.cell?_alloc_at _ _ _ _ rfl]; rfl)).mono ?_
  rintro e w1 ⟨rfl, _, hb⟩
  have HB := Kp.mk hb
  clear hb
  go_wp2
  go_ret
  have b1 := (Below.refl w.heap.size w).alloc (Nat.le_refl _) (.cells #[.pointer none] 59)
  exact ⟨rfl, b1.trans (HB.out.mono b1.size)⟩
theorem api_place_nil (w : World) :
    Calls Tryz.prog 8 #[.nilIface] w fun ev w' => ev = .returned (.int .i64 (-1)) ∧ Below w.heap.size w w' := by
  go_enter Tryz.func8, Tryz.ntmps8
  go_wp2_with fail
  refine (as_nil _ _).mono ?_
  rintro e w1 ⟨rfl, rfl⟩
  go_wp2
  go_ret
  exact ⟨rfl, (Below.refl w.heap.size w).alloc (Nat.le_refl _) _⟩
/-- The listed handle is the one that errors.As looks for. -/
theorem typeVar_of_handles {W : World} {hs : List (String × DataW Unit)} (h : handlesMet Tryz.prog hs W) (hm : ("errors.errorType", (Rows.laid_errors_errorType : DataW Unit)) ∈ hs) : TypeVar W := by
  have h0 := h _ hm
  have hf : (Rows.laid_errors_errorType : DataW Unit).funcsIn? = none := by kernel_rfl
  simp only [hf] at h0
  obtain ⟨name, u, ty, h1, h2, h3, h4, h5⟩ := h0
  have e1 : (Rows.laid_errors_errorType : DataW Unit).handleName? = some [101, 114, 114, 111, 114] := by kernel_rfl
  rw [e1] at h1
  obtain rfl := Option.some.inj h1
  have e2 : (Tryz.prog.cutTypes.find? (·.1 == "internal/reflectlite.rtype")).map (·.2) = some 111 := by kernel_rfl
  rw [e2] at h2
  obtain rfl := Option.some.inj h2
  have hall : ((List.range Tryz.prog.types.size).all fun t => !(Tryz.prog.rowNamed t [101, 114, 114, 111, 114]) || t == 32) = true := by kernel_rfl
  have h6 := List.all_eq_true.1 hall ty (List.mem_range.2 h3)
  rw [h4] at h6
  obtain rfl : ty = 32 := by simpa using h6
  have hg : Tryz.prog.globalNamed "errors.errorType" = some 20 := by kernel_rfl
  unfold TypeVar
  have := World.var?_cell hg h5 0
  simpa [typeHandle] using this
end Go.Proofs.YtadikbmbadldpaaGreatDoor
