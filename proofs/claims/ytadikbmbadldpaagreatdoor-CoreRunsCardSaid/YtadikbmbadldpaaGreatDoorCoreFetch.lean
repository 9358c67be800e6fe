
/- Fetch on both sides, walked (printed by gen_corefetch.py). -/
import Derived.Test.YtadikbmbadldpaaGreatDoorRefDec
import Derived.Test.YtadikbmbadldpaaGreatDoorRefLook
namespace Go.Proofs.YtadikbmbadldpaaGreatDoor
open Go Go.RowKit
set_option linter.unusedVariables false

/-- The word at an address; the fault; the instruction. -/
def ftW (P : Nat → PageV) (n pc : Nat) : BitVec 32 := BitVec.ofNat 32 (loadV P n pc 4 2)
def ftC (P : Nat → PageV) (n pc : Nat) : Nat := bif decide (lookF P n pc 4 2 = 0) then (bif decide (decC (ftW P n pc) = 0) then 0 else 1) else lookF P n pc 4 2
def ftI (P : Nat → PageV) (n pc : Nat) : InsV := bif decide (lookF P n pc 4 2 = 0) then decI (ftW P n pc) else ⟨0, 0, 0, 0, 0⟩
theorem loadV_lt (P : Nat → PageV) (n ad k : Nat) : loadV P n ad 4 k < 4294967296 := by
  unfold loadV
  cases decide (lookF P n ad 4 k = 0)
  · rw [cond_false]; decide
  · exact Pg.num_lt P ad 4
theorem ftW_val (P : Nat → PageV) (n pc : Nat) : ((loadV P n pc 4 2 : Nat) : Int) = ((ftW P n pc).toNat : Int) := by
  unfold ftW
  rw [BitVec.toNat_ofNat, Nat.mod_eq_of_lt (loadV_lt P n pc 2)]
theorem decI_bad {x : BitVec 32} (h : decC x ≠ 0) : decI x = ⟨0, 0, 0, 0, 0⟩ := by unfold decI; rw [decide_eq_false h]; rfl
abbrev insZ : Array Value := insA 0 0 0 0 0
set_option maxRecDepth 100000 in
set_option maxHeartbeats 4000000 in
theorem core_fetch (A : Nat → Addr) (a : Option Addr) (n cap : Nat) (P : Nat → PageV) (w : World) (h : RdP w a n cap P) (pc : Nat) (hpc : pc < 4294967296) (ht : BlankT w) (hE : Errs w [4, 7] A) :
    Calls Tryz.prog 24 #[.slice a n cap, .int .u32 (pc : Int)] w fun e w' => e = .returned (.tuple #[.agg (ftI P n pc).arr, .int .i64 (ftC P n pc : Nat)]) ∧ Below w.heap.size w w' := by
  obtain ⟨w1, e1⟩ : ∃ w1, w1 = w.alloc (.cells insZ 67) := ⟨_, rfl⟩
  obtain ⟨B, hB⟩ : ∃ B, B = w.heap.size := ⟨_, rfl⟩
  have b1 : Below B w w1 := by rw [e1, hB]; exact below_alloc _ _
  have V1 : Kp (Blk w1 B insZ 67) := ⟨by rw [e1, hB]; exact Blk.new _ _ _⟩
  have KF := Kp.mk (page_fetch a n cap P w1 (h.later (hB ▸ b1)) pc hpc)
  rw [ftW_val] at KF
  obtain ⟨x, hx⟩ : ∃ x, x = ftW P n pc := ⟨_, rfl⟩
  have KD := Kp.mk (isa_decode A x w1 (ht.later (hB ▸ b1)) (hE.later (hB ▸ b1)))
  obtain ⟨f, hf⟩ : ∃ f, f = lookF P n pc 4 2 := ⟨_, rfl⟩
  obtain ⟨r, hr⟩ : ∃ r, r = (ftI P n pc).arr := ⟨_, rfl⟩
  obtain ⟨er, her⟩ : ∃ er : Int, er = (ftC P n pc : Nat) := ⟨_, rfl⟩
  rw [← hx] at KF
  rw [← hf] at KF
  rw [← hr, ← her]
  have hr' : r = (bif decide (f = 0) then decI x else ⟨0, 0, 0, 0, 0⟩ : InsV).arr := by rw [hr, hf, hx]; rfl
  have her' : er = ((bif decide (f = 0) then (bif decide (decC x = 0) then 0 else 1) else f : Nat) : Int) := by rw [her, hf, hx]; rfl
  have E1 := Kp.mk e1
  have B1 := Kp.mk b1
  have HBq := Kp.mk hB
  have HR := Kp.mk hr'
  have HER := Kp.mk her'
  have c0 := V1.out.cell 0 _ rfl
  have c1 := V1.out.cell 1 _ rfl
  have c2 := V1.out.cell 2 _ rfl
  have c3 := V1.out.cell 3 _ rfl
  have c4 := V1.out.cell 4 _ rfl
  have f0 := V1.out.free 0
  have f1 := V1.out.free 1
  have f2 := V1.out.free 2
  have f3 := V1.out.free 3
  have f4 := V1.out.free 4
  clear h ht hE e1 b1 hB hx hf hr her hr' her'
  go_enter Tryz.func24, Tryz.ntmps24
  go_wp2_with fail
  rw [← HBq.out, ← E1.out]
  refine KF.out.mono ?_
  rintro e w2 ⟨rfl, hw2⟩
  obtain rfl := hw2.symm
  clear hw2 KF E1
  by_cases h0 : f = 0
  · subst h0
    rw [show ((0 : Nat) : Int) = 0 from rfl]
    obtain ⟨i, hi⟩ : ∃ i, i = decI x := ⟨_, rfl⟩
    rw [← hi] at KD
    obtain ⟨io, ia, ib, ic, im⟩ := i
    have KD2 : Kp (Calls Tryz.prog 45 #[.int .u32 (x.toNat : Int)] w1 fun e w' => e = .returned (.tuple #[.agg (insA io ia ib ic im), (errN A (decC x))]) ∧ Below w1.heap.size w1 w') := KD
    go_wp2_with fail
    refine KD2.out.mono ?_
    rintro e w3 ⟨rfl, hw3⟩
    have V3 := Kp.mk (V1.out.later hw3)
    have B3 : Kp (Below B w w3) := ⟨B1.out.trans (hw3.mono (by have := B1.out.size; have := HBq.out; omega))⟩
    have hlt3 := V3.out.lt
    have hn3 : ¬ B = w3.heap.size := by omega
    have hn4 : ¬ w3.heap.size = B := by omega
    clear c0 c1 c2 c3 c4 f0 f1 f2 f3 f4 hw3 KD KD2 V1 B1
    have c0 := V3.out.cell 0 _ rfl
    have c1 := V3.out.cell 1 _ rfl
    have c2 := V3.out.cell 2 _ rfl
    have c3 := V3.out.cell 3 _ rfl
    have c4 := V3.out.cell 4 _ rfl
    have f0 := V3.out.free 0
    have f1 := V3.out.free 1
    have f2 := V3.out.free 2
    have f3 := V3.out.free 3
    have f4 := V3.out.free 4
    by_cases hd : decC x = 0
    · have hr : r = insA io ia ib ic im := by rw [HR.out]; show (decI x).arr = _; rw [← hi]; rfl
      have her : er = 0 := by rw [HER.out, hd]; rfl
      rw [show errN A (decC x) = .nilIface by rw [hd]; rfl]
      subst her hr
      clear hd HER HR hi
      go_wp2_with fail
      have VZ : Kp (Blk ((set5 w3 B (.int .i64 io) (.int .i64 ia) (.int .i64 ib) (.int .i64 ic) (.int .i64 im)).alloc (.cells (insA io ia ib ic im) 67)) B (insA io ia ib ic im) 67) := ⟨(V3.out.set5 _ _ _ _ _).alloc _⟩
      refine bodyPost_ret (res2 rfl _ rfl VZ.out _ Tryz.underlying67 (insSize _ _ _ _ _)) rfl ⟨rfl, ?_⟩
      have s0 := (below_set5 B3.out B (.int .i64 io) (.int .i64 ia) (.int .i64 ib) (.int .i64 ic) (.int .i64 im) (Nat.le_refl _))
      rw [← HBq.out]
      exact s0.trans ((below_alloc _ _).mono (by have := s0.size; have := HBq.out; omega))
    · have hr : r = insA 0 0 0 0 0 := by rw [HR.out]; show (decI x).arr = _; rw [decI_bad hd]; rfl
      have her : er = 1 := by rw [HER.out, decide_eq_false hd]; rfl
      obtain ⟨cc, hcc⟩ : ∃ cc, decC x = cc + 1 := ⟨decC x - 1, by omega⟩
      have HN : errN A (decC x) = .iface 199 (.pointer (some (A (cc + 1)))) := by rw [hcc]; rfl
      rw [HN]
      subst her hr
      clear hd HER HR hi hcc HN 
      go_wp2_with fail
      have VZ : Kp (Blk ((set5 w3 B (.int .i64 0) (.int .i64 0) (.int .i64 0) (.int .i64 0) (.int .i64 0)).alloc (.cells (insA io ia ib ic im) 67)) B (insA 0 0 0 0 0) 67) := ⟨(V3.out.set5 _ _ _ _ _).alloc _⟩
      refine bodyPost_ret (res2 rfl _ rfl VZ.out _ Tryz.underlying67 (insSize _ _ _ _ _)) rfl ⟨rfl, ?_⟩
      have s0 := (below_set5 B3.out B (.int .i64 0) (.int .i64 0) (.int .i64 0) (.int .i64 0) (.int .i64 0) (Nat.le_refl _))
      rw [← HBq.out]
      exact s0.trans ((below_alloc _ _).mono (by have := s0.size; have := HBq.out; omega))
  · have hr : r = insA 0 0 0 0 0 := by rw [HR.out, decide_eq_false h0]; rfl
    have her : er = (f : Int) := by rw [HER.out, decide_eq_false h0]; rfl
    have tne : ((f : Int) != 0) = true := by simp; omega
    subst her hr
    clear HER HR h0 KD
    go_wp2_with fail
    have VZ : Kp (Blk (set5 w1 B (.int .i64 0) (.int .i64 0) (.int .i64 0) (.int .i64 0) (.int .i64 0)) B (insA 0 0 0 0 0) 67) := ⟨V1.out.set5 _ _ _ _ _⟩
    refine bodyPost_ret (res2 rfl _ rfl VZ.out _ Tryz.underlying67 (insSize _ _ _ _ _)) rfl ⟨rfl, ?_⟩
    rw [← HBq.out]
    exact below_set5 B1.out B _ _ _ _ _ (Nat.le_refl _)
set_option maxRecDepth 100000 in
set_option maxHeartbeats 4000000 in
theorem ref6_fetch (a : Option Addr) (n cap : Nat) (P : Nat → PageV) (w : World) (h : RdP w a n cap P) (pc : Nat) (hpc : pc < 4294967296) :
    Calls Tryz.prog 34 #[.slice a n cap, .int .u32 (pc : Int)] w fun e w' => e = .returned (.tuple #[.agg (ftI P n pc).arr, .int .i64 (ftC P n pc : Nat)]) ∧ Below w.heap.size w w' := by
  obtain ⟨w1, e1⟩ : ∃ w1, w1 = w.alloc (.cells insZ 67) := ⟨_, rfl⟩
  obtain ⟨B, hB⟩ : ∃ B, B = w.heap.size := ⟨_, rfl⟩
  have b1 : Below B w w1 := by rw [e1, hB]; exact below_alloc _ _
  have V1 : Kp (Blk w1 B insZ 67) := ⟨by rw [e1, hB]; exact Blk.new _ _ _⟩
  have KF := Kp.mk (ref_fetch a n cap P w1 (h.later (hB ▸ b1)) pc hpc)
  rw [ftW_val] at KF
  obtain ⟨x, hx⟩ : ∃ x, x = ftW P n pc := ⟨_, rfl⟩
  have KD := Kp.mk (ref_decode x w1)
  obtain ⟨f, hf⟩ : ∃ f, f = lookF P n pc 4 2 := ⟨_, rfl⟩
  obtain ⟨r, hr⟩ : ∃ r, r = (ftI P n pc).arr := ⟨_, rfl⟩
  obtain ⟨er, her⟩ : ∃ er : Int, er = (ftC P n pc : Nat) := ⟨_, rfl⟩
  rw [← hx] at KF
  rw [← hf] at KF
  rw [← hr, ← her]
  have hr' : r = (bif decide (f = 0) then decI x else ⟨0, 0, 0, 0, 0⟩ : InsV).arr := by rw [hr, hf, hx]; rfl
  have her' : er = ((bif decide (f = 0) then (bif decide (decC x = 0) then 0 else 1) else f : Nat) : Int) := by rw [her, hf, hx]; rfl
  have E1 := Kp.mk e1
  have B1 := Kp.mk b1
  have HBq := Kp.mk hB
  have HR := Kp.mk hr'
  have HER := Kp.mk her'
  have c0 := V1.out.cell 0 _ rfl
  have c1 := V1.out.cell 1 _ rfl
  have c2 := V1.out.cell 2 _ rfl
  have c3 := V1.out.cell 3 _ rfl
  have c4 := V1.out.cell 4 _ rfl
  have f0 := V1.out.free 0
  have f1 := V1.out.free 1
  have f2 := V1.out.free 2
  have f3 := V1.out.free 3
  have f4 := V1.out.free 4
  clear h e1 b1 hB hx hf hr her hr' her'
  go_enter Tryz.func34, Tryz.ntmps34
  go_wp2_with fail
  rw [← HBq.out, ← E1.out]
  refine KF.out.mono ?_
  rintro e w2 ⟨rfl, hw2⟩
  obtain rfl := hw2.symm
  clear hw2 KF E1
  by_cases h0 : f = 0
  · subst h0
    rw [show ((0 : Nat) : Int) = 0 from rfl]
    obtain ⟨i, hi⟩ : ∃ i, i = decI x := ⟨_, rfl⟩
    rw [← hi] at KD
    obtain ⟨io, ia, ib, ic, im⟩ := i
    have KD2 : Kp (Calls Tryz.prog 55 #[.int .u32 (x.toNat : Int)] w1 fun e w' => e = .returned (.tuple #[.agg (insA io ia ib ic im), (.int .i64 (decC x : Nat))]) ∧ Below w1.heap.size w1 w') := KD
    go_wp2_with fail
    refine KD2.out.mono ?_
    rintro e w3 ⟨rfl, hw3⟩
    have V3 := Kp.mk (V1.out.later hw3)
    have B3 : Kp (Below B w w3) := ⟨B1.out.trans (hw3.mono (by have := B1.out.size; have := HBq.out; omega))⟩
    have hlt3 := V3.out.lt
    have hn3 : ¬ B = w3.heap.size := by omega
    have hn4 : ¬ w3.heap.size = B := by omega
    clear c0 c1 c2 c3 c4 f0 f1 f2 f3 f4 hw3 KD KD2 V1 B1
    have c0 := V3.out.cell 0 _ rfl
    have c1 := V3.out.cell 1 _ rfl
    have c2 := V3.out.cell 2 _ rfl
    have c3 := V3.out.cell 3 _ rfl
    have c4 := V3.out.cell 4 _ rfl
    have f0 := V3.out.free 0
    have f1 := V3.out.free 1
    have f2 := V3.out.free 2
    have f3 := V3.out.free 3
    have f4 := V3.out.free 4
    by_cases hd : decC x = 0
    · have hr : r = insA io ia ib ic im := by rw [HR.out]; show (decI x).arr = _; rw [← hi]; rfl
      have her : er = 0 := by rw [HER.out, hd]; rfl
      rw [show ((decC x : Nat) : Int) = 0 by rw [hd]; rfl]
      subst her hr
      clear hd HER HR hi
      go_wp2_with fail
      have VZ : Kp (Blk ((set5 w3 B (.int .i64 io) (.int .i64 ia) (.int .i64 ib) (.int .i64 ic) (.int .i64 im)).alloc (.cells (insA io ia ib ic im) 67)) B (insA io ia ib ic im) 67) := ⟨(V3.out.set5 _ _ _ _ _).alloc _⟩
      refine bodyPost_ret (res2 rfl _ rfl VZ.out _ Tryz.underlying67 (insSize _ _ _ _ _)) rfl ⟨rfl, ?_⟩
      have s0 := (below_set5 B3.out B (.int .i64 io) (.int .i64 ia) (.int .i64 ib) (.int .i64 ic) (.int .i64 im) (Nat.le_refl _))
      rw [← HBq.out]
      exact s0.trans ((below_alloc _ _).mono (by have := s0.size; have := HBq.out; omega))
    · have hr : r = insA 0 0 0 0 0 := by rw [HR.out]; show (decI x).arr = _; rw [decI_bad hd]; rfl
      have her : er = 1 := by rw [HER.out, decide_eq_false hd]; rfl
      obtain ⟨ec, hec⟩ : ∃ ec : Int, ec = (decC x : Nat) := ⟨_, rfl⟩
      have tne : (ec != 0) = true := by rw [hec]; simp; omega
      rw [← hec]
      subst her hr
      clear hd HER HR hi hec 
      go_wp2_with fail
      have VZ : Kp (Blk ((set5 w3 B (.int .i64 0) (.int .i64 0) (.int .i64 0) (.int .i64 0) (.int .i64 0)).alloc (.cells (insA io ia ib ic im) 67)) B (insA 0 0 0 0 0) 67) := ⟨(V3.out.set5 _ _ _ _ _).alloc _⟩
      refine bodyPost_ret (res2 rfl _ rfl VZ.out _ Tryz.underlying67 (insSize _ _ _ _ _)) rfl ⟨rfl, ?_⟩
      have s0 := (below_set5 B3.out B (.int .i64 0) (.int .i64 0) (.int .i64 0) (.int .i64 0) (.int .i64 0) (Nat.le_refl _))
      rw [← HBq.out]
      exact s0.trans ((below_alloc _ _).mono (by have := s0.size; have := HBq.out; omega))
  · have hr : r = insA 0 0 0 0 0 := by rw [HR.out, decide_eq_false h0]; rfl
    have her : er = (f : Int) := by rw [HER.out, decide_eq_false h0]; rfl
    have tne : ((f : Int) != 0) = true := by simp; omega
    subst her hr
    clear HER HR h0 KD
    go_wp2_with fail
    have VZ : Kp (Blk (set5 w1 B (.int .i64 0) (.int .i64 0) (.int .i64 0) (.int .i64 0) (.int .i64 0)) B (insA 0 0 0 0 0) 67) := ⟨V1.out.set5 _ _ _ _ _⟩
    refine bodyPost_ret (res2 rfl _ rfl VZ.out _ Tryz.underlying67 (insSize _ _ _ _ _)) rfl ⟨rfl, ?_⟩
    rw [← HBq.out]
    exact below_set5 B1.out B _ _ _ _ _ (Nat.le_refl _)
end Go.Proofs.YtadikbmbadldpaaGreatDoor
