
/- ferryref04.Decode, walked (printed by gen_refdec.py). -/
import Derived.Test.YtadikbmbadldpaaGreatDoorRefEnc
namespace Go.Proofs.YtadikbmbadldpaaGreatDoor
open Go Go.RowKit
set_option linter.unusedVariables false

set_option maxRecDepth 100000 in
set_option maxHeartbeats 4000000 in
theorem ref_decode (x : BitVec 32) (w : World) :
    Calls Tryz.prog 55 #[.int .u32 (x.toNat : Int)] w fun e w' => e = .returned (.tuple #[.agg (decI x).arr, .int .i64 (decC x : Nat)]) ∧ Below w.heap.size w w' := by
  obtain ⟨f, hf⟩ : ∃ f, f = formAt (wOp x : Nat) := ⟨_, rfl⟩
  have hx := x.isLt
  have p1 : (x.toNat : Int) / 16777216 = (wOp x : Nat) := by unfold wOp; omega
  have p2 : (x.toNat : Int) / 1048576 % 16 = (wA x : Nat) := by unfold wA; omega
  have p3 : (x.toNat : Int) / 65536 % 16 = (wB x : Nat) := by unfold wB; omega
  have p5 : (x.toNat : Int) % 65536 = (wLow x : Nat) := by unfold wLow; omega
  have p4 : (wLow x : Int) / 4096 = (wC x : Nat) := by unfold wLow wC; omega
  obtain ⟨op, e1⟩ : ∃ op, op = wOp x := ⟨_, rfl⟩
  obtain ⟨a, e2⟩ : ∃ a, a = wA x := ⟨_, rfl⟩
  obtain ⟨b, e3⟩ : ∃ b, b = wB x := ⟨_, rfl⟩
  obtain ⟨c, e4⟩ : ∃ c, c = wC x := ⟨_, rfl⟩
  obtain ⟨l, e5⟩ : ∃ l, l = wLow x := ⟨_, rfl⟩
  obtain ⟨n, e6⟩ : ∃ n, n = x.toNat := ⟨_, rfl⟩
  rw [← e1] at p1 hf
  rw [← e2] at p2
  rw [← e3] at p3
  rw [← e4, ← e5] at p4
  rw [← e5] at p5
  rw [← e6] at hx p1 p2 p3 p5 ⊢
  have ha : a < 16 := by rw [e2]; unfold wA; omega
  have hb : b < 16 := by rw [e3]; unfold wB; omega
  have hc : c < 16 := by rw [e4]; unfold wC; omega
  have hop : op < 256 := by omega
  have hl16 : l < 65536 := by rw [e5]; unfold wLow; omega
  obtain ⟨w1, ew1⟩ : ∃ w1, w1 = w.alloc (.cells (insA 0 0 0 0 0) 67) := ⟨_, rfl⟩
  obtain ⟨w2, ew2⟩ : ∃ w2, w2 = w1.alloc (.cells (insA op a b 0 0) 67) := ⟨_, rfl⟩
  obtain ⟨B, hB⟩ : ∃ B, B = w.heap.size := ⟨_, rfl⟩
  have b1 : Below B w w1 := by rw [ew1, hB]; exact below_alloc _ _
  have s1 : w1.heap.size = B + 1 := by rw [ew1, hB]; simp
  have b2 : Below w1.heap.size w1 w2 := by rw [ew2]; exact below_alloc _ _
  have s2 : w2.heap.size = B + 2 := by rw [ew2]; simp [s1]
  have BX : Kp (Below B w w2) := ⟨b1.trans (b2.mono (by omega))⟩
  have V1 : Kp (Blk w2 B (insA 0 0 0 0 0) 67) := ⟨Blk.later (by rw [ew1, hB]; exact Blk.new _ _ _) b2⟩
  have V2 : Kp (Blk w2 (B + 1) (insA op a b 0 0) 67) := ⟨by rw [ew2, ← s1]; exact Blk.new _ _ _⟩
  have KF := Kp.mk (ref_Form op w2)
  rw [← hf] at KF
  have EW1 := Kp.mk ew1
  have EW2 := Kp.mk ew2
  have S2 := Kp.mk s2
  have HBq := Kp.mk hB
  have F := Kp.mk hf
  have E6 := Kp.mk e6
  have EE := Kp.mk (And.intro e1 (And.intro e2 (And.intro e3 (And.intro e4 e5))))
  obtain ⟨r, hr⟩ : ∃ r, r = (decI x).arr := ⟨_, rfl⟩
  obtain ⟨er, her⟩ : ∃ r : Int, r = (decC x : Nat) := ⟨_, rfl⟩
  rw [← hr, ← her]
  have HR := Kp.mk hr
  have HER := Kp.mk her
  have c0 := V1.out.cell 0 _ rfl
  have c1 := V1.out.cell 1 _ rfl
  have c2 := V1.out.cell 2 _ rfl
  have c3 := V1.out.cell 3 _ rfl
  have c4 := V1.out.cell 4 _ rfl
  have f0 := V1.out.free 0
  have f1 := V1.out.free 1
  have f2 := V1.out.free 2
  have f3 := V1.out.free 3
  have f4 := V1.out.free 4
  clear ew1 ew2 b1 b2 s1 s2 hB hf e1 e2 e3 e4 e5 e6 hx hr her
  go_enter Tryz.func55, Tryz.ntmps55
  go_wp2_with fail
  rw [← HBq.out, ← EW1.out, ← EW2.out]
  refine KF.out.mono ?_
  rintro e w3 ⟨rfl, hw3⟩
  obtain rfl := hw3.symm
  clear hw3 KF EW1 EW2
  by_cases h0 : f = 0
  · have t0 : ((f : Int) == 0) = true := by rw [h0]; rfl
    have hdec : decC x = 7 := by
      unfold decC
      rw [← EE.out.1, ← F.out, h0]
      rfl
    have hr : r = insA 0 0 0 0 0 := by
      rw [HR.out]; unfold decI; rw [hdec]; rfl
    have her : er = 7 := by rw [HER.out, hdec]; rfl
    subst hr her
    clear h0 hdec HR HER
    go_wp2_with fail
    have VZ : Kp (Blk (set5 w2 B (.int .i64 0) (.int .i64 0) (.int .i64 0) (.int .i64 0) (.int .i64 0)) B (insA 0 0 0 0 0) 67) := ⟨V1.out.set5 _ _ _ _ _⟩
    refine bodyPost_ret (res2 rfl _ rfl VZ.out _ Tryz.underlying67 (insSize 0 0 0 0 0)) rfl ⟨rfl, ?_⟩
    rw [← HBq.out]
    exact below_set5 BX.out B _ _ _ _ _ (Nat.le_refl _)
  · have t0 : ((f : Int) == 0) = false := by rw [beq_eq_false_iff_ne]; omega
    have h1 : 1 ≤ f := by omega
    have h7 : f ≤ 7 := F.out ▸ form_le op
    have KU := Kp.mk (ref_Uses_I f h1 h7 w2)
    have HDEC := Kp.mk (dec_plain x f (by rw [F.out, EE.out.1]) h1 h7)
    have HS : Kp (decC x = bif fitsW f a b (cOf f x) && decide (wordN op a b (cOf f x) (immOf f x) = n) then 0 else 4) := ⟨by rw [HDEC.out, EE.out.1, EE.out.2.1, EE.out.2.2.1, E6.out]⟩
    have HLO : Kp (bLo (usI f) (usS f) ≤ immOf f x) := ⟨imm_lo f x⟩
    have HHI : Kp (immOf f x ≤ bHi (usI f) (usS f)) := ⟨imm_hi f x⟩
    have HRI : Kp (decC x = 0 → r = insA op a b ((cOf f x : Nat) : Int) (immOf f x)) := ⟨fun hd => by
      rw [HR.out]
      unfold decI insOf
      rw [hd, EE.out.1, EE.out.2.1, EE.out.2.2.1, ← EE.out.1, ← F.out]
      unfold cOf InsV.arr
      cases decide (f = 1) <;> rfl⟩
    have z0 := V2.out.cell 0 _ rfl
    have z1 := V2.out.cell 1 _ rfl
    have z2 := V2.out.cell 2 _ rfl
    have z3 := V2.out.cell 3 _ rfl
    have z4 := V2.out.cell 4 _ rfl
    have g3 := V2.out.free 3
    have g4 := V2.out.free 4
    clear HDEC
    by_cases hf1 : f = 1
    · have tf : ((f : Int) == 1) = true := by rw [hf1]; rfl
      have hC : cOf f x = c := by unfold cOf; rw [hf1, EE.out.2.2.2.1]; rfl
      have hI : immOf f x = 0 := by unfold immOf; rw [hf1]; rfl
      rw [hC, hI] at HS HRI
      rw [hI] at HLO HHI
      clear hC hI hf1
      obtain ⟨w6, ew6⟩ : ∃ w6, w6 = w2.setCell ⟨B + 1, 3, none⟩ (.int .i64 (c : Int)) := ⟨_, rfl⟩
      have V62 : Kp (Blk w6 (B + 1) (insA op a b c (0)) 67) := ⟨by rw [ew6]; exact V2.out.set 3 (.int .i64 (c : Int))⟩
      have V61 : Kp (Blk w6 B (insA 0 0 0 0 0) 67) := ⟨by rw [ew6]; exact V1.out.other _ _ _ (by omega)⟩
      have B6 : Kp (Below B w w6) := ⟨by rw [ew6]; exact BX.out.setCell (p := ⟨B + 1, 3, none⟩) (show B ≤ B + 1 by omega) (.int .i64 (c : Int))⟩
      have EW6 := Kp.mk ew6
      have KE := Kp.mk (ref_encode op f F.out.symm h1 hop a b c ha hb hc (0) HLO.out HHI.out w6)
      clear ew6
      go_wp2_with (with_reducible refine KU.out.mono ?_; rintro e w5 ⟨rfl, hw5⟩; obtain rfl := hw5.symm; clear hw5)
      rw [← EW6.out]
      refine KE.out.mono ?_
      rintro e w7 ⟨rfl, hw7⟩
      have V71 := Kp.mk (V61.out.later hw7)
      have V72 := Kp.mk (V62.out.later hw7)
      have B7 : Kp (Below B w w7) := ⟨B6.out.trans (hw7.mono (by have := B6.out.size; have := HBq.out; omega))⟩
      clear c0 c1 c2 c3 c4 f0 f1 f2 f3 f4 z0 z1 z2 z3 z4 g3 g4 EW6 KE V61 V62 B6 hw7 KU
      have c0 := V71.out.cell 0 _ rfl
      have c1 := V71.out.cell 1 _ rfl
      have c2 := V71.out.cell 2 _ rfl
      have c3 := V71.out.cell 3 _ rfl
      have c4 := V71.out.cell 4 _ rfl
      have f0 := V71.out.free 0
      have f1 := V71.out.free 1
      have f2 := V71.out.free 2
      have f3 := V71.out.free 3
      have f4 := V71.out.free 4
      have z0 := V72.out.cell 0 _ rfl
      have z1 := V72.out.cell 1 _ rfl
      have z2 := V72.out.cell 2 _ rfl
      have z3 := V72.out.cell 3 _ rfl
      have z4 := V72.out.cell 4 _ rfl
      obtain ⟨N, hN⟩ : ∃ N, N = wordN op a b c (0) := ⟨_, rfl⟩
      rw [← hN] at HS ⊢
      clear hN
      obtain ⟨t, ht⟩ : ∃ t, t = fitsW f a b c := ⟨_, rfl⟩
      rw [← ht] at HS ⊢
      clear ht
      cases t
      · have hd : decC x = 4 := by rw [HS.out]; rfl
        have hr : r = insA 0 0 0 0 0 := by rw [HR.out]; unfold decI; rw [hd]; rfl
        have her : er = 4 := by rw [HER.out, hd]; rfl
        clear HS HRI HR HER
        subst hr her
        clear hd
        simp only [cond_false, codeIf]
        go_wp2_with fail
        have VZ : Kp (Blk (set5 w7 B (.int .i64 0) (.int .i64 0) (.int .i64 0) (.int .i64 0) (.int .i64 0)) B (insA 0 0 0 0 0) 67) := ⟨V71.out.set5 _ _ _ _ _⟩
        refine bodyPost_ret (res2 rfl _ rfl VZ.out _ Tryz.underlying67 (insSize 0 0 0 0 0)) rfl ⟨rfl, ?_⟩
        rw [← HBq.out]
        exact below_set5 B7.out B _ _ _ _ _ (Nat.le_refl _)
      · simp only [cond_true, codeIf]
        by_cases hNn : N = n
        · have hd : decC x = 0 := by rw [HS.out, hNn, decide_eq_true (rfl : n = n)]; rfl
          have hr : r = (insA op a b c (0)) := HRI.out hd
          have her : er = 0 := by rw [HER.out, hd]; rfl
          clear HS HRI HR HER
          subst hr her hNn
          clear hd
          go_wp2_with fail
          have VZ : Kp (Blk (set5 w7 B (.int .i64 op) (.int .i64 a) (.int .i64 b) (.int .i64 c) (.int .i64 (0))) B (insA op a b c (0)) 67) := ⟨V71.out.set5 _ _ _ _ _⟩
          refine bodyPost_ret (res2 rfl _ rfl VZ.out _ Tryz.underlying67 (insSize _ _ _ _ _)) rfl ⟨rfl, ?_⟩
          rw [← HBq.out]
          exact below_set5 B7.out B _ _ _ _ _ (Nat.le_refl _)
        · have tN : ((N : Int) != (n : Int)) = true := by simp; omega
          have hd : decC x = 4 := by rw [HS.out, decide_eq_false hNn]; rfl
          have hr : r = insA 0 0 0 0 0 := by rw [HR.out]; unfold decI; rw [hd]; rfl
          have her : er = 4 := by rw [HER.out, hd]; rfl
          clear HS HRI HR HER
          subst hr her
          clear hd hNn
          go_wp2_with fail
          have VZ : Kp (Blk (set5 w7 B (.int .i64 0) (.int .i64 0) (.int .i64 0) (.int .i64 0) (.int .i64 0)) B (insA 0 0 0 0 0) 67) := ⟨V71.out.set5 _ _ _ _ _⟩
          refine bodyPost_ret (res2 rfl _ rfl VZ.out _ Tryz.underlying67 (insSize 0 0 0 0 0)) rfl ⟨rfl, ?_⟩
          rw [← HBq.out]
          exact below_set5 B7.out B _ _ _ _ _ (Nat.le_refl _)
    · have tf : ((f : Int) == 1) = false := by rw [beq_eq_false_iff_ne]; omega
      have hC : cOf f x = 0 := by unfold cOf; rw [decide_eq_false hf1]; rfl
      rw [hC] at HS HRI
      clear hC
      obtain ⟨us, hus⟩ : ∃ us, us = usS f := ⟨_, rfl⟩
      have hI : immOf f x = bif us && decide (32768 ≤ l) then (l : Int) - 65536 else (l : Int) := by
        unfold immOf
        rw [decide_eq_false hf1, EE.out.2.2.2.2]
        unfold usS at hus
        rw [← hus]
        rfl
      rw [hI] at HS HRI HLO HHI
      rw [← hus] at KU
      clear hI hus hf1
      cases us
      · rw [Bool.false_and, cond_false] at HS HRI HLO HHI
        obtain ⟨w6, ew6⟩ : ∃ w6, w6 = w2.setCell ⟨B + 1, 4, none⟩ (.int .i64 (l : Int)) := ⟨_, rfl⟩
        have V62 : Kp (Blk w6 (B + 1) (insA op a b 0 ((l : Int))) 67) := ⟨by rw [ew6]; exact V2.out.set 4 (.int .i64 (l : Int))⟩
        have V61 : Kp (Blk w6 B (insA 0 0 0 0 0) 67) := ⟨by rw [ew6]; exact V1.out.other _ _ _ (by omega)⟩
        have B6 : Kp (Below B w w6) := ⟨by rw [ew6]; exact BX.out.setCell (p := ⟨B + 1, 4, none⟩) (show B ≤ B + 1 by omega) (.int .i64 (l : Int))⟩
        have EW6 := Kp.mk ew6
        have KE := Kp.mk (ref_encode op f F.out.symm h1 hop a b 0 ha hb (by decide) ((l : Int)) HLO.out HHI.out w6)
        clear ew6
        go_wp2_with (with_reducible refine KU.out.mono ?_; rintro e w5 ⟨rfl, hw5⟩; obtain rfl := hw5.symm; clear hw5)
        rw [← EW6.out]
        refine KE.out.mono ?_
        rintro e w7 ⟨rfl, hw7⟩
        have V71 := Kp.mk (V61.out.later hw7)
        have V72 := Kp.mk (V62.out.later hw7)
        have B7 : Kp (Below B w w7) := ⟨B6.out.trans (hw7.mono (by have := B6.out.size; have := HBq.out; omega))⟩
        clear c0 c1 c2 c3 c4 f0 f1 f2 f3 f4 z0 z1 z2 z3 z4 g3 g4 EW6 KE V61 V62 B6 hw7 KU
        have c0 := V71.out.cell 0 _ rfl
        have c1 := V71.out.cell 1 _ rfl
        have c2 := V71.out.cell 2 _ rfl
        have c3 := V71.out.cell 3 _ rfl
        have c4 := V71.out.cell 4 _ rfl
        have f0 := V71.out.free 0
        have f1 := V71.out.free 1
        have f2 := V71.out.free 2
        have f3 := V71.out.free 3
        have f4 := V71.out.free 4
        have z0 := V72.out.cell 0 _ rfl
        have z1 := V72.out.cell 1 _ rfl
        have z2 := V72.out.cell 2 _ rfl
        have z3 := V72.out.cell 3 _ rfl
        have z4 := V72.out.cell 4 _ rfl
        obtain ⟨N, hN⟩ : ∃ N, N = wordN op a b 0 ((l : Int)) := ⟨_, rfl⟩
        rw [← hN] at HS ⊢
        clear hN
        obtain ⟨t, ht⟩ : ∃ t, t = fitsW f a b 0 := ⟨_, rfl⟩
        rw [← ht] at HS ⊢
        clear ht
        cases t
        · have hd : decC x = 4 := by rw [HS.out]; rfl
          have hr : r = insA 0 0 0 0 0 := by rw [HR.out]; unfold decI; rw [hd]; rfl
          have her : er = 4 := by rw [HER.out, hd]; rfl
          clear HS HRI HR HER
          subst hr her
          clear hd
          simp only [cond_false, codeIf]
          go_wp2_with fail
          have VZ : Kp (Blk (set5 w7 B (.int .i64 0) (.int .i64 0) (.int .i64 0) (.int .i64 0) (.int .i64 0)) B (insA 0 0 0 0 0) 67) := ⟨V71.out.set5 _ _ _ _ _⟩
          refine bodyPost_ret (res2 rfl _ rfl VZ.out _ Tryz.underlying67 (insSize 0 0 0 0 0)) rfl ⟨rfl, ?_⟩
          rw [← HBq.out]
          exact below_set5 B7.out B _ _ _ _ _ (Nat.le_refl _)
        · simp only [cond_true, codeIf]
          by_cases hNn : N = n
          · have hd : decC x = 0 := by rw [HS.out, hNn, decide_eq_true (rfl : n = n)]; rfl
            have hr : r = (insA op a b 0 ((l : Int))) := HRI.out hd
            have her : er = 0 := by rw [HER.out, hd]; rfl
            clear HS HRI HR HER
            subst hr her hNn
            clear hd
            go_wp2_with fail
            have VZ : Kp (Blk (set5 w7 B (.int .i64 op) (.int .i64 a) (.int .i64 b) (.int .i64 0) (.int .i64 ((l : Int)))) B (insA op a b 0 ((l : Int))) 67) := ⟨V71.out.set5 _ _ _ _ _⟩
            refine bodyPost_ret (res2 rfl _ rfl VZ.out _ Tryz.underlying67 (insSize _ _ _ _ _)) rfl ⟨rfl, ?_⟩
            rw [← HBq.out]
            exact below_set5 B7.out B _ _ _ _ _ (Nat.le_refl _)
          · have tN : ((N : Int) != (n : Int)) = true := by simp; omega
            have hd : decC x = 4 := by rw [HS.out, decide_eq_false hNn]; rfl
            have hr : r = insA 0 0 0 0 0 := by rw [HR.out]; unfold decI; rw [hd]; rfl
            have her : er = 4 := by rw [HER.out, hd]; rfl
            clear HS HRI HR HER
            subst hr her
            clear hd hNn
            go_wp2_with fail
            have VZ : Kp (Blk (set5 w7 B (.int .i64 0) (.int .i64 0) (.int .i64 0) (.int .i64 0) (.int .i64 0)) B (insA 0 0 0 0 0) 67) := ⟨V71.out.set5 _ _ _ _ _⟩
            refine bodyPost_ret (res2 rfl _ rfl VZ.out _ Tryz.underlying67 (insSize 0 0 0 0 0)) rfl ⟨rfl, ?_⟩
            rw [← HBq.out]
            exact below_set5 B7.out B _ _ _ _ _ (Nat.le_refl _)
      · rw [Bool.true_and] at HS HRI HLO HHI
        by_cases hbig : 32768 ≤ l
        · have tb : decide ((l : Int) ≥ 32768) = true := decide_eq_true (by omega)
          rw [decide_eq_true hbig, cond_true] at HS HRI HLO HHI
          clear hbig
          obtain ⟨w6, ew6⟩ : ∃ w6, w6 = w2.setCell ⟨B + 1, 4, none⟩ (.int .i64 ((l : Int) - 65536)) := ⟨_, rfl⟩
          have V62 : Kp (Blk w6 (B + 1) (insA op a b 0 ((l : Int) - 65536)) 67) := ⟨by rw [ew6]; exact V2.out.set 4 (.int .i64 ((l : Int) - 65536))⟩
          have V61 : Kp (Blk w6 B (insA 0 0 0 0 0) 67) := ⟨by rw [ew6]; exact V1.out.other _ _ _ (by omega)⟩
          have B6 : Kp (Below B w w6) := ⟨by rw [ew6]; exact BX.out.setCell (p := ⟨B + 1, 4, none⟩) (show B ≤ B + 1 by omega) (.int .i64 ((l : Int) - 65536))⟩
          have EW6 := Kp.mk ew6
          have KE := Kp.mk (ref_encode op f F.out.symm h1 hop a b 0 ha hb (by decide) ((l : Int) - 65536) HLO.out HHI.out w6)
          clear ew6
          go_wp2_with (with_reducible refine KU.out.mono ?_; rintro e w5 ⟨rfl, hw5⟩; obtain rfl := hw5.symm; clear hw5)
          rw [← EW6.out]
          refine KE.out.mono ?_
          rintro e w7 ⟨rfl, hw7⟩
          have V71 := Kp.mk (V61.out.later hw7)
          have V72 := Kp.mk (V62.out.later hw7)
          have B7 : Kp (Below B w w7) := ⟨B6.out.trans (hw7.mono (by have := B6.out.size; have := HBq.out; omega))⟩
          clear c0 c1 c2 c3 c4 f0 f1 f2 f3 f4 z0 z1 z2 z3 z4 g3 g4 EW6 KE V61 V62 B6 hw7 KU
          have c0 := V71.out.cell 0 _ rfl
          have c1 := V71.out.cell 1 _ rfl
          have c2 := V71.out.cell 2 _ rfl
          have c3 := V71.out.cell 3 _ rfl
          have c4 := V71.out.cell 4 _ rfl
          have f0 := V71.out.free 0
          have f1 := V71.out.free 1
          have f2 := V71.out.free 2
          have f3 := V71.out.free 3
          have f4 := V71.out.free 4
          have z0 := V72.out.cell 0 _ rfl
          have z1 := V72.out.cell 1 _ rfl
          have z2 := V72.out.cell 2 _ rfl
          have z3 := V72.out.cell 3 _ rfl
          have z4 := V72.out.cell 4 _ rfl
          obtain ⟨N, hN⟩ : ∃ N, N = wordN op a b 0 ((l : Int) - 65536) := ⟨_, rfl⟩
          rw [← hN] at HS ⊢
          clear hN
          obtain ⟨t, ht⟩ : ∃ t, t = fitsW f a b 0 := ⟨_, rfl⟩
          rw [← ht] at HS ⊢
          clear ht
          cases t
          · have hd : decC x = 4 := by rw [HS.out]; rfl
            have hr : r = insA 0 0 0 0 0 := by rw [HR.out]; unfold decI; rw [hd]; rfl
            have her : er = 4 := by rw [HER.out, hd]; rfl
            clear HS HRI HR HER
            subst hr her
            clear hd
            simp only [cond_false, codeIf]
            go_wp2_with fail
            have VZ : Kp (Blk (set5 w7 B (.int .i64 0) (.int .i64 0) (.int .i64 0) (.int .i64 0) (.int .i64 0)) B (insA 0 0 0 0 0) 67) := ⟨V71.out.set5 _ _ _ _ _⟩
            refine bodyPost_ret (res2 rfl _ rfl VZ.out _ Tryz.underlying67 (insSize 0 0 0 0 0)) rfl ⟨rfl, ?_⟩
            rw [← HBq.out]
            exact below_set5 B7.out B _ _ _ _ _ (Nat.le_refl _)
          · simp only [cond_true, codeIf]
            by_cases hNn : N = n
            · have hd : decC x = 0 := by rw [HS.out, hNn, decide_eq_true (rfl : n = n)]; rfl
              have hr : r = (insA op a b 0 ((l : Int) - 65536)) := HRI.out hd
              have her : er = 0 := by rw [HER.out, hd]; rfl
              clear HS HRI HR HER
              subst hr her hNn
              clear hd
              go_wp2_with fail
              have VZ : Kp (Blk (set5 w7 B (.int .i64 op) (.int .i64 a) (.int .i64 b) (.int .i64 0) (.int .i64 ((l : Int) - 65536))) B (insA op a b 0 ((l : Int) - 65536)) 67) := ⟨V71.out.set5 _ _ _ _ _⟩
              refine bodyPost_ret (res2 rfl _ rfl VZ.out _ Tryz.underlying67 (insSize _ _ _ _ _)) rfl ⟨rfl, ?_⟩
              rw [← HBq.out]
              exact below_set5 B7.out B _ _ _ _ _ (Nat.le_refl _)
            · have tN : ((N : Int) != (n : Int)) = true := by simp; omega
              have hd : decC x = 4 := by rw [HS.out, decide_eq_false hNn]; rfl
              have hr : r = insA 0 0 0 0 0 := by rw [HR.out]; unfold decI; rw [hd]; rfl
              have her : er = 4 := by rw [HER.out, hd]; rfl
              clear HS HRI HR HER
              subst hr her
              clear hd hNn
              go_wp2_with fail
              have VZ : Kp (Blk (set5 w7 B (.int .i64 0) (.int .i64 0) (.int .i64 0) (.int .i64 0) (.int .i64 0)) B (insA 0 0 0 0 0) 67) := ⟨V71.out.set5 _ _ _ _ _⟩
              refine bodyPost_ret (res2 rfl _ rfl VZ.out _ Tryz.underlying67 (insSize 0 0 0 0 0)) rfl ⟨rfl, ?_⟩
              rw [← HBq.out]
              exact below_set5 B7.out B _ _ _ _ _ (Nat.le_refl _)
        · have tb : decide ((l : Int) ≥ 32768) = false := decide_eq_false (by omega)
          rw [decide_eq_false hbig, cond_false] at HS HRI HLO HHI
          clear hbig
          obtain ⟨w6, ew6⟩ : ∃ w6, w6 = w2.setCell ⟨B + 1, 4, none⟩ (.int .i64 (l : Int)) := ⟨_, rfl⟩
          have V62 : Kp (Blk w6 (B + 1) (insA op a b 0 ((l : Int))) 67) := ⟨by rw [ew6]; exact V2.out.set 4 (.int .i64 (l : Int))⟩
          have V61 : Kp (Blk w6 B (insA 0 0 0 0 0) 67) := ⟨by rw [ew6]; exact V1.out.other _ _ _ (by omega)⟩
          have B6 : Kp (Below B w w6) := ⟨by rw [ew6]; exact BX.out.setCell (p := ⟨B + 1, 4, none⟩) (show B ≤ B + 1 by omega) (.int .i64 (l : Int))⟩
          have EW6 := Kp.mk ew6
          have KE := Kp.mk (ref_encode op f F.out.symm h1 hop a b 0 ha hb (by decide) ((l : Int)) HLO.out HHI.out w6)
          clear ew6
          go_wp2_with (with_reducible refine KU.out.mono ?_; rintro e w5 ⟨rfl, hw5⟩; obtain rfl := hw5.symm; clear hw5)
          rw [← EW6.out]
          refine KE.out.mono ?_
          rintro e w7 ⟨rfl, hw7⟩
          have V71 := Kp.mk (V61.out.later hw7)
          have V72 := Kp.mk (V62.out.later hw7)
          have B7 : Kp (Below B w w7) := ⟨B6.out.trans (hw7.mono (by have := B6.out.size; have := HBq.out; omega))⟩
          clear c0 c1 c2 c3 c4 f0 f1 f2 f3 f4 z0 z1 z2 z3 z4 g3 g4 EW6 KE V61 V62 B6 hw7 KU
          have c0 := V71.out.cell 0 _ rfl
          have c1 := V71.out.cell 1 _ rfl
          have c2 := V71.out.cell 2 _ rfl
          have c3 := V71.out.cell 3 _ rfl
          have c4 := V71.out.cell 4 _ rfl
          have f0 := V71.out.free 0
          have f1 := V71.out.free 1
          have f2 := V71.out.free 2
          have f3 := V71.out.free 3
          have f4 := V71.out.free 4
          have z0 := V72.out.cell 0 _ rfl
          have z1 := V72.out.cell 1 _ rfl
          have z2 := V72.out.cell 2 _ rfl
          have z3 := V72.out.cell 3 _ rfl
          have z4 := V72.out.cell 4 _ rfl
          obtain ⟨N, hN⟩ : ∃ N, N = wordN op a b 0 ((l : Int)) := ⟨_, rfl⟩
          rw [← hN] at HS ⊢
          clear hN
          obtain ⟨t, ht⟩ : ∃ t, t = fitsW f a b 0 := ⟨_, rfl⟩
          rw [← ht] at HS ⊢
          clear ht
          cases t
          · have hd : decC x = 4 := by rw [HS.out]; rfl
            have hr : r = insA 0 0 0 0 0 := by rw [HR.out]; unfold decI; rw [hd]; rfl
            have her : er = 4 := by rw [HER.out, hd]; rfl
            clear HS HRI HR HER
            subst hr her
            clear hd
            simp only [cond_false, codeIf]
            go_wp2_with fail
            have VZ : Kp (Blk (set5 w7 B (.int .i64 0) (.int .i64 0) (.int .i64 0) (.int .i64 0) (.int .i64 0)) B (insA 0 0 0 0 0) 67) := ⟨V71.out.set5 _ _ _ _ _⟩
            refine bodyPost_ret (res2 rfl _ rfl VZ.out _ Tryz.underlying67 (insSize 0 0 0 0 0)) rfl ⟨rfl, ?_⟩
            rw [← HBq.out]
            exact below_set5 B7.out B _ _ _ _ _ (Nat.le_refl _)
          · simp only [cond_true, codeIf]
            by_cases hNn : N = n
            · have hd : decC x = 0 := by rw [HS.out, hNn, decide_eq_true (rfl : n = n)]; rfl
              have hr : r = (insA op a b 0 ((l : Int))) := HRI.out hd
              have her : er = 0 := by rw [HER.out, hd]; rfl
              clear HS HRI HR HER
              subst hr her hNn
              clear hd
              go_wp2_with fail
              have VZ : Kp (Blk (set5 w7 B (.int .i64 op) (.int .i64 a) (.int .i64 b) (.int .i64 0) (.int .i64 ((l : Int)))) B (insA op a b 0 ((l : Int))) 67) := ⟨V71.out.set5 _ _ _ _ _⟩
              refine bodyPost_ret (res2 rfl _ rfl VZ.out _ Tryz.underlying67 (insSize _ _ _ _ _)) rfl ⟨rfl, ?_⟩
              rw [← HBq.out]
              exact below_set5 B7.out B _ _ _ _ _ (Nat.le_refl _)
            · have tN : ((N : Int) != (n : Int)) = true := by simp; omega
              have hd : decC x = 4 := by rw [HS.out, decide_eq_false hNn]; rfl
              have hr : r = insA 0 0 0 0 0 := by rw [HR.out]; unfold decI; rw [hd]; rfl
              have her : er = 4 := by rw [HER.out, hd]; rfl
              clear HS HRI HR HER
              subst hr her
              clear hd hNn
              go_wp2_with fail
              have VZ : Kp (Blk (set5 w7 B (.int .i64 0) (.int .i64 0) (.int .i64 0) (.int .i64 0) (.int .i64 0)) B (insA 0 0 0 0 0) 67) := ⟨V71.out.set5 _ _ _ _ _⟩
              refine bodyPost_ret (res2 rfl _ rfl VZ.out _ Tryz.underlying67 (insSize 0 0 0 0 0)) rfl ⟨rfl, ?_⟩
              rw [← HBq.out]
              exact below_set5 B7.out B _ _ _ _ _ (Nat.le_refl _)
end Go.Proofs.YtadikbmbadldpaaGreatDoor
