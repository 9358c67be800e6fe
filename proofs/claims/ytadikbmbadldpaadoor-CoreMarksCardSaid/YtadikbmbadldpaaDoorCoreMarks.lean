
/- CoreMarks, walked (printed by gen_coremarks.py). -/
import Derived.Test.YtadikbmbadldpaaDoorProcEq
namespace Go.Proofs.YtadikbmbadldpaaDoor
open Go Go.RowKit
set_option linter.unusedVariables false
set_option linter.unusedSimpArgs false

/-- The same rights and bytes; the marks of the first are the given ones or those of the second. -/
structure AlikeM (D : Nat → Bool) (P C : Nat → PageV) : Prop where
  rights : ∀ i, (P i).rights = (C i).rights
  data : ∀ i, (P i).data = (C i).data
  dirty : ∀ i, (P i).dirty = (D i || (C i).dirty)
section
variable {D : Nat → Bool} {P C : Nat → PageV}
theorem AlikeM.fault (h : AlikeM D P C) (n ad k : Nat) : faultP P n ad k = faultP C n ad k := by unfold faultP; rw [h.rights]
theorem AlikeM.look (h : AlikeM D P C) (n ad s k : Nat) : lookF P n ad s k = lookF C n ad s k := by unfold lookF; rw [h.fault]
theorem AlikeM.num (h : AlikeM D P C) (ad k : Nat) : Pg.num P ad k = Pg.num C ad k := by
  induction k with
  | zero => rfl
  | succ k ih =>
    rw [Pg.num, Pg.num, ih]
    unfold Pg.byte
    rw [h.data]
theorem AlikeM.load (h : AlikeM D P C) (n ad s k : Nat) : loadV P n ad s k = loadV C n ad s k := by unfold loadV; rw [h.look, h.num]
theorem AlikeM.ftC (h : AlikeM D P C) (n pc : Nat) : ftC P n pc = ftC C n pc := by
  unfold Go.Proofs.YtadikbmbadldpaaDoor.ftC ftW
  rw [h.look, h.load]
theorem AlikeM.ftI (h : AlikeM D P C) (n pc : Nat) : ftI P n pc = ftI C n pc := by
  unfold Go.Proofs.YtadikbmbadldpaaDoor.ftI ftW
  rw [h.look, h.load]
theorem AlikeM.store (h : AlikeM D P C) (ad s v : Nat) : AlikeM D (Pg.store P ad s v) (Pg.store C ad s v) := by
  unfold Pg.store upd
  refine ⟨fun i => ?_, fun i => ?_, fun i => ?_⟩
  · dsimp only
    split
    · exact h.rights _
    · exact h.rights _
  · dsimp only
    split
    · dsimp only; rw [h.data]
    · exact h.data _
  · dsimp only
    split
    · dsimp only; rw [Bool.or_true]
    · exact h.dirty _
theorem AlikeM.mem (h : AlikeM D P C) (n : Nat) (q : ProcV) (i : InsV) : (memV P n q i).1 = (memV C n q i).1 ∧ AlikeM D (memV P n q i).2.1 (memV C n q i).2.1 ∧ (memV P n q i).2.2 = (memV C n q i).2.2 := by
  unfold memV
  dsimp only
  rw [h.look, h.look, h.load]
  split
  · refine ⟨rfl, ?_, rfl⟩
    dsimp only
    split
    · exact h.store _ _ _
    · exact h
  · exact ⟨rfl, h, rfl⟩
theorem AlikeM.step (h : AlikeM D P C) (n : Nat) (q : ProcV) : AlikeM D (stepV n P q).P (stepV n C q).P ∧ (stepV n P q).q = (stepV n C q).q ∧ (stepV n P q).k = (stepV n C q).k ∧ (stepV n P q).c = (stepV n C q).c := by
  unfold stepV
  dsimp only
  rw [h.ftC, h.ftI]
  obtain ⟨m1, m2, m3⟩ := h.mem n q (Go.Proofs.YtadikbmbadldpaaDoor.ftI C n q.pc.toNat)
  rw [m1, m3]
  split
  · exact ⟨h, rfl, rfl, rfl⟩
  · split
    · exact ⟨h, rfl, rfl, rfl⟩
    · split
      · exact ⟨h, rfl, rfl, rfl⟩
      · split
        · split
          · exact ⟨m2, rfl, rfl, rfl⟩
          · exact ⟨m2, rfl, rfl, rfl⟩
        · split
          · exact ⟨h, rfl, rfl, rfl⟩
          · exact ⟨h, rfl, rfl, rfl⟩
theorem AlikeM.it (h : AlikeM D P C) (n : Nat) (q : ProcV) (i : Nat) : AlikeM D (itV n P q i).P (itV n C q i).P ∧ (itV n P q i).q = (itV n C q i).q ∧ (itV n P q i).k = (itV n C q i).k ∧ (itV n P q i).c = (itV n C q i).c ∧ (itV n P q i).s = (itV n C q i).s := by
  induction i with
  | zero => exact ⟨h, rfl, rfl, rfl, rfl⟩
  | succ i ih =>
    obtain ⟨h1, h2, h3, h4, h5⟩ := ih
    rw [itV, itV]
    by_cases hk : (itV n C q i).k = 0
    · rw [if_pos hk, if_pos (by rw [h3]; exact hk)]
      obtain ⟨g1, g2, g3, g4⟩ := h1.step n (itV n P q i).q
      rw [h2] at g1 g2 g3 g4
      exact ⟨by rw [h2]; exact g1, by rw [h2]; exact g2, by rw [h2]; exact g3, by rw [h2]; exact g4, by rw [h5]⟩
    · rw [if_neg hk, if_neg (by rw [h3]; exact hk)]
      exact ⟨h1, h2, h3, h4, h5⟩
end
/-- The pages without marks. -/
def cleanQ (P : Nat → PageV) (k : Nat) : Nat → PageV := fun i => if i < k then { P i with dirty := false } else P i
theorem clean_alike (P : Nat → PageV) (n : Nat) : AlikeM (fun i => (P i).dirty) P (fun i => { P i with dirty := false }) :=
  ⟨fun _ => rfl, fun _ => rfl, fun i => by simp⟩
/-- A process's row, hidden. -/
theorem row_is (q : ProcV) : zRow.size = q.row.toArray.size ∧ (Tryd.prog.info? 32).map (·.size) = some q.row.toArray.size ∧ q.row.toArray.all (·.oneCell') = true := ⟨row_size21 q, prSizeA q, row_all_one q⟩
theorem row_range {w : World} {g : Nat} {R : Array Value} {T : TypeId} (h : Blk w g R T) : w.rangeAt g 0 R.toList := fun j u hu => by
  rw [Nat.zero_add]
  exact h.cell j u (by simpa using hu)
theorem bnd_le (n : Int) : bndV n ≤ 3000 := by unfold bndV; split <;> omega
theorem quiet_load_o {P : Program} {ops : Array Oper} {C : World → Prop} {Q : Act → Prop} {a : Act} {o : Oper} {rest : List Oper} (ty : TypeId) (x : Operand) (ho : o.op = .load ty x)
    (b off : Nat) (hx : a.eval x = .pointer (some ⟨b, off, none⟩)) (cs : List Value) (d : TypeDesc) (hc : ∀ w', C w' → w'.rangeAt b off cs)
    (hu : P.underlying ty = some d) (hd : d.isRow = true) (hi : (P.info? ty).map (·.size) = some cs.length) (hw : Region.wanted o (yielded ops a.tmps) = true)
    (h : wpQuiet P ops C Q rest (a.put o.dst (.agg cs.toArray))) : wpQuiet P ops C Q (o :: rest) a :=
  quiet_load hw ty x ho b off hx cs d hc hu hd hi h
theorem clean_step (P : Nat → PageV) (i : Nat) : upd (cleanQ P i) i { P i with dirty := false } = cleanQ P (i + 1) := by
  funext j
  unfold upd cleanQ
  by_cases h : j = i
  · subst h; rw [if_pos rfl, if_pos (by omega)]
  · rw [if_neg h]
    by_cases h2 : j < i
    · rw [if_pos h2, if_pos (by omega)]
    · rw [if_neg h2, if_neg (by omega)]
theorem clean_at (P : Nat → PageV) (i : Nat) : cleanQ P i i = P i := by unfold cleanQ; rw [if_neg (by omega)]
theorem clean_zero (P : Nat → PageV) : cleanQ P 0 = P := by
  funext j
  unfold cleanQ
  rw [if_neg (by omega)]
set_option maxRecDepth 100000 in
set_option maxHeartbeats 8000000 in
theorem law_CoreMarks (A : Nat → Addr) (a : Option Addr) (n cap : Nat) (P : Nat → PageV) (q : ProcV) (m : Int) (w : World) (h : RdP w a n cap P) (hm0 : -9223372036854775808 ≤ m) (hm1 : m ≤ 9223372036854775807) (hE : Errs w [4, 7, 12, 20] A) (ht : BlankT w) :
    Calls Tryd.prog 5 #[.slice a n cap, .agg q.row.toArray, .int .i64 m] w fun e w' => e = .returned (.bool true) ∧ Below w.heap.size w w' := by
  have hn := h.bound
  have hE2 : Errs w [4, 7, 20] A := hE.sub (by intro c hc; simp at hc ⊢; omega)
  have KAW := Kp.mk (fun w' (hw : Below w.heap.size w w') => law_awake A w' (hE2.later hw) (ht.later hw))
  have KB1 := Kp.mk (fun v => law_bounded m v)
  have b1 := bnd_le m
  obtain ⟨na, hna⟩ : ∃ x, x = bndV m := ⟨_, rfl⟩
  rw [← hna] at KB1 b1
  obtain ⟨B, hB⟩ : ∃ B, B = w.heap.size := ⟨_, rfl⟩
  obtain ⟨w1, e1⟩ : ∃ w1, w1 = w.alloc (.cells q.row.toArray 32) := ⟨_, rfl⟩
  have BW1 : Kp (Below w.heap.size w w1) := ⟨by rw [e1]; exact below_alloc _ _⟩
  have PB1 : Kp (PrAt w1 B q) := ⟨by rw [e1, hB]; exact Blk.new _ _ _⟩
  have EW : Kp (w.alloc (.cells q.row.toArray 32) = w1) := ⟨e1.symm⟩
  have HBq := Kp.mk hB
  have KC := Kp.mk (fun w' (hw : Below w.heap.size w w') => ref_copy a n cap P w' (h.later hw))
  obtain ⟨C, hC⟩ : ∃ C : Nat → PageV, C = fun i => { P i with dirty := false } := ⟨_, rfl⟩
  obtain ⟨z1, hz1⟩ : ∃ z, z = itV n P (q.put 0 0#32) na.toNat := ⟨_, rfl⟩
  obtain ⟨z2, hz2⟩ : ∃ z, z = itV n C (q.put 0 0#32) na.toNat := ⟨_, rfl⟩
  have K1 : Kp (∀ w', Below w.heap.size w w' → Calls Tryd.prog 15 #[.slice a n cap, .agg q.row.toArray, .int .i64 na] w' fun e w'' => ∃ v2, e = .returned (.tuple #[v2, .agg z1.q.row.toArray, .agg (stopA z1.k z1.s z1.c)]) ∧ OwnP w'' w'.heap.size v2 n z1.P ∧ Below w'.heap.size w' w'') :=
    ⟨fun w' hw => by rw [hz1]; exact core_run A a n cap P q na (by omega) w' (h.later hw) (hE2.later hw) (ht.later hw)⟩
  have K2 : Kp (∀ a2 cap2 w', RdP w' a2 n cap2 C → Below w.heap.size w w' → Calls Tryd.prog 15 #[.slice a2 n cap2, .agg q.row.toArray, .int .i64 na] w' fun e w'' => ∃ v2, e = .returned (.tuple #[v2, .agg z2.q.row.toArray, .agg (stopA z2.k z2.s z2.c)]) ∧ OwnP w'' w'.heap.size v2 n z2.P ∧ Below w'.heap.size w' w'') :=
    ⟨fun a2 cap2 w' ho hw => by rw [hz2]; exact core_run A a2 n cap2 C q na (by omega) w' ho (hE2.later hw) (ht.later hw)⟩
  have hal : AlikeM (fun i => (P i).dirty) P C := by rw [hC]; exact clean_alike P n
  obtain ⟨h1, h2, h3, h4, h5⟩ := hal.it n (q.put 0 0#32) na.toNat
  rw [← hz1, ← hz2] at h1 h2 h3 h4 h5
  have HAL := Kp.mk h1
  rw [h2, h3, h4, h5] at K1
  have HCC : Kp (∀ i, i < n → (cleanQ P n i).row = (C i).row) := ⟨fun i hi => by
    rw [hC]
    unfold cleanQ
    rw [if_pos hi]⟩
  have H0 := Kp.mk h
  have hg := guardProc
  have hgd := guardData
  have he1 : ∀ w, (Op.equalIn 10000 32 (.agg z2.q.row.toArray) (.agg z2.q.row.toArray)).run Tryd.prog w = .ok true w := fun w => proc_eq 9997 z2.q w
  obtain ⟨R, hR⟩ : ∃ R, R = q.row.toArray := ⟨_, rfl⟩
  obtain ⟨R1, hR1⟩ : ∃ R, R = z2.q.row.toArray := ⟨_, rfl⟩
  have HIR : Kp (zRow.size = R.size ∧ (Tryd.prog.info? 32).map (·.size) = some R.size ∧ R.all (·.oneCell') = true) := ⟨by rw [hR]; exact row_is q⟩
  have HIR1 : Kp (zRow.size = R1.size ∧ (Tryd.prog.info? 32).map (·.size) = some R1.size ∧ R1.all (·.oneCell') = true) := ⟨by rw [hR1]; exact row_is z2.q⟩
  rw [← hR] at K1 K2 EW ⊢
  rw [← hR1] at K1 K2 he1
  have PB : Kp (Blk w1 B R 32) := ⟨by rw [hR]; exact PB1.out⟩
  obtain ⟨P1, hP1⟩ : ∃ P1, P1 = z1.P := ⟨_, rfl⟩
  obtain ⟨P2, hP2⟩ : ∃ P2, P2 = z2.P := ⟨_, rfl⟩
  rw [← hP1] at K1 HAL
  rw [← hP2] at K2 HAL
  obtain ⟨k1, hk1⟩ : ∃ k, k = z2.k := ⟨_, rfl⟩
  obtain ⟨s1, hs1⟩ : ∃ s, s = z2.s := ⟨_, rfl⟩
  obtain ⟨c1, hc1⟩ : ∃ c, c = z2.c := ⟨_, rfl⟩
  rw [← hk1, ← hs1, ← hc1] at K1 K2
  clear PB1 h hE hE2 ht e1 hB hz1 hz2 hC hal h1 h2 h3 h4 h5 hR hR1 hP1 hP2 hk1 hs1 hc1 hna b1 hm0 hm1
  go_enter Tryd.func5, Tryd.ntmps5
  go_wp2_with fail
  rw [← HBq.out, EW.out]
  refine (KAW.out w1 BW1.out).mono ?_
  rintro e w2 ⟨rfl, hb⟩
  have BW2 := Kp.mk (BW1.out.trans (hb.mono BW1.out.size))
  have PB2 := Kp.mk (PB.out.later hb)
  clear hb KAW EW
  go_wp2_with (first
    | (with_reducible refine (KB1.out _).mono ?_; rintro e w6 ⟨rfl, hw6⟩; obtain rfl := hw6.symm; clear hw6))
  refine (KC.out w2 BW2.out).mono ?_
  rintro e w8 ⟨vc, rfl, ho, hb⟩
  have BW8 := Kp.mk (BW2.out.trans (hb.mono BW2.out.size))
  have PB8 := Kp.mk (PB2.out.later hb)
  obtain ⟨a2, cap2, rfl, _⟩ := ho.rd hn
  have HO8 : Kp (OwnP w8 w2.heap.size (.slice a2 n cap2) n (cleanQ P 0)) := ⟨by rw [clean_zero]; exact ho⟩
  have hB2 : B < w2.heap.size := PB2.out.lt
  have HSZ : Kp (w.heap.size ≤ w2.heap.size ∧ B < w2.heap.size) := ⟨BW2.out.size, hB2⟩
  have HLO : Kp (∀ wr, OwnP wr w2.heap.size (.slice a2 n cap2) n (cleanQ P 0) → True) := ⟨fun _ _ => trivial⟩
  clear ho hb KC hB2 HLO
  go_wp2_with fail
  go_loopw [24] (fun iv wr => ∃ i : Nat, i ≤ n ∧ iv = .int .i64 (i : Int) ∧ Kp (OwnP wr w2.heap.size (.slice a2 n cap2) n (cleanQ P i) ∧ Below w.heap.size w wr ∧ Blk wr B R 32)) (fun iv _ => n - (intOf iv).toNat)
  case atStart => exact ⟨0, by omega, rfl, ⟨HO8.out, BW8.out, PB8.out⟩⟩
  case round =>
    obtain ⟨i, hi, rfl, HJ⟩ := hrel
    by_cases hlt : i < n
    · have t1 : decide ((i : Int) < (n : Int)) = true := decide_eq_true (by omega)
      have t2 : (i : Int) < (n : Int) := by omega
      have t3 : (0 : Int) ≤ (i : Int) := by omega
      obtain ⟨g, cap3, e3, hg3, _⟩ := HJ.out.1.shape (by omega)
      simp only [Value.slice.injEq, true_and] at e3
      obtain ⟨rfl, rfl⟩ := e3
      have x0 : wr.cell? ⟨g, i * 66 + 1, none⟩ = some (.bool (P i).dirty) := by
        have := HJ.out.1.cell i 1 hlt (by omega)
        rw [clean_at] at this
        exact this
      have f0 := HJ.out.1.frozen (i * 66 + 1)
      have J2 : Kp (OwnP (wr.setCell ⟨g, i * 66 + 1, none⟩ (.bool false)) w2.heap.size (.slice (some ⟨g, 0, none⟩) n cap2) n (cleanQ P (i + 1)) ∧ Below w.heap.size w (wr.setCell ⟨g, i * 66 + 1, none⟩ (.bool false)) ∧ Blk (wr.setCell ⟨g, i * 66 + 1, none⟩ (.bool false)) B R 32) := ⟨by
        refine ⟨?_, HJ.out.2.1.setCell (p := ⟨g, i * 66 + 1, none⟩) (Nat.le_trans HSZ.out.1 hg3) _, HJ.out.2.2.other _ _ _ (Nat.ne_of_lt (Nat.lt_of_lt_of_le HSZ.out.2 hg3))⟩
        have := HJ.out.1.stored i 1 hlt (by omega) { P i with dirty := false } (.bool false) (by rw [clean_at]; rfl)
        rw [clean_step] at this
        exact this⟩
      have HI2 := Kp.mk hi
      obtain ⟨dd, hdd⟩ : ∃ dd, dd = (P i).dirty := ⟨_, rfl⟩
      rw [← hdd] at x0
      clear HJ hg3 hdd hi HO8
      go_wp2_with fail
      go_roundw
      case rel => exact ⟨i + 1, by omega, by go_num, J2⟩
      case measure => simp [intOf]; omega
    · have t1 : decide ((i : Int) < (n : Int)) = false := decide_eq_false (by omega)
      have t1n : decide (i < n) = false := decide_eq_false hlt
      have hin : i = n := by omega
      have HOC : Kp (OwnP wr w2.heap.size (.slice a2 n cap2) n C) := ⟨by
        have := HJ.out.1
        rw [hin] at this
        exact this.congr HCC.out⟩
      have BWr := Kp.mk HJ.out.2.1
      have PBr := Kp.mk HJ.out.2.2
      clear HJ hin hi hlt HO8
      go_wp2_with (first
        | (refine wpList_load_row rfl 32 _ rfl B rfl 32 R (0, 0) _ PBr.out Tryd.underlying32 rfl HIR.out.2.1 ?_))
      refine (K1.out _ BWr.out).mono ?_
      rintro e w3 ⟨v1, rfl, ho, hb⟩
      obtain ⟨a1, cap1, rfl, _⟩ := ho.rd hn
      have HO1 := Kp.mk ho
      have BW3 := Kp.mk (BWr.out.trans (hb.mono BWr.out.size))
      have PB3 := Kp.mk (PBr.out.later hb)
      have HOC3 := Kp.mk (HOC.out.later hb)
      clear ho hb K1 HOC
      go_wp2_with (first
        | (refine wpList_store_row rfl 32 _ _ rfl w3.heap.size R1 rfl rfl 32 _ (two_a w3) HIR1.out.2.1 HIR1.out.1 HIR1.out.2.2 ?_)
        | (refine wpList_store_row rfl 38 _ _ rfl (w3.heap.size + 1) (stopA k1 s1 c1) rfl rfl 38 _ (two_b w3 R1) (stopSize _ _ _) rfl (stop_one _ _ _) ?_; refine wpList_gen (F := fun W => Kp (TwoV w3 W R1 (stopA k1 s1 c1))) ⟨two_v w3 R1 _⟩ ?_; intro w4 HTw4; have BW4 := Kp.mk (BW3.out.trans (HTw4.out.below.mono BW3.out.size)); have PB4 := Kp.mk (PB3.out.later HTw4.out.below); have HO14 := Kp.mk (HO1.out.later HTw4.out.below); have HOC4 := Kp.mk (HOC3.out.later HTw4.out.below))
        | (refine wpList_load_row rfl 32 _ rfl B rfl 32 R (0, 0) _ PB4.out Tryd.underlying32 rfl HIR.out.2.1 ?_))
      obtain ⟨a2', cap2', e2, hrd2⟩ := HOC4.out.rd hn
      simp only [Value.slice.injEq, true_and] at e2
      obtain ⟨rfl, rfl⟩ := e2
      refine (K2.out _ _ _ hrd2 BW4.out).mono ?_
      rintro e w5 ⟨v2, rfl, ho, hb⟩
      obtain ⟨a3, cap3, rfl, _⟩ := ho.rd hn
      have HO2 := Kp.mk ho
      have BW5 := Kp.mk (BW4.out.trans (hb.mono BW4.out.size))
      have VA5 := Kp.mk (HTw4.out.a.later hb)
      have VB5 := Kp.mk (HTw4.out.b.later hb)
      have HO15 := Kp.mk (HO14.out.later hb)
      clear ho hb K2 HTw4 HO14 HO1 hrd2 HOC3 HOC4
      go_wp2_with (first
        | (refine wpList_store_row rfl 32 _ _ rfl w5.heap.size R1 rfl rfl 32 _ (two_a w5) HIR1.out.2.1 HIR1.out.1 HIR1.out.2.2 ?_)
        | (refine wpList_store_row rfl 38 _ _ rfl (w5.heap.size + 1) (stopA k1 s1 c1) rfl rfl 38 _ (two_b w5 R1) (stopSize _ _ _) rfl (stop_one _ _ _) ?_; refine wpList_gen (F := fun W => Kp (TwoV w5 W R1 (stopA k1 s1 c1))) ⟨two_v w5 R1 _⟩ ?_; intro w6 HTw6; have BW6 := Kp.mk (BW5.out.trans (HTw6.out.below.mono BW5.out.size)); have VA6 := Kp.mk (VA5.out.later HTw6.out.below); have VB6 := Kp.mk (VB5.out.later HTw6.out.below); have HO16 := Kp.mk (HO15.out.later HTw6.out.below); have HO26 := Kp.mk (HO2.out.later HTw6.out.below); have x0 := VB6.out.cell 0 _ rfl; have x1 := VB6.out.cell 1 _ rfl; have x2 := VB6.out.cell 2 _ rfl; have y0 := HTw6.out.b.cell 0 _ rfl; have y1 := HTw6.out.b.cell 1 _ rfl; have y2 := HTw6.out.b.cell 2 _ rfl)
        | (refine wpList_load_mid_g rfl 32 _ rfl w5.heap.size 0 rfl R1.toList _ (row_range HTw6.out.a) Tryd.underlying32 rfl (by simpa using HIR1.out.2.1) ?_)
        | (refine wpList_load_mid_g rfl 32 _ rfl w3.heap.size 0 rfl R1.toList _ (row_range VA6.out) Tryd.underlying32 rfl (by simpa using HIR1.out.2.1) ?_))
      have HD6 : Kp (Drew w6 w6) := ⟨Drew.refl _⟩
      clear x0 x1 x2 y0 y1 y2 he1 hg
      go_loopw [72] (fun iv wr => ∃ i : Nat, i ≤ n ∧ iv = .int .i64 (i : Int) ∧ Kp (Drew w6 wr)) (fun iv _ => n - (intOf iv).toNat)
      case atStart => exact ⟨0, by omega, rfl, HD6⟩
      case round =>
        obtain ⟨i, hi, rfl, HD⟩ := hrel
        by_cases hlt : i < n
        · have t1 : decide ((i : Int) < (n : Int)) = true := decide_eq_true (by omega)
          have t2 : (i : Int) < (n : Int) := by omega
          have t3 : (0 : Int) ≤ (i : Int) := by omega
          have hdx := HD.out.below
          obtain ⟨_, _, e1, r1⟩ := HO16.out.rd hn
          obtain ⟨_, _, e2, r2⟩ := HO26.out.rd hn
          simp only [Value.slice.injEq, true_and] at e1 e2
          obtain ⟨rfl, rfl⟩ := e1
          obtain ⟨rfl, rfl⟩ := e2
          obtain ⟨g0, o0, ha0, hc0⟩ := ((H0.out.later BW6.out).later hdx).cells (by omega)
          obtain ⟨g1, o1, ha1, hc1⟩ := (r1.later hdx).cells (by omega)
          obtain ⟨g2, o2, ha2, hc2⟩ := (r2.later hdx).cells (by omega)
          have p0 := hc0 i hlt
          have p1 := hc1 i hlt
          have p2 := hc2 i hlt
          have d0 : wr.cell? ⟨g0, o0 + i * 66 + 1, none⟩ = some (.bool (P i).dirty) := p0 1 _ rfl
          have d1 : wr.cell? ⟨g1, o1 + i * 66 + 1, none⟩ = some (.bool (P1 i).dirty) := p1 1 _ rfl
          have d2 : wr.cell? ⟨g2, o2 + i * 66 + 1, none⟩ = some (.bool (P2 i).dirty) := p2 1 _ rfl
          have q1 := data_in p1
          have q2 := data_in p2
          rw [HAL.out.data i] at q1
          rw [HAL.out.dirty i] at d1
          have he : ∀ w, (Op.equalIn 10000 44 (.agg (dataL (P2 i).data).toArray) (.agg (dataL (P2 i).data).toArray)).run Tryd.prog w = .ok true w := fun w => by
            have := data_eq 9998 (P2 i).data (P2 i).data w
            rw [dataEq_refl] at this
            exact this
          have hln : (Tryd.prog.info? 44).map (·.size) = some (dataL (P2 i).data).length := by rw [dataL_length]; exact infoData
          obtain ⟨G, hG⟩ : ∃ G, G = dataL (P2 i).data := ⟨_, rfl⟩
          rw [← hG] at q1 q2 he hln
          have M1 : Kp (∀ (w' : World), (∃ n, w' = wr.drewN n) → w'.rangeAt g1 (o1 + i * 66 + 2) G) := ⟨fun w' hw' => prange_later q1 (Drew.below hw')⟩
          have M2 : Kp (∀ (w' : World), (∃ n, w' = wr.drewN n) → w'.rangeAt g2 (o2 + i * 66 + 2) G) := ⟨fun w' hw' => prange_later q2 (Drew.below hw')⟩
          have HLN := Kp.mk hln
          obtain ⟨x0, hx0⟩ : ∃ x, x = (P i).dirty := ⟨_, rfl⟩
          obtain ⟨x2, hx2⟩ : ∃ x, x = (P2 i).dirty := ⟨_, rfl⟩
          rw [← hx0] at d0
          rw [← hx0, ← hx2] at d1
          rw [← hx2] at d2
          have HI3 := Kp.mk hi
          have HLT3 := Kp.mk hlt
          subst ha0
          subst ha1
          subst ha2
          clear hc0 hc1 hc2 p0 p1 p2 q1 q2 hG hln hx0 hx2 r1 r2 hdx hi hlt
          cases x0 <;> cases x2
          all_goals (
            simp only [Bool.or_true, Bool.or_false] at d1
            go_wp2
            refine wp_region_quiet_lit (by kernel_rfl) (by kernel_rfl) ?_
            repeat (first
              | go_big_quiet_skip
              | ((first
                  | (refine quiet_load_o 44 _ rfl g1 (o1 + i * 66 + 2) rfl G _ M1.out Tryd.underlying44 rfl HLN.out rfl ?_)
                  | (refine quiet_load_o 44 _ rfl g2 (o2 + i * 66 + 2) rfl G _ M2.out Tryd.underlying44 rfl HLN.out rfl ?_)); simp only [Act.put, List.setIfInBounds_toArray, List.set_cons_zero, List.set_cons_succ])
              | go_big_quiet_step (fail))
            refine wpQuiet_nil ?_
            rintro _ ⟨nq, rfl⟩
            have HD2 := Kp.mk (HD.out.trans ⟨nq, rfl⟩)
            go_wp2
            go_roundw
            case rel => exact ⟨i + 1, by have := HLT3.out; omega, by go_num, HD2⟩
            case measure => have := HLT3.out; simp [intOf]; omega)
        · have t1 : decide ((i : Int) < (n : Int)) = false := decide_eq_false (by omega)
          have t1n : decide (i < n) = false := decide_eq_false hlt
          go_wp2_with fail
          go_ret
          exact ⟨rfl, BW6.out.trans (HD.out.below.mono BW6.out.size)⟩
end Go.Proofs.YtadikbmbadldpaaDoor
