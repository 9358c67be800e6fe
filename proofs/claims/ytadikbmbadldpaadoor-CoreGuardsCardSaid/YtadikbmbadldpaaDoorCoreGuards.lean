
/- CoreGuards, walked (printed by gen_coreguards.py). -/
import Derived.Test.YtadikbmbadldpaaDoorProcEq
namespace Go.Proofs.YtadikbmbadldpaaDoor
open Go Go.RowKit
set_option linter.unusedVariables false
set_option linter.unusedSimpArgs false

/-- Pages as a run may leave them. -/
structure GuardP (P C : Nat → PageV) : Prop where
  rights : ∀ i, (C i).rights = (P i).rights
  same : ∀ i, rb (P i).rights 1 = false → C i = P i
  keep : ∀ i, (P i).dirty = true → (C i).dirty = true
  mark : ∀ i, (C i).dirty = false → (C i).data = (P i).data
theorem GuardP.refl (P : Nat → PageV) : GuardP P P := ⟨fun _ => rfl, fun _ _ => rfl, fun _ h => h, fun _ _ => rfl⟩
theorem GuardP.store {P C : Nat → PageV} (h : GuardP P C) {n ad s v : Nat} (hl : lookF C n ad s 1 = 0) : GuardP P (Pg.store C ad s v) := by
  obtain ⟨_, _, hr⟩ := lookF_zero.1 hl
  unfold Pg.store upd
  refine ⟨fun i => ?_, fun i hi => ?_, fun i hi => ?_, fun i hi => ?_⟩
  · dsimp only
    split
    · rename_i e; rw [e]; exact h.rights _
    · exact h.rights _
  · dsimp only
    split
    · rename_i e
      subst e
      rw [h.rights, hi] at hr
      cases hr
    · exact h.same i hi
  · dsimp only
    split
    · rfl
    · exact h.keep i hi
  · dsimp only at hi ⊢
    split at hi
    · cases hi
    · rename_i e
      rw [if_neg e]
      exact h.mark i hi
theorem GuardP.mem {P C : Nat → PageV} (h : GuardP P C) (n : Nat) (q : ProcV) (i : InsV) : GuardP P (memV C n q i).2.1 := by
  unfold memV
  dsimp only
  split
  · dsimp only
    split
    · rename_i hl; exact h.store hl
    · exact h
  · exact h
theorem GuardP.step {P C : Nat → PageV} (h : GuardP P C) (n : Nat) (q : ProcV) : GuardP P (stepV n C q).P := by
  unfold stepV
  dsimp only
  split
  · exact h
  · split
    · exact h
    · split
      · exact h
      · split
        · split
          · exact h.mem n q _
          · exact h.mem n q _
        · split
          · exact h
          · exact h
theorem guard_it (P : Nat → PageV) (n : Nat) (q : ProcV) (i : Nat) : GuardP P (itV n P q i).P := by
  induction i with
  | zero => exact GuardP.refl P
  | succ i ih =>
    rw [itV]
    split
    · exact ih.step n _
    · exact ih
/-- Of the process nothing but registers and pc changes. -/
structure SameQ (p q : ProcV) : Prop where
  st : q.st = p.st
  pr : q.pr = p.pr
  wa : q.wa = p.wa
  ob : q.ob = p.ob
theorem SameQ.set {p q : ProcV} (h : SameQ p q) (k : Nat) (x : BitVec 32) : SameQ p (q.set k x) := by
  unfold ProcV.set
  split
  · exact h
  · exact ⟨h.st, h.pr, h.wa, h.ob⟩
theorem SameQ.go {p q : ProcV} (h : SameQ p q) (x : BitVec 32) : SameQ p (q.go x) := ⟨h.st, h.pr, h.wa, h.ob⟩
theorem SameQ.cmp {p q : ProcV} (h : SameQ p q) (i : InsV) : SameQ p (cmpV q i).2 := by
  unfold cmpV
  dsimp only
  repeat' (first | exact h.set _ _ | exact h | split)
theorem SameQ.mem {p q : ProcV} (h : SameQ p q) (P : Nat → PageV) (n : Nat) (i : InsV) : SameQ p (memV P n q i).2.2 := by
  unfold memV
  dsimp only
  repeat' (first | exact h.set _ _ | exact h | split)
theorem SameQ.jmp {p q : ProcV} (h : SameQ p q) (i : InsV) (nx : BitVec 32) : SameQ p (jmpV q i nx).2 := by
  unfold jmpV
  repeat' (first | exact h.set _ _ | exact h | split)
theorem SameQ.step {p q : ProcV} (h : SameQ p q) (n : Nat) (P : Nat → PageV) : SameQ p (stepV n P q).q := by
  unfold stepV
  dsimp only
  split
  · exact h
  · split
    · exact h.go _
    · split
      · exact (h.jmp _ _).go _
      · split
        · split
          · exact h.mem P n _
          · exact (h.mem P n _).go _
        · split
          · exact h.cmp _
          · exact (h.cmp _).go _
theorem sameQ_it (n : Nat) (P : Nat → PageV) (p q : ProcV) (h : SameQ p q) (i : Nat) : SameQ p (itV n P q i).q := by
  induction i with
  | zero => exact h
  | succ i ih =>
    rw [itV]
    split
    · exact ih.step n _
    · exact ih
theorem cmp_fault {q : ProcV} {i : InsV} : (cmpV q i).1 ≠ 0 → (cmpV q i).2 = q := by
  unfold cmpV
  by_cases h : i.op = 20
  · rw [if_pos h]
    exact fun h => absurd rfl h
  · rw [if_neg h]
    dsimp only
    generalize (if i.op = 16 then Alu.do_ 1 (q.r i.b.toNat) (immB i) else if i.op = 17 then Alu.do_ 3 (q.r i.b.toNat) (immB i) else if i.op = 18 then Alu.do_ 4 (q.r i.b.toNat) (immB i) else if i.op = 19 then Alu.do_ 5 (q.r i.b.toNat) (immB i) else Alu.do_ i.op (q.r i.b.toNat) (q.r i.c.toNat)) = z
    by_cases hz : z.2 = 0
    · rw [if_pos hz]
      exact fun h => absurd rfl h
    · rw [if_neg hz]
      exact fun _ => rfl
/-- A fault changes nothing. -/
theorem fault_same {n : Nat} {P : Nat → PageV} {q : ProcV} (h : (stepV n P q).k = 2) : (stepV n P q).P = P ∧ (stepV n P q).q = q := by
  unfold stepV at h ⊢
  dsimp only at h ⊢
  split at h
  · rename_i h1; rw [if_pos h1]; exact ⟨rfl, rfl⟩
  · rename_i h1
    rw [if_neg h1]
    split at h
    · cases h
    · rename_i h2
      rw [if_neg h2]
      split at h
      · cases h
      · rename_i h3
        rw [if_neg h3]
        split at h
        · rename_i h4
          rw [if_pos h4]
          split at h
          · rename_i h5
            rw [if_pos h5]
            unfold memV at h5 ⊢
            dsimp only at h5 ⊢
            split at h5
            · rename_i h6
              rw [if_pos h6]
              dsimp only at h5 ⊢
              rw [if_neg h5]
              exact ⟨rfl, rfl⟩
            · rename_i h6
              rw [if_neg h6]
              dsimp only at h5 ⊢
              rw [if_neg h5]
              exact ⟨rfl, rfl⟩
          · cases h
        · rename_i h4
          rw [if_neg h4]
          split at h
          · rename_i h5
            rw [if_pos h5]
            exact ⟨rfl, cmp_fault h5⟩
          · cases h
theorem fault_again {n : Nat} {P : Nat → PageV} {q : ProcV} {i : Nat} (h : (itV n P q i).k = 2) : stepV n (itV n P q i).P (itV n P q i).q = ⟨(itV n P q i).P, (itV n P q i).q, 2, (itV n P q i).c⟩ := by
  induction i with
  | zero => cases h
  | succ i ih =>
    by_cases h0 : (itV n P q i).k = 0
    · rw [itV_next h0] at h ⊢
      dsimp only at h ⊢
      obtain ⟨e1, e2⟩ := fault_same h
      rw [e1, e2]
      generalize stepV n (itV n P q i).P (itV n P q i).q = o at *
      obtain ⟨oP, oq, ok, oc⟩ := o
      dsimp only at h e1 e2
      subst e1 e2 h
      rfl
    · rw [itV, if_neg h0] at h ⊢
      exact ih h
set_option maxRecDepth 100000 in
set_option maxHeartbeats 8000000 in
theorem core_step1 (A : Nat → Addr) (a : Option Addr) (n cap : Nat) (P : Nat → PageV) (q : ProcV) (w : World) (h : RdP w a n cap P) (hE : Errs w [4, 7, 20] A) (ht : BlankT w) (z : RunV) (hz : z = itV n P (q.put 0 0#32) 1) :
    Calls Tryd.prog 19 #[.slice a n cap, .agg q.row.toArray] w fun e w' => ∃ v, e = .returned (.tuple #[v, .agg z.q.row.toArray, .agg (stopA z.k z.s z.c)]) ∧ OwnP w' w.heap.size v n z.P ∧ Below w.heap.size w w' := by
  have hn := h.bound
  obtain ⟨w1, e1⟩ : ∃ w1, w1 = w.alloc (.cells q.row.toArray 32) := ⟨_, rfl⟩
  obtain ⟨w2, e2⟩ : ∃ w2, w2 = w1.alloc (.cells zRow 32) := ⟨_, rfl⟩
  obtain ⟨w3, e3⟩ : ∃ w3, w3 = w2.alloc (.cells st0 38) := ⟨_, rfl⟩
  obtain ⟨B, hB⟩ : ∃ B, B = w.heap.size := ⟨_, rfl⟩
  have s1 : w1.heap.size = B + 1 := by rw [e1, hB]; simp
  have s2 : w2.heap.size = B + 2 := by rw [e2]; simp [s1]
  have s3 : w3.heap.size = B + 3 := by rw [e3]; simp [s2]
  have b1 : Below B w w1 := by rw [e1, hB]; exact below_alloc _ _
  have b2 : Below w1.heap.size w1 w2 := by rw [e2]; exact below_alloc _ _
  have b3 : Below w2.heap.size w2 w3 := by rw [e3]; exact below_alloc _ _
  have b13 : Below w1.heap.size w1 w3 := b2.trans (b3.mono (by omega))
  have b03 : Below B w w3 := b1.trans (b13.mono (by omega))
  have U0 : Kp (PrAt w3 B q) := ⟨Blk.later (by rw [e1, hB]; exact Blk.new _ _ _) b13⟩
  have U1 : Kp (Blk w3 (B + 1) zRow 32) := ⟨Blk.later (by rw [e2, ← s1]; exact Blk.new _ _ _) b3⟩
  have U2 : Kp (Blk w3 (B + 2) st0 38) := ⟨by rw [e3, ← s2]; exact Blk.new _ _ _⟩
  have KR : Kp (Calls Tryd.prog 15 #[.slice a n cap, .agg q.row.toArray, .int .i64 1] w3 fun e w' => ∃ v, e = .returned (.tuple #[v, .agg z.q.row.toArray, .agg (stopA z.k z.s z.c)]) ∧ OwnP w' w3.heap.size v n z.P ∧ Below w3.heap.size w3 w') := ⟨by
    have := core_run A a n cap P q 1 (by decide) w3 (h.later (hB ▸ b03)) (hE.later (hB ▸ b03)) (ht.later (hB ▸ b03))
    rw [show ((1 : Int).toNat) = 1 from rfl, ← hz] at this
    exact this⟩
  have B03 := Kp.mk b03
  have S3 := Kp.mk s3
  have HBq := Kp.mk hB
  have EQ : Kp (((w.alloc (.cells q.row.toArray 32)).alloc (.cells zRow 32)).alloc (.cells st0 38) = w3) := ⟨by rw [e3, e2, e1]⟩
  have U0' : Kp (Blk (((w.alloc (.cells q.row.toArray 32)).alloc (.cells zRow 32)).alloc (.cells st0 38)) w.heap.size q.row.toArray 32) := ⟨by rw [EQ.out, ← HBq.out]; exact U0.out⟩
  clear h hE ht e1 e2 e3 s1 s2 s3 b1 b2 b3 b13 b03 hB hz
  go_enter Tryd.func19, Tryd.ntmps19
  go_wp2_with (refine wpList_load_row rfl 32 _ rfl w.heap.size rfl 32 q.row.toArray (0, 0) _ U0'.out Tryd.underlying32 rfl (prSizeA q) ?_)
  rw [show (((w.alloc (.cells q.row.toArray 32)).alloc (.cells zRow 32)).alloc (.cells #[.int .i64 0, .int .i64 0, .int .i64 0] 38)) = w3 from EQ.out]
  refine KR.out.mono ?_
  rintro e w4 ⟨v, rfl, ho, hb⟩
  have V7 := Kp.mk (U1.out.later hb)
  have V8 := Kp.mk (U2.out.later hb)
  have HO := Kp.mk ho
  have HB4 := Kp.mk hb
  have VC8 : Kp (Blk (w4.setRow (B + 1) z.q.row.toArray) (B + 2) st0 38) := ⟨(setRow_other _ _ _ _ (by omega)).trans V8.out⟩
  clear ho hb KR U0 U0' EQ
  rw [← HBq.out, show B + 1 + 1 = B + 2 from rfl]
  go_wp2_with (first
    | (refine wpList_store_row rfl 32 _ _ rfl (B + 1) z.q.row.toArray rfl rfl 32 _ V7.out (prSizeA z.q) (row_size21 z.q) (row_all_one z.q) ?_)
    | (refine wpList_store_row rfl 38 _ _ rfl (B + 2) (stopA z.k z.s z.c) rfl rfl 38 _ VC8.out (stopSize _ _ _) rfl (stop_one _ _ _) ?_))
  have R8 : Blk ((w4.setRow (B + 1) z.q.row.toArray).setRow (B + 2) (stopA z.k z.s z.c)) (B + 2) (stopA z.k z.s z.c) 38 := setRow_heap _ _ _ _ _ _ VC8.out
  have R7 : PrAt ((w4.setRow (B + 1) z.q.row.toArray).setRow (B + 2) (stopA z.k z.s z.c)) (B + 1) z.q := (setRow_other _ _ _ _ (by omega)).trans (setRow_heap _ _ _ _ _ _ V7.out)
  refine bodyPost_ret (resRun rfl _ rfl rfl R7 R8 _ _ Tryd.underlying32 Tryd.underlying38 (prSizeA z.q) (stopSize _ _ _)) rfl ?_
  have hb0 : Below w.heap.size w w4 := by
    rw [← HBq.out]
    exact B03.out.trans (HB4.out.mono (by rw [S3.out]; omega))
  exact ⟨v, rfl, (((HO.out.setRow (B + 1) _ (by rw [S3.out]; omega)).setRow (B + 2) _ (by rw [S3.out]; omega))).mono (by rw [S3.out, HBq.out]; omega), below_setRow (below_setRow hb0 (by rw [HBq.out]; omega) _) (by rw [HBq.out]; omega) _⟩
theorem wpList_load_mid_o {ops : Array Oper} {rest : List Oper} {op : Oper} {a : Act} {w : World} {Q : Exit → Act → World → Prop} (ty : TypeId) (x : Operand) (ho : op.op = .load ty x)
    (b o : Nat) (hx : a.eval x = .pointer (some ⟨b, o, none⟩)) (cs : List Value) (d : TypeDesc) (hc : w.rangeAt b o cs)
    (hu : Tryd.prog.underlying ty = some d) (hd : d.isRow = true) (hi : (Tryd.prog.info? ty).map (·.size) = some cs.length) (hw : Region.wanted op (yielded ops a.tmps) = true)
    (h : wpList Tryd.prog ops Q rest (a.put op.dst (.agg cs.toArray)) w) : wpList Tryd.prog ops Q (op :: rest) a w := wpList_load_mid_g hw ty x ho b o hx cs d hc hu hd hi h
theorem page_facts (p : PageV) : (Tryd.prog.info? 46).map (·.size) = some p.row.toArray.size ∧ (66 : Nat) = p.row.toArray.size ∧ p.row.toArray.all (·.oneCell') = true :=
  ⟨by rw [List.size_toArray, PageV.row_length]; kernel_rfl, by rw [List.size_toArray, PageV.row_length], by rw [List.all_toArray, List.all_eq_true]; exact p.row_one⟩
theorem data_len (f : Nat → BitVec 8) : (Tryd.prog.info? 44).map (·.size) = some (dataL f).length := by rw [dataL_length]; exact infoData
/-- A process's row, hidden. -/
theorem row_is (q : ProcV) : zRow.size = q.row.toArray.size ∧ (Tryd.prog.info? 32).map (·.size) = some q.row.toArray.size ∧ q.row.toArray.all (·.oneCell') = true := ⟨row_size21 q, prSizeA q, row_all_one q⟩
theorem row_range {w : World} {g : Nat} {R : Array Value} {T : TypeId} (h : Blk w g R T) : w.rangeAt g 0 R.toList := fun j u hu => by
  rw [Nat.zero_add]
  exact h.cell j u (by simpa using hu)
theorem bnd_le (n : Int) : bndV n ≤ 3000 := by unfold bndV; split <;> omega
set_option maxRecDepth 100000 in
set_option maxHeartbeats 8000000 in
theorem law_CoreGuards (A : Nat → Addr) (a : Option Addr) (n cap : Nat) (P : Nat → PageV) (q : ProcV) (m : Int) (w : World) (h : RdP w a n cap P) (hm0 : -9223372036854775808 ≤ m) (hm1 : m ≤ 9223372036854775807) (hE : Errs w [4, 7, 12, 20] A) (ht : BlankT w) :
    Calls Tryd.prog 7 #[.slice a n cap, .agg q.row.toArray, .int .i64 m] w fun e w' => e = .returned (.bool true) ∧ Below w.heap.size w w' := by
  have hn := h.bound
  have hE2 : Errs w [4, 7, 20] A := hE.sub (by intro c hc; simp at hc ⊢; omega)
  have KAW := Kp.mk (fun w' (hw : Below w.heap.size w w') => law_awake A w' (hE2.later hw) (ht.later hw))
  have KB1 := Kp.mk (fun v => law_bounded m v)
  have b1 := bnd_le m
  obtain ⟨na, hna⟩ : ∃ x, x = bndV m := ⟨_, rfl⟩
  rw [← hna] at KB1 b1
  obtain ⟨B, hB⟩ : ∃ B, B = w.heap.size := ⟨_, rfl⟩
  obtain ⟨w1, e1⟩ : ∃ w1, w1 = w.alloc (.cells q.row.toArray 32) := ⟨_, rfl⟩
  have BW1 : Kp (Below w.heap.size w w1) := ⟨by rw [e1]; exact below_alloc _ _⟩
  have PB1 : Kp (PrAt w1 B q) := ⟨by rw [e1, hB]; exact Blk.new _ _ _⟩
  have EW : Kp (w.alloc (.cells q.row.toArray 32) = w1) := ⟨e1.symm⟩
  have HBq := Kp.mk hB
  obtain ⟨z, hz⟩ : ∃ z, z = itV n P (q.put 0 0#32) na.toNat := ⟨_, rfl⟩
  have K1 : Kp (∀ w', Below w.heap.size w w' → Calls Tryd.prog 15 #[.slice a n cap, .agg q.row.toArray, .int .i64 na] w' fun e w'' => ∃ v2, e = .returned (.tuple #[v2, .agg z.q.row.toArray, .agg (stopA z.k z.s z.c)]) ∧ OwnP w'' w'.heap.size v2 n z.P ∧ Below w'.heap.size w' w'') :=
    ⟨fun w' hw => by rw [hz]; exact core_run A a n cap P q na (by omega) w' (h.later hw) (hE2.later hw) (ht.later hw)⟩
  have HG := Kp.mk (guard_it P n (q.put 0 0#32) na.toNat)
  rw [← hz] at HG
  have hr0 : z.q.r 0 = 0#32 := by rw [hz]; exact it_r0 (put_r0 q) _
  have hsq : SameQ q z.q := by rw [hz]; exact sameQ_it n P q (q.put 0 0#32) ⟨rfl, rfl, rfl, rfl⟩ _
  have KST : Kp (z.k = 2 → ∀ a2 cap2 w', RdP w' a2 n cap2 z.P → Below w.heap.size w w' → Calls Tryd.prog 19 #[.slice a2 n cap2, .agg z.q.row.toArray] w' fun e w'' => ∃ v2, e = .returned (.tuple #[v2, .agg z.q.row.toArray, .agg (stopA 2 1 z.c)]) ∧ OwnP w'' w'.heap.size v2 n z.P ∧ Below w'.heap.size w' w'') := ⟨fun hk a2 cap2 w' hr hw => by
    have hf : stepV n z.P z.q = ⟨z.P, z.q, 2, z.c⟩ := by
      have := fault_again (n := n) (P := P) (q := q.put 0 0#32) (i := na.toNat) (by rw [← hz]; exact hk)
      rw [← hz] at this
      exact this
    have hi : itV n z.P (z.q.put 0 0#32) 1 = ⟨z.P, z.q, 2, z.c, 1⟩ := by
      rw [put_same hr0]
      have e : itV n z.P z.q 1 = _ := itV_next (i := 0) rfl
      rw [e]
      show (⟨(stepV n z.P z.q).P, (stepV n z.P z.q).q, (stepV n z.P z.q).k, (stepV n z.P z.q).c, 0 + 1⟩ : RunV) = _
      rw [hf]
    exact core_step1 A a2 n cap2 z.P z.q w' hr (hE2.later hw) (ht.later hw) _ hi.symm⟩
  have H0 := Kp.mk h
  have hg := guardProc
  have hgd := guardData
  have hgp := guardPage
  have he1 : ∀ w, (Op.equalIn 10000 32 (.agg z.q.row.toArray) (.agg z.q.row.toArray)).run Tryd.prog w = .ok true w := fun w => proc_eq 9997 z.q w
  have HP0 : Kp (q.row.toArray[17]? = some (.int .i64 q.st) ∧ q.row.toArray[18]? = some (.int .i64 q.pr) ∧ q.row.toArray[19]? = some (.int .i64 q.wa) ∧ q.row.toArray[20]? = some (.int .i64 q.ob)) := ⟨by simpa using row_tail q 1 _ rfl, by simpa using row_tail q 2 _ rfl, by simpa using row_tail q 3 _ rfl, by simpa using row_tail q 4 _ rfl⟩
  have HP1 : Kp (z.q.row.toArray[0]? = some (.int .u32 0) ∧ z.q.row.toArray[17]? = some (.int .i64 q.st) ∧ z.q.row.toArray[18]? = some (.int .i64 q.pr) ∧ z.q.row.toArray[19]? = some (.int .i64 q.wa) ∧ z.q.row.toArray[20]? = some (.int .i64 q.ob)) := ⟨by
      have := z.q.row_reg 0 (by decide)
      rw [hr0] at this
      simpa using this, by rw [← hsq.st]; simpa using row_tail z.q 1 _ rfl, by rw [← hsq.pr]; simpa using row_tail z.q 2 _ rfl, by rw [← hsq.wa]; simpa using row_tail z.q 3 _ rfl, by rw [← hsq.ob]; simpa using row_tail z.q 4 _ rfl⟩
  obtain ⟨R, hR⟩ : ∃ R, R = q.row.toArray := ⟨_, rfl⟩
  obtain ⟨R1, hR1⟩ : ∃ R, R = z.q.row.toArray := ⟨_, rfl⟩
  have HIR : Kp (zRow.size = R.size ∧ (Tryd.prog.info? 32).map (·.size) = some R.size ∧ R.all (·.oneCell') = true) := ⟨by rw [hR]; exact row_is q⟩
  have HIR1 : Kp (zRow.size = R1.size ∧ (Tryd.prog.info? 32).map (·.size) = some R1.size ∧ R1.all (·.oneCell') = true) := ⟨by rw [hR1]; exact row_is z.q⟩
  rw [← hR] at K1 EW HP0 ⊢
  rw [← hR1] at K1 he1 KST HP1
  have PB : Kp (Blk w1 B R 32) := ⟨by rw [hR]; exact PB1.out⟩
  obtain ⟨P1, hP1⟩ : ∃ P1, P1 = z.P := ⟨_, rfl⟩
  rw [← hP1] at K1 HG KST
  obtain ⟨k1, hk1⟩ : ∃ k, k = z.k := ⟨_, rfl⟩
  obtain ⟨s1, hs1⟩ : ∃ s, s = z.s := ⟨_, rfl⟩
  obtain ⟨c1, hc1⟩ : ∃ c, c = z.c := ⟨_, rfl⟩
  rw [← hk1, ← hs1, ← hc1] at K1
  rw [← hk1, ← hc1] at KST
  obtain ⟨qs, hqs⟩ : ∃ x, x = q.st := ⟨_, rfl⟩
  obtain ⟨qp, hqp⟩ : ∃ x, x = q.pr := ⟨_, rfl⟩
  obtain ⟨qw, hqw⟩ : ∃ x, x = q.wa := ⟨_, rfl⟩
  obtain ⟨qo, hqo⟩ : ∃ x, x = q.ob := ⟨_, rfl⟩
  rw [← hqs, ← hqp, ← hqw, ← hqo] at HP0 HP1
  clear PB1 h hE hE2 ht e1 hB hz hr0 hsq hR hR1 hP1 hk1 hs1 hc1 hna b1 hm0 hm1 hqs hqp hqw hqo
  go_enter Tryd.func7, Tryd.ntmps7
  go_wp2_with fail
  rw [← HBq.out, EW.out]
  refine (KAW.out w1 BW1.out).mono ?_
  rintro e w2 ⟨rfl, hb⟩
  have BW2 := Kp.mk (BW1.out.trans (hb.mono BW1.out.size))
  have PB2 := Kp.mk (PB.out.later hb)
  clear hb KAW EW
  go_wp2_with (first
    | (with_reducible refine (KB1.out _).mono ?_; rintro e w6 ⟨rfl, hw6⟩; obtain rfl := hw6.symm; clear hw6)
    | (refine wpList_load_row rfl 32 _ rfl B rfl 32 R (0, 0) _ PB2.out Tryd.underlying32 rfl HIR.out.2.1 ?_))
  refine (K1.out _ BW2.out).mono ?_
  rintro e w3 ⟨v1, rfl, ho, hb⟩
  obtain ⟨a1, cap1, rfl, _⟩ := ho.rd hn
  have HO1 := Kp.mk ho
  have BW3 := Kp.mk (BW2.out.trans (hb.mono BW2.out.size))
  have PB3 := Kp.mk (PB2.out.later hb)
  clear ho hb K1
  go_wp2_with (first
    | (refine wpList_store_row rfl 32 _ _ rfl w3.heap.size R1 rfl rfl 32 _ (two_a w3) HIR1.out.2.1 HIR1.out.1 HIR1.out.2.2 ?_)
    | (refine wpList_store_row rfl 38 _ _ rfl (w3.heap.size + 1) (stopA k1 s1 c1) rfl rfl 38 _ (two_b w3 R1) (stopSize _ _ _) rfl (stop_one _ _ _) ?_; refine wpList_gen (F := fun W => Kp (TwoV w3 W R1 (stopA k1 s1 c1))) ⟨two_v w3 R1 _⟩ ?_; intro w4 HTw4; have BW4 := Kp.mk (BW3.out.trans (HTw4.out.below.mono BW3.out.size)); have PB4 := Kp.mk (PB3.out.later HTw4.out.below); have HO14 := Kp.mk (HO1.out.later HTw4.out.below); have x0 := HTw4.out.a.cell 0 _ HP1.out.1; have x1 := HTw4.out.a.cell 17 _ HP1.out.2.1; have x2 := HTw4.out.a.cell 18 _ HP1.out.2.2.1; have x3 := HTw4.out.a.cell 19 _ HP1.out.2.2.2.1; have x4 := HTw4.out.a.cell 20 _ HP1.out.2.2.2.2; have y0 := PB4.out.cell 17 _ HP0.out.1; have y1 := PB4.out.cell 18 _ HP0.out.2.1; have y2 := PB4.out.cell 19 _ HP0.out.2.2.1; have y3 := PB4.out.cell 20 _ HP0.out.2.2.2))
  clear x0 x1 x2 x3 x4 y0 y1 y2 y3
  have HI6 : Kp (Below w4.heap.size w4 w4) := ⟨Below.refl _ _⟩
  go_loopw [69] (fun iv wr => ∃ i : Nat, i ≤ n ∧ iv = .int .i64 (i : Int) ∧ Kp (Below w4.heap.size w4 wr)) (fun iv _ => n - (intOf iv).toNat)
  case atStart => exact ⟨0, by omega, rfl, HI6⟩
  case round =>
    obtain ⟨i, hi, rfl, HJ⟩ := hrel
    by_cases hlt : i < n
    · have t1 : decide ((i : Int) < (n : Int)) = true := decide_eq_true (by omega)
      have t2 : (i : Int) < (n : Int) := by omega
      have t3 : (0 : Int) ≤ (i : Int) := by omega
      obtain ⟨_, _, e1, r1⟩ := HO14.out.rd hn
      simp only [Value.slice.injEq, true_and] at e1
      obtain ⟨rfl, rfl⟩ := e1
      obtain ⟨g0, o0, ha0, hc0⟩ := ((H0.out.later BW4.out).later HJ.out).cells (by omega)
      obtain ⟨g1, o1, ha1, hc1⟩ := (r1.later HJ.out).cells (by omega)
      have HQ0 := Kp.mk (hc0 i hlt)
      have HQ1 := Kp.mk (hc1 i hlt)
      have hgr := HG.out.rights i
      have hgs := HG.out.same i
      have hgk := HG.out.keep i
      have hgm := HG.out.mark i
      obtain ⟨pa, hpa⟩ : ∃ p, p = P i := ⟨_, rfl⟩
      obtain ⟨pb, hpb⟩ : ∃ p, p = P1 i := ⟨_, rfl⟩
      rw [← hpa] at HQ0 hgr hgs hgk hgm
      rw [← hpb] at HQ1 hgr hgs hgk hgm
      have HI3 := Kp.mk hi
      have HLT3 := Kp.mk hlt
      subst ha0
      subst ha1
      clear hc0 hc1 hpa hpb hi hlt r1 KST HG he1 hg H0
      obtain ⟨ra, da, fa⟩ := pa
      obtain ⟨rc, db, fb⟩ := pb
      dsimp only at hgr hgs hgk hgm
      subst hgr
      by_cases hrb : rb rc 1 = true
      · have pbits : bits .and .i64 rc 2 = 2 := by
          have := bits_pow rc 1 (by decide)
          rw [hrb] at this
          exact this
        clear hgs hrb
        obtain ⟨e, he⟩ : ∃ e, e = dataEq fa fb := ⟨_, rfl⟩
        have hed : ∀ w, (Op.equalIn 10000 44 (.agg (dataL fa).toArray) (.agg (dataL fb).toArray)).run Tryd.prog w = .ok e w := fun w => by rw [he]; exact data_eq 9998 fa fb w
        cases da <;> cases db
        · have hff : fb = fa := hgm rfl
          subst hff
          have hee : e = true := by rw [he]; exact dataEq_refl _
          subst hee
          clear he hgk hgm
          go_wp2_with (first
            | go_skip
            | (refine wpList_load_mid rfl 46 _ rfl g0 (o0 + i * 66) rfl (PageV.row ⟨rc, false, fb⟩) _ HQ0.out Tryd.underlying46 rfl (pageLen ⟨rc, false, fb⟩) ?_)
            | (refine wpList_store_row rfl 46 _ _ rfl wr.heap.size (PageV.row ⟨rc, false, fb⟩).toArray rfl rfl 46 _ (Blk.new wr _ _) (page_facts ⟨rc, false, fb⟩).1 (page_facts ⟨rc, false, fb⟩).2.1 (page_facts ⟨rc, false, fb⟩).2.2 ?_; refine wpList_gen (F := fun W => Kp (Blk W wr.heap.size (PageV.row ⟨rc, false, fb⟩).toArray 46 ∧ Below wr.heap.size wr W)) ⟨setRow_heap _ _ _ _ _ _ (Blk.new wr _ _), below_setRow (below_alloc _ _) (Nat.le_refl _) _⟩ ?_; intro wa HA; have HQ2 := Kp.mk (prange_later HQ1.out HA.out.2))
            | (refine wpList_load_mid rfl 46 _ rfl g1 (o1 + i * 66) rfl (PageV.row ⟨rc, false, fb⟩) _ HQ2.out Tryd.underlying46 rfl (pageLen ⟨rc, false, fb⟩) ?_)
            | (refine wpList_store_row rfl 46 _ _ rfl wa.heap.size (PageV.row ⟨rc, false, fb⟩).toArray rfl rfl 46 _ (Blk.new wa _ _) (page_facts ⟨rc, false, fb⟩).1 (page_facts ⟨rc, false, fb⟩).2.1 (page_facts ⟨rc, false, fb⟩).2.2 ?_; refine wpList_gen (F := fun W => Kp (Blk W wa.heap.size (PageV.row ⟨rc, false, fb⟩).toArray 46 ∧ Below wa.heap.size wa W)) ⟨setRow_heap _ _ _ _ _ _ (Blk.new wa _ _), below_setRow (below_alloc _ _) (Nat.le_refl _) _⟩ ?_; intro wb HB; have A2 := Kp.mk (HA.out.1.later HB.out.2); have a0 : wb.cell? ⟨wr.heap.size, 0, none⟩ = some (.int .i64 rc) := A2.out.cell 0 _ rfl; have a1 : wb.cell? ⟨wr.heap.size, 1, none⟩ = some (.bool false) := A2.out.cell 1 _ rfl; have b0 : wb.cell? ⟨wa.heap.size, 0, none⟩ = some (.int .i64 rc) := HB.out.1.cell 0 _ rfl; have b1 : wb.cell? ⟨wa.heap.size, 1, none⟩ = some (.bool false) := HB.out.1.cell 1 _ rfl)
            | (refine wpList_load_mid_o 46 _ rfl wr.heap.size 0 rfl (PageV.row ⟨rc, false, fb⟩) _ A2.out.range Tryd.underlying46 rfl (pageLen ⟨rc, false, fb⟩) rfl ?_)
            | (refine wpList_load_mid_o 46 _ rfl wa.heap.size 0 rfl (PageV.row ⟨rc, false, fb⟩) _ HB.out.1.range Tryd.underlying46 rfl (pageLen ⟨rc, false, fb⟩) rfl ?_)
            | (refine wpList_load_mid_o 44 _ rfl wr.heap.size 2 rfl (dataL (⟨rc, false, fb⟩ : PageV).data) _ (data_in A2.out.range) Tryd.underlying44 rfl (data_len _) rfl ?_)
            | (refine wpList_load_mid_o 44 _ rfl wa.heap.size 2 rfl (dataL (⟨rc, false, fb⟩ : PageV).data) _ (data_in HB.out.1.range) Tryd.underlying44 rfl (data_len _) rfl ?_))
          have HN := Kp.mk (HJ.out.trans ((HA.out.2.trans (HB.out.2.mono HA.out.2.size)).mono HJ.out.size))
          refine ⟨⟨i + 1, by have := HLT3.out; omega, by go_num, HN⟩, ?_⟩
          have := HLT3.out
          simp [intOf]
          omega
        · clear he hgk hgm
          cases e
          · go_wp2_with (first
              | go_skip
              | (refine wpList_load_mid rfl 46 _ rfl g0 (o0 + i * 66) rfl (PageV.row ⟨rc, false, fa⟩) _ HQ0.out Tryd.underlying46 rfl (pageLen ⟨rc, false, fa⟩) ?_)
              | (refine wpList_store_row rfl 46 _ _ rfl wr.heap.size (PageV.row ⟨rc, false, fa⟩).toArray rfl rfl 46 _ (Blk.new wr _ _) (page_facts ⟨rc, false, fa⟩).1 (page_facts ⟨rc, false, fa⟩).2.1 (page_facts ⟨rc, false, fa⟩).2.2 ?_; refine wpList_gen (F := fun W => Kp (Blk W wr.heap.size (PageV.row ⟨rc, false, fa⟩).toArray 46 ∧ Below wr.heap.size wr W)) ⟨setRow_heap _ _ _ _ _ _ (Blk.new wr _ _), below_setRow (below_alloc _ _) (Nat.le_refl _) _⟩ ?_; intro wa HA; have HQ2 := Kp.mk (prange_later HQ1.out HA.out.2))
              | (refine wpList_load_mid rfl 46 _ rfl g1 (o1 + i * 66) rfl (PageV.row ⟨rc, true, fb⟩) _ HQ2.out Tryd.underlying46 rfl (pageLen ⟨rc, true, fb⟩) ?_)
              | (refine wpList_store_row rfl 46 _ _ rfl wa.heap.size (PageV.row ⟨rc, true, fb⟩).toArray rfl rfl 46 _ (Blk.new wa _ _) (page_facts ⟨rc, true, fb⟩).1 (page_facts ⟨rc, true, fb⟩).2.1 (page_facts ⟨rc, true, fb⟩).2.2 ?_; refine wpList_gen (F := fun W => Kp (Blk W wa.heap.size (PageV.row ⟨rc, true, fb⟩).toArray 46 ∧ Below wa.heap.size wa W)) ⟨setRow_heap _ _ _ _ _ _ (Blk.new wa _ _), below_setRow (below_alloc _ _) (Nat.le_refl _) _⟩ ?_; intro wb HB; have A2 := Kp.mk (HA.out.1.later HB.out.2); have a0 : wb.cell? ⟨wr.heap.size, 0, none⟩ = some (.int .i64 rc) := A2.out.cell 0 _ rfl; have a1 : wb.cell? ⟨wr.heap.size, 1, none⟩ = some (.bool false) := A2.out.cell 1 _ rfl; have b0 : wb.cell? ⟨wa.heap.size, 0, none⟩ = some (.int .i64 rc) := HB.out.1.cell 0 _ rfl; have b1 : wb.cell? ⟨wa.heap.size, 1, none⟩ = some (.bool true) := HB.out.1.cell 1 _ rfl)
              | (refine wpList_load_mid_o 46 _ rfl wr.heap.size 0 rfl (PageV.row ⟨rc, false, fa⟩) _ A2.out.range Tryd.underlying46 rfl (pageLen ⟨rc, false, fa⟩) rfl ?_)
              | (refine wpList_load_mid_o 46 _ rfl wa.heap.size 0 rfl (PageV.row ⟨rc, true, fb⟩) _ HB.out.1.range Tryd.underlying46 rfl (pageLen ⟨rc, true, fb⟩) rfl ?_)
              | (refine wpList_load_mid_o 44 _ rfl wr.heap.size 2 rfl (dataL (⟨rc, false, fa⟩ : PageV).data) _ (data_in A2.out.range) Tryd.underlying44 rfl (data_len _) rfl ?_)
              | (refine wpList_load_mid_o 44 _ rfl wa.heap.size 2 rfl (dataL (⟨rc, true, fb⟩ : PageV).data) _ (data_in HB.out.1.range) Tryd.underlying44 rfl (data_len _) rfl ?_))
            have HN := Kp.mk (HJ.out.trans ((HA.out.2.trans (HB.out.2.mono HA.out.2.size)).mono HJ.out.size))
            refine ⟨⟨i + 1, by have := HLT3.out; omega, by go_num, HN⟩, ?_⟩
            have := HLT3.out
            simp [intOf]
            omega
          · go_wp2_with (first
              | go_skip
              | (refine wpList_load_mid rfl 46 _ rfl g0 (o0 + i * 66) rfl (PageV.row ⟨rc, false, fa⟩) _ HQ0.out Tryd.underlying46 rfl (pageLen ⟨rc, false, fa⟩) ?_)
              | (refine wpList_store_row rfl 46 _ _ rfl wr.heap.size (PageV.row ⟨rc, false, fa⟩).toArray rfl rfl 46 _ (Blk.new wr _ _) (page_facts ⟨rc, false, fa⟩).1 (page_facts ⟨rc, false, fa⟩).2.1 (page_facts ⟨rc, false, fa⟩).2.2 ?_; refine wpList_gen (F := fun W => Kp (Blk W wr.heap.size (PageV.row ⟨rc, false, fa⟩).toArray 46 ∧ Below wr.heap.size wr W)) ⟨setRow_heap _ _ _ _ _ _ (Blk.new wr _ _), below_setRow (below_alloc _ _) (Nat.le_refl _) _⟩ ?_; intro wa HA; have HQ2 := Kp.mk (prange_later HQ1.out HA.out.2))
              | (refine wpList_load_mid rfl 46 _ rfl g1 (o1 + i * 66) rfl (PageV.row ⟨rc, true, fb⟩) _ HQ2.out Tryd.underlying46 rfl (pageLen ⟨rc, true, fb⟩) ?_)
              | (refine wpList_store_row rfl 46 _ _ rfl wa.heap.size (PageV.row ⟨rc, true, fb⟩).toArray rfl rfl 46 _ (Blk.new wa _ _) (page_facts ⟨rc, true, fb⟩).1 (page_facts ⟨rc, true, fb⟩).2.1 (page_facts ⟨rc, true, fb⟩).2.2 ?_; refine wpList_gen (F := fun W => Kp (Blk W wa.heap.size (PageV.row ⟨rc, true, fb⟩).toArray 46 ∧ Below wa.heap.size wa W)) ⟨setRow_heap _ _ _ _ _ _ (Blk.new wa _ _), below_setRow (below_alloc _ _) (Nat.le_refl _) _⟩ ?_; intro wb HB; have A2 := Kp.mk (HA.out.1.later HB.out.2); have a0 : wb.cell? ⟨wr.heap.size, 0, none⟩ = some (.int .i64 rc) := A2.out.cell 0 _ rfl; have a1 : wb.cell? ⟨wr.heap.size, 1, none⟩ = some (.bool false) := A2.out.cell 1 _ rfl; have b0 : wb.cell? ⟨wa.heap.size, 0, none⟩ = some (.int .i64 rc) := HB.out.1.cell 0 _ rfl; have b1 : wb.cell? ⟨wa.heap.size, 1, none⟩ = some (.bool true) := HB.out.1.cell 1 _ rfl)
              | (refine wpList_load_mid_o 46 _ rfl wr.heap.size 0 rfl (PageV.row ⟨rc, false, fa⟩) _ A2.out.range Tryd.underlying46 rfl (pageLen ⟨rc, false, fa⟩) rfl ?_)
              | (refine wpList_load_mid_o 46 _ rfl wa.heap.size 0 rfl (PageV.row ⟨rc, true, fb⟩) _ HB.out.1.range Tryd.underlying46 rfl (pageLen ⟨rc, true, fb⟩) rfl ?_)
              | (refine wpList_load_mid_o 44 _ rfl wr.heap.size 2 rfl (dataL (⟨rc, false, fa⟩ : PageV).data) _ (data_in A2.out.range) Tryd.underlying44 rfl (data_len _) rfl ?_)
              | (refine wpList_load_mid_o 44 _ rfl wa.heap.size 2 rfl (dataL (⟨rc, true, fb⟩ : PageV).data) _ (data_in HB.out.1.range) Tryd.underlying44 rfl (data_len _) rfl ?_))
            have HN := Kp.mk (HJ.out.trans ((HA.out.2.trans (HB.out.2.mono HA.out.2.size)).mono HJ.out.size))
            refine ⟨⟨i + 1, by have := HLT3.out; omega, by go_num, HN⟩, ?_⟩
            have := HLT3.out
            simp [intOf]
            omega
        · exact absurd (hgk rfl) (by decide)
        · clear he hgk hgm
          cases e
          · go_wp2_with (first
              | go_skip
              | (refine wpList_load_mid rfl 46 _ rfl g0 (o0 + i * 66) rfl (PageV.row ⟨rc, true, fa⟩) _ HQ0.out Tryd.underlying46 rfl (pageLen ⟨rc, true, fa⟩) ?_)
              | (refine wpList_store_row rfl 46 _ _ rfl wr.heap.size (PageV.row ⟨rc, true, fa⟩).toArray rfl rfl 46 _ (Blk.new wr _ _) (page_facts ⟨rc, true, fa⟩).1 (page_facts ⟨rc, true, fa⟩).2.1 (page_facts ⟨rc, true, fa⟩).2.2 ?_; refine wpList_gen (F := fun W => Kp (Blk W wr.heap.size (PageV.row ⟨rc, true, fa⟩).toArray 46 ∧ Below wr.heap.size wr W)) ⟨setRow_heap _ _ _ _ _ _ (Blk.new wr _ _), below_setRow (below_alloc _ _) (Nat.le_refl _) _⟩ ?_; intro wa HA; have HQ2 := Kp.mk (prange_later HQ1.out HA.out.2))
              | (refine wpList_load_mid rfl 46 _ rfl g1 (o1 + i * 66) rfl (PageV.row ⟨rc, true, fb⟩) _ HQ2.out Tryd.underlying46 rfl (pageLen ⟨rc, true, fb⟩) ?_)
              | (refine wpList_store_row rfl 46 _ _ rfl wa.heap.size (PageV.row ⟨rc, true, fb⟩).toArray rfl rfl 46 _ (Blk.new wa _ _) (page_facts ⟨rc, true, fb⟩).1 (page_facts ⟨rc, true, fb⟩).2.1 (page_facts ⟨rc, true, fb⟩).2.2 ?_; refine wpList_gen (F := fun W => Kp (Blk W wa.heap.size (PageV.row ⟨rc, true, fb⟩).toArray 46 ∧ Below wa.heap.size wa W)) ⟨setRow_heap _ _ _ _ _ _ (Blk.new wa _ _), below_setRow (below_alloc _ _) (Nat.le_refl _) _⟩ ?_; intro wb HB; have A2 := Kp.mk (HA.out.1.later HB.out.2); have a0 : wb.cell? ⟨wr.heap.size, 0, none⟩ = some (.int .i64 rc) := A2.out.cell 0 _ rfl; have a1 : wb.cell? ⟨wr.heap.size, 1, none⟩ = some (.bool true) := A2.out.cell 1 _ rfl; have b0 : wb.cell? ⟨wa.heap.size, 0, none⟩ = some (.int .i64 rc) := HB.out.1.cell 0 _ rfl; have b1 : wb.cell? ⟨wa.heap.size, 1, none⟩ = some (.bool true) := HB.out.1.cell 1 _ rfl)
              | (refine wpList_load_mid_o 46 _ rfl wr.heap.size 0 rfl (PageV.row ⟨rc, true, fa⟩) _ A2.out.range Tryd.underlying46 rfl (pageLen ⟨rc, true, fa⟩) rfl ?_)
              | (refine wpList_load_mid_o 46 _ rfl wa.heap.size 0 rfl (PageV.row ⟨rc, true, fb⟩) _ HB.out.1.range Tryd.underlying46 rfl (pageLen ⟨rc, true, fb⟩) rfl ?_)
              | (refine wpList_load_mid_o 44 _ rfl wr.heap.size 2 rfl (dataL (⟨rc, true, fa⟩ : PageV).data) _ (data_in A2.out.range) Tryd.underlying44 rfl (data_len _) rfl ?_)
              | (refine wpList_load_mid_o 44 _ rfl wa.heap.size 2 rfl (dataL (⟨rc, true, fb⟩ : PageV).data) _ (data_in HB.out.1.range) Tryd.underlying44 rfl (data_len _) rfl ?_))
            have HN := Kp.mk (HJ.out.trans ((HA.out.2.trans (HB.out.2.mono HA.out.2.size)).mono HJ.out.size))
            refine ⟨⟨i + 1, by have := HLT3.out; omega, by go_num, HN⟩, ?_⟩
            have := HLT3.out
            simp [intOf]
            omega
          · go_wp2_with (first
              | go_skip
              | (refine wpList_load_mid rfl 46 _ rfl g0 (o0 + i * 66) rfl (PageV.row ⟨rc, true, fa⟩) _ HQ0.out Tryd.underlying46 rfl (pageLen ⟨rc, true, fa⟩) ?_)
              | (refine wpList_store_row rfl 46 _ _ rfl wr.heap.size (PageV.row ⟨rc, true, fa⟩).toArray rfl rfl 46 _ (Blk.new wr _ _) (page_facts ⟨rc, true, fa⟩).1 (page_facts ⟨rc, true, fa⟩).2.1 (page_facts ⟨rc, true, fa⟩).2.2 ?_; refine wpList_gen (F := fun W => Kp (Blk W wr.heap.size (PageV.row ⟨rc, true, fa⟩).toArray 46 ∧ Below wr.heap.size wr W)) ⟨setRow_heap _ _ _ _ _ _ (Blk.new wr _ _), below_setRow (below_alloc _ _) (Nat.le_refl _) _⟩ ?_; intro wa HA; have HQ2 := Kp.mk (prange_later HQ1.out HA.out.2))
              | (refine wpList_load_mid rfl 46 _ rfl g1 (o1 + i * 66) rfl (PageV.row ⟨rc, true, fb⟩) _ HQ2.out Tryd.underlying46 rfl (pageLen ⟨rc, true, fb⟩) ?_)
              | (refine wpList_store_row rfl 46 _ _ rfl wa.heap.size (PageV.row ⟨rc, true, fb⟩).toArray rfl rfl 46 _ (Blk.new wa _ _) (page_facts ⟨rc, true, fb⟩).1 (page_facts ⟨rc, true, fb⟩).2.1 (page_facts ⟨rc, true, fb⟩).2.2 ?_; refine wpList_gen (F := fun W => Kp (Blk W wa.heap.size (PageV.row ⟨rc, true, fb⟩).toArray 46 ∧ Below wa.heap.size wa W)) ⟨setRow_heap _ _ _ _ _ _ (Blk.new wa _ _), below_setRow (below_alloc _ _) (Nat.le_refl _) _⟩ ?_; intro wb HB; have A2 := Kp.mk (HA.out.1.later HB.out.2); have a0 : wb.cell? ⟨wr.heap.size, 0, none⟩ = some (.int .i64 rc) := A2.out.cell 0 _ rfl; have a1 : wb.cell? ⟨wr.heap.size, 1, none⟩ = some (.bool true) := A2.out.cell 1 _ rfl; have b0 : wb.cell? ⟨wa.heap.size, 0, none⟩ = some (.int .i64 rc) := HB.out.1.cell 0 _ rfl; have b1 : wb.cell? ⟨wa.heap.size, 1, none⟩ = some (.bool true) := HB.out.1.cell 1 _ rfl)
              | (refine wpList_load_mid_o 46 _ rfl wr.heap.size 0 rfl (PageV.row ⟨rc, true, fa⟩) _ A2.out.range Tryd.underlying46 rfl (pageLen ⟨rc, true, fa⟩) rfl ?_)
              | (refine wpList_load_mid_o 46 _ rfl wa.heap.size 0 rfl (PageV.row ⟨rc, true, fb⟩) _ HB.out.1.range Tryd.underlying46 rfl (pageLen ⟨rc, true, fb⟩) rfl ?_)
              | (refine wpList_load_mid_o 44 _ rfl wr.heap.size 2 rfl (dataL (⟨rc, true, fa⟩ : PageV).data) _ (data_in A2.out.range) Tryd.underlying44 rfl (data_len _) rfl ?_)
              | (refine wpList_load_mid_o 44 _ rfl wa.heap.size 2 rfl (dataL (⟨rc, true, fb⟩ : PageV).data) _ (data_in HB.out.1.range) Tryd.underlying44 rfl (data_len _) rfl ?_))
            have HN := Kp.mk (HJ.out.trans ((HA.out.2.trans (HB.out.2.mono HA.out.2.size)).mono HJ.out.size))
            refine ⟨⟨i + 1, by have := HLT3.out; omega, by go_num, HN⟩, ?_⟩
            have := HLT3.out
            simp [intOf]
            omega
      · have hrb2 : rb rc 1 = false := by simpa using hrb
        have pbits : bits .and .i64 rc 2 = 0 := by
          have := bits_pow rc 1 (by decide)
          rw [hrb2] at this
          exact this
        have hpp := hgs hrb2
        simp only [PageV.mk.injEq, true_and] at hpp
        obtain ⟨rfl, rfl⟩ := hpp
        clear hgs hgk hgm hrb hrb2
        have hed : ∀ w, (Op.equalIn 10000 44 (.agg (dataL fb).toArray) (.agg (dataL fb).toArray)).run Tryd.prog w = .ok true w := fun w => by
          have := data_eq 9998 fb fb w
          rw [dataEq_refl] at this
          exact this
        cases db
        · have hep : ∀ w, (Op.equalIn 10000 46 (.agg (PageV.row ⟨rc, false, fb⟩).toArray) (.agg (PageV.row ⟨rc, false, fb⟩).toArray)).run Tryd.prog w = .ok true w := fun w => by
            have := page_eq 9997 ⟨rc, false, fb⟩ ⟨rc, false, fb⟩ w
            rw [PageV.same_of rfl] at this
            exact this
          go_wp2_with (first
            | go_skip
            | (refine wpList_load_mid rfl 46 _ rfl g0 (o0 + i * 66) rfl (PageV.row ⟨rc, false, fb⟩) _ HQ0.out Tryd.underlying46 rfl (pageLen ⟨rc, false, fb⟩) ?_)
            | (refine wpList_store_row rfl 46 _ _ rfl wr.heap.size (PageV.row ⟨rc, false, fb⟩).toArray rfl rfl 46 _ (Blk.new wr _ _) (page_facts ⟨rc, false, fb⟩).1 (page_facts ⟨rc, false, fb⟩).2.1 (page_facts ⟨rc, false, fb⟩).2.2 ?_; refine wpList_gen (F := fun W => Kp (Blk W wr.heap.size (PageV.row ⟨rc, false, fb⟩).toArray 46 ∧ Below wr.heap.size wr W)) ⟨setRow_heap _ _ _ _ _ _ (Blk.new wr _ _), below_setRow (below_alloc _ _) (Nat.le_refl _) _⟩ ?_; intro wa HA; have HQ2 := Kp.mk (prange_later HQ1.out HA.out.2))
            | (refine wpList_load_mid rfl 46 _ rfl g1 (o1 + i * 66) rfl (PageV.row ⟨rc, false, fb⟩) _ HQ2.out Tryd.underlying46 rfl (pageLen ⟨rc, false, fb⟩) ?_)
            | (refine wpList_store_row rfl 46 _ _ rfl wa.heap.size (PageV.row ⟨rc, false, fb⟩).toArray rfl rfl 46 _ (Blk.new wa _ _) (page_facts ⟨rc, false, fb⟩).1 (page_facts ⟨rc, false, fb⟩).2.1 (page_facts ⟨rc, false, fb⟩).2.2 ?_; refine wpList_gen (F := fun W => Kp (Blk W wa.heap.size (PageV.row ⟨rc, false, fb⟩).toArray 46 ∧ Below wa.heap.size wa W)) ⟨setRow_heap _ _ _ _ _ _ (Blk.new wa _ _), below_setRow (below_alloc _ _) (Nat.le_refl _) _⟩ ?_; intro wb HB; have A2 := Kp.mk (HA.out.1.later HB.out.2); have a0 : wb.cell? ⟨wr.heap.size, 0, none⟩ = some (.int .i64 rc) := A2.out.cell 0 _ rfl; have a1 : wb.cell? ⟨wr.heap.size, 1, none⟩ = some (.bool false) := A2.out.cell 1 _ rfl; have b0 : wb.cell? ⟨wa.heap.size, 0, none⟩ = some (.int .i64 rc) := HB.out.1.cell 0 _ rfl; have b1 : wb.cell? ⟨wa.heap.size, 1, none⟩ = some (.bool false) := HB.out.1.cell 1 _ rfl)
            | (refine wpList_load_mid_o 46 _ rfl wr.heap.size 0 rfl (PageV.row ⟨rc, false, fb⟩) _ A2.out.range Tryd.underlying46 rfl (pageLen ⟨rc, false, fb⟩) rfl ?_)
            | (refine wpList_load_mid_o 46 _ rfl wa.heap.size 0 rfl (PageV.row ⟨rc, false, fb⟩) _ HB.out.1.range Tryd.underlying46 rfl (pageLen ⟨rc, false, fb⟩) rfl ?_)
            | (refine wpList_load_mid_o 44 _ rfl wr.heap.size 2 rfl (dataL (⟨rc, false, fb⟩ : PageV).data) _ (data_in A2.out.range) Tryd.underlying44 rfl (data_len _) rfl ?_)
            | (refine wpList_load_mid_o 44 _ rfl wa.heap.size 2 rfl (dataL (⟨rc, false, fb⟩ : PageV).data) _ (data_in HB.out.1.range) Tryd.underlying44 rfl (data_len _) rfl ?_))
          have HN := Kp.mk (HJ.out.trans ((HA.out.2.trans (HB.out.2.mono HA.out.2.size)).mono HJ.out.size))
          refine ⟨⟨i + 1, by have := HLT3.out; omega, by go_num, HN⟩, ?_⟩
          have := HLT3.out
          simp [intOf]
          omega
        · have hep : ∀ w, (Op.equalIn 10000 46 (.agg (PageV.row ⟨rc, true, fb⟩).toArray) (.agg (PageV.row ⟨rc, true, fb⟩).toArray)).run Tryd.prog w = .ok true w := fun w => by
            have := page_eq 9997 ⟨rc, true, fb⟩ ⟨rc, true, fb⟩ w
            rw [PageV.same_of rfl] at this
            exact this
          go_wp2_with (first
            | go_skip
            | (refine wpList_load_mid rfl 46 _ rfl g0 (o0 + i * 66) rfl (PageV.row ⟨rc, true, fb⟩) _ HQ0.out Tryd.underlying46 rfl (pageLen ⟨rc, true, fb⟩) ?_)
            | (refine wpList_store_row rfl 46 _ _ rfl wr.heap.size (PageV.row ⟨rc, true, fb⟩).toArray rfl rfl 46 _ (Blk.new wr _ _) (page_facts ⟨rc, true, fb⟩).1 (page_facts ⟨rc, true, fb⟩).2.1 (page_facts ⟨rc, true, fb⟩).2.2 ?_; refine wpList_gen (F := fun W => Kp (Blk W wr.heap.size (PageV.row ⟨rc, true, fb⟩).toArray 46 ∧ Below wr.heap.size wr W)) ⟨setRow_heap _ _ _ _ _ _ (Blk.new wr _ _), below_setRow (below_alloc _ _) (Nat.le_refl _) _⟩ ?_; intro wa HA; have HQ2 := Kp.mk (prange_later HQ1.out HA.out.2))
            | (refine wpList_load_mid rfl 46 _ rfl g1 (o1 + i * 66) rfl (PageV.row ⟨rc, true, fb⟩) _ HQ2.out Tryd.underlying46 rfl (pageLen ⟨rc, true, fb⟩) ?_)
            | (refine wpList_store_row rfl 46 _ _ rfl wa.heap.size (PageV.row ⟨rc, true, fb⟩).toArray rfl rfl 46 _ (Blk.new wa _ _) (page_facts ⟨rc, true, fb⟩).1 (page_facts ⟨rc, true, fb⟩).2.1 (page_facts ⟨rc, true, fb⟩).2.2 ?_; refine wpList_gen (F := fun W => Kp (Blk W wa.heap.size (PageV.row ⟨rc, true, fb⟩).toArray 46 ∧ Below wa.heap.size wa W)) ⟨setRow_heap _ _ _ _ _ _ (Blk.new wa _ _), below_setRow (below_alloc _ _) (Nat.le_refl _) _⟩ ?_; intro wb HB; have A2 := Kp.mk (HA.out.1.later HB.out.2); have a0 : wb.cell? ⟨wr.heap.size, 0, none⟩ = some (.int .i64 rc) := A2.out.cell 0 _ rfl; have a1 : wb.cell? ⟨wr.heap.size, 1, none⟩ = some (.bool true) := A2.out.cell 1 _ rfl; have b0 : wb.cell? ⟨wa.heap.size, 0, none⟩ = some (.int .i64 rc) := HB.out.1.cell 0 _ rfl; have b1 : wb.cell? ⟨wa.heap.size, 1, none⟩ = some (.bool true) := HB.out.1.cell 1 _ rfl)
            | (refine wpList_load_mid_o 46 _ rfl wr.heap.size 0 rfl (PageV.row ⟨rc, true, fb⟩) _ A2.out.range Tryd.underlying46 rfl (pageLen ⟨rc, true, fb⟩) rfl ?_)
            | (refine wpList_load_mid_o 46 _ rfl wa.heap.size 0 rfl (PageV.row ⟨rc, true, fb⟩) _ HB.out.1.range Tryd.underlying46 rfl (pageLen ⟨rc, true, fb⟩) rfl ?_)
            | (refine wpList_load_mid_o 44 _ rfl wr.heap.size 2 rfl (dataL (⟨rc, true, fb⟩ : PageV).data) _ (data_in A2.out.range) Tryd.underlying44 rfl (data_len _) rfl ?_)
            | (refine wpList_load_mid_o 44 _ rfl wa.heap.size 2 rfl (dataL (⟨rc, true, fb⟩ : PageV).data) _ (data_in HB.out.1.range) Tryd.underlying44 rfl (data_len _) rfl ?_))
          have HN := Kp.mk (HJ.out.trans ((HA.out.2.trans (HB.out.2.mono HA.out.2.size)).mono HJ.out.size))
          refine ⟨⟨i + 1, by have := HLT3.out; omega, by go_num, HN⟩, ?_⟩
          have := HLT3.out
          simp [intOf]
          omega
    · have t1 : decide ((i : Int) < (n : Int)) = false := decide_eq_false (by omega)
      have t1n : decide (i < n) = false := decide_eq_false hlt
      have BWr := Kp.mk (BW4.out.trans (HJ.out.mono BW4.out.size))
      have VA4 := Kp.mk (HTw4.out.a.later HJ.out)
      have VB4 := Kp.mk (HTw4.out.b.later HJ.out)
      have HOr := Kp.mk (HO14.out.later HJ.out)
      obtain ⟨_, _, e1, r1⟩ := HOr.out.rd hn
      simp only [Value.slice.injEq, true_and] at e1
      obtain ⟨rfl, rfl⟩ := e1
      have y0 := VB4.out.cell 0 _ rfl
      have y1 := VB4.out.cell 1 _ rfl
      have y2 := VB4.out.cell 2 _ rfl
      have HR1 := Kp.mk r1
      clear r1 HG H0 hgd hgp HJ HTw4 HO14 hi hlt
      by_cases hk : k1 = 2
      · subst hk
        have KS2 := Kp.mk (KST.out rfl)
        clear KST
        go_wp2_with (first
          | (refine wpList_load_mid_g rfl 32 _ rfl w3.heap.size 0 rfl R1.toList _ (row_range VA4.out) Tryd.underlying32 rfl (by simpa using HIR1.out.2.1) ?_))
        refine (KS2.out _ _ wr HR1.out BWr.out).mono ?_
        rintro e w5 ⟨v2, rfl, ho, hb⟩
        have HO2 := Kp.mk ho
        have BW5 := Kp.mk (BWr.out.trans (hb.mono BWr.out.size))
        have VA5 := Kp.mk (VA4.out.later hb)
        have VB5 := Kp.mk (VB4.out.later hb)
        have HO15 := Kp.mk (HOr.out.later hb)
        clear ho hb KS2 HR1 y0 y1 y2
        go_wp2_with (first
          | (refine wpList_store_row rfl 32 _ _ rfl w5.heap.size R1 rfl rfl 32 _ (two_a w5) HIR1.out.2.1 HIR1.out.1 HIR1.out.2.2 ?_)
          | (refine wpList_store_row rfl 38 _ _ rfl (w5.heap.size + 1) (stopA 2 1 c1) rfl rfl 38 _ (two_b w5 R1) (stopSize _ _ _) rfl (stop_one _ _ _) ?_; refine wpList_gen (F := fun W => Kp (TwoV w5 W R1 (stopA 2 1 c1))) ⟨two_v w5 R1 _⟩ ?_; intro w6 HTw6; have BW6 := Kp.mk (BW5.out.trans (HTw6.out.below.mono BW5.out.size)); have VA6 := Kp.mk (VA5.out.later HTw6.out.below); have VB6 := Kp.mk (VB5.out.later HTw6.out.below); have HO16 := Kp.mk (HO15.out.later HTw6.out.below); have HO26 := Kp.mk (HO2.out.later HTw6.out.below); have y0 := VB6.out.cell 0 _ rfl; have y1 := VB6.out.cell 1 _ rfl; have y2 := VB6.out.cell 2 _ rfl; have z0 := HTw6.out.b.cell 0 _ rfl; have z1 := HTw6.out.b.cell 1 _ rfl; have z2 := HTw6.out.b.cell 2 _ rfl)
          | (refine wpList_load_mid_g rfl 32 _ rfl w5.heap.size 0 rfl R1.toList _ (row_range HTw6.out.a) Tryd.underlying32 rfl (by simpa using HIR1.out.2.1) ?_)
          | (refine wpList_load_mid_g rfl 32 _ rfl w3.heap.size 0 rfl R1.toList _ (row_range VA6.out) Tryd.underlying32 rfl (by simpa using HIR1.out.2.1) ?_)
          | fail)
        obtain ⟨a2, cap2, rfl, r2⟩ := HO26.out.rd hn
        obtain ⟨_, _, e1, r1⟩ := HO16.out.rd hn
        simp only [Value.slice.injEq, true_and] at e1
        obtain ⟨rfl, rfl⟩ := e1
        refine (ref_same a2 _ n cap2 _ P1 P1 w6 r2 r1 (fun _ _ => rfl)).mono ?_
        rintro e w9 ⟨rfl, hd⟩
        have HD9 := Kp.mk hd.below
        clear hd
        go_wp2_with fail
        go_ret
        exact ⟨rfl, BW6.out.trans (HD9.out.mono BW6.out.size)⟩
      · have pk : ((k1 : Int) == 2) = false := by simp; omega
        clear KST
        go_wp2_with fail
        go_ret
        exact ⟨rfl, BWr.out⟩
end Go.Proofs.YtadikbmbadldpaaDoor
