
/- CoreSplits, walked (printed by gen_coresplits.py). -/
import Derived.Test.YtadikbmbadldpaaDoorProcEq
namespace Go.Proofs.YtadikbmbadldpaaDoor
open Go Go.RowKit
set_option linter.unusedVariables false
set_option linter.unusedSimpArgs false

/-- Same, of own pages. -/
theorem uni_same (n : Nat) (P : Nat → PageV) (w : World) {B1 B2 : Nat} {v1 v2 : Value} {Q : Nat → PageV} (h1 : OwnP w B1 v1 n P) (h2 : OwnP w B2 v2 n Q) (hn : n ≤ 1759218604441) (h : ∀ i, i < n → (P i).row = (Q i).row) :
    Calls Tryd.prog 16 #[v1, v2] w fun e w' => e = .returned (.bool true) ∧ Drew w w' := by
  obtain ⟨a1, c1, rfl, r1⟩ := h1.rd hn
  obtain ⟨a2, c2, rfl, r2⟩ := h2.rd hn
  exact ref_same a1 a2 n c1 c2 P Q w r1 r2 h
/-- A process's row, hidden. -/
theorem row_is (q : ProcV) : zRow.size = q.row.toArray.size ∧ (Tryd.prog.info? 32).map (·.size) = some q.row.toArray.size ∧ q.row.toArray.all (·.oneCell') = true := ⟨row_size21 q, prSizeA q, row_all_one q⟩
theorem row_range {w : World} {g : Nat} {R : Array Value} {T : TypeId} (h : Blk w g R T) : w.rangeAt g 0 R.toList := fun j u hu => by
  rw [Nat.zero_add]
  exact h.cell j u (by simpa using hu)
theorem it_le {n : Nat} {P : Nat → PageV} {q : ProcV} {i : Nat} {z : RunV} (h : z = itV n P q i) : z.s ≤ i := by
  subst h
  induction i with
  | zero => exact Nat.le_refl _
  | succ i ih =>
    rw [itV]
    split
    · exact Nat.succ_le_succ ih
    · exact Nat.le_succ_of_le ih
theorem bnd_le (n : Int) : bndV n ≤ 3000 := by unfold bndV; split <;> omega
theorem run_nat (A : Nat → Addr) (v : Value) {B : Nat} (n : Nat) (P : Nat → PageV) (q : ProcV) (k : Nat) (hk : k ≤ 6000) (w : World) (h : OwnP w B v n P) (hn : n ≤ 1759218604441) (hE : Errs w [4, 7, 20] A) (ht : BlankT w) (z : RunV) (hz : z = itV n P (q.put 0 0#32) k) :
    Calls Tryd.prog 15 #[v, .agg q.row.toArray, .int .i64 (k : Int)] w fun e w' => ∃ v2, e = .returned (.tuple #[v2, .agg z.q.row.toArray, .agg (stopA z.k z.s z.c)]) ∧ OwnP w' w.heap.size v2 n z.P ∧ Below w.heap.size w w' := by
  obtain ⟨a, cap, rfl, hrd⟩ := h.rd hn
  have := core_run A a n cap P q (k : Int) (by omega) w hrd hE ht
  rw [show (k : Int).toNat = k from rfl, ← hz] at this
  exact this
theorem run_rd (A : Nat → Addr) (a : Option Addr) (cap n : Nat) (P : Nat → PageV) (q : ProcV) (k : Nat) (hk : k ≤ 6000) (w : World) (h : RdP w a n cap P) (hE : Errs w [4, 7, 20] A) (ht : BlankT w) (z : RunV) (hz : z = itV n P (q.put 0 0#32) k) :
    Calls Tryd.prog 15 #[.slice a n cap, .agg q.row.toArray, .int .i64 (k : Int)] w fun e w' => ∃ v2, e = .returned (.tuple #[v2, .agg z.q.row.toArray, .agg (stopA z.k z.s z.c)]) ∧ OwnP w' w.heap.size v2 n z.P ∧ Below w.heap.size w w' := by
  have := core_run A a n cap P q (k : Int) (by omega) w h hE ht
  rw [show (k : Int).toNat = k from rfl, ← hz] at this
  exact this
set_option maxRecDepth 100000 in
set_option maxHeartbeats 8000000 in
theorem law_CoreSplits (A : Nat → Addr) (a : Option Addr) (n cap : Nat) (P : Nat → PageV) (q : ProcV) (cf cs : Int) (w : World) (h : RdP w a n cap P) (hE : Errs w [4, 7, 12, 20] A) (ht : BlankT w) :
    Calls Tryd.prog 4 #[.slice a n cap, .agg q.row.toArray, .agg #[.int .i64 cf, .int .i64 cs]] w fun e w' => e = .returned (.bool true) ∧ Below w.heap.size w w' := by
  have hn := h.bound
  have hE2 : Errs w [4, 7, 20] A := hE.sub (by intro c hc; simp at hc ⊢; omega)
  have KAW := Kp.mk (fun w' (hw : Below w.heap.size w w') => law_awake A w' (hE2.later hw) (ht.later hw))
  have KB1 := Kp.mk (fun v => law_bounded cf v)
  have KB2 := Kp.mk (fun v => law_bounded cs v)
  have b1 := bnd_le cf
  have b2 := bnd_le cs
  obtain ⟨na, hna⟩ : ∃ x, x = bndV cf := ⟨_, rfl⟩
  obtain ⟨nb, hnb⟩ : ∃ x, x = bndV cs := ⟨_, rfl⟩
  rw [← hna] at KB1 b1
  rw [← hnb] at KB2 b2
  obtain ⟨B, hB⟩ : ∃ B, B = w.heap.size := ⟨_, rfl⟩
  obtain ⟨w0, e0⟩ : ∃ w0, w0 = w.alloc (.cells q.row.toArray 32) := ⟨_, rfl⟩
  obtain ⟨w1, e1⟩ : ∃ w1, w1 = w0.alloc (.cells #[.int .i64 cf, .int .i64 cs] 34) := ⟨_, rfl⟩
  have s0 : w0.heap.size = B + 1 := by rw [e0, hB]; simp
  have b01 : Below w0.heap.size w0 w1 := by rw [e1]; exact below_alloc _ _
  have bw0 : Below B w w0 := by rw [e0, hB]; exact below_alloc _ _
  have BW1 : Kp (Below w.heap.size w w1) := ⟨by rw [← hB]; exact bw0.trans (b01.mono (by omega))⟩
  have PB1 : Kp (PrAt w1 B q) := ⟨Blk.later (by rw [e0, hB]; exact Blk.new _ _ _) b01⟩
  have PC1 : Kp (Blk w1 (B + 1) #[.int .i64 cf, .int .i64 cs] 34) := ⟨by rw [e1, ← s0]; exact Blk.new _ _ _⟩
  have EW : Kp ((w.alloc (.cells q.row.toArray 32)).alloc (.cells #[.int .i64 cf, .int .i64 cs] 34) = w1) := ⟨by rw [e1, e0]⟩
  have HBq := Kp.mk hB
  clear e0 e1 s0 b01 bw0 hB hna hnb
  have KR : Kp (∀ k : Nat, k ≤ 6000 → ∀ z, z = itV n P (q.put 0 0#32) k → ∀ w', Below w.heap.size w w' → Calls Tryd.prog 15 #[.slice a n cap, .agg q.row.toArray, .int .i64 (k : Int)] w' fun e w'' => ∃ v2, e = .returned (.tuple #[v2, .agg z.q.row.toArray, .agg (stopA z.k z.s z.c)]) ∧ OwnP w'' w'.heap.size v2 n z.P ∧ Below w'.heap.size w' w'') :=
    ⟨fun k hk z hz w' hw => run_rd A a cap n P q k hk w' (h.later hw) (hE2.later hw) (ht.later hw) z hz⟩
  have KS : Kp (∀ k : Nat, k ≤ 6000 → ∀ (P1 : Nat → PageV) (q1 : ProcV) z, z = itV n P1 (q1.put 0 0#32) k → ∀ v B' w', OwnP w' B' v n P1 → Below w.heap.size w w' → Calls Tryd.prog 15 #[v, .agg q1.row.toArray, .int .i64 (k : Int)] w' fun e w'' => ∃ v2, e = .returned (.tuple #[v2, .agg z.q.row.toArray, .agg (stopA z.k z.s z.c)]) ∧ OwnP w'' w'.heap.size v2 n z.P ∧ Below w'.heap.size w' w'') :=
    ⟨fun k hk P1 q1 z hz v B' w' ho hw => run_nat A v n P1 q1 k hk w' ho hn (hE2.later hw) (ht.later hw) z hz⟩
  have hg := guardProc
  obtain ⟨R, hR⟩ : ∃ R, R = q.row.toArray := ⟨_, rfl⟩
  have HIR : Kp (zRow.size = R.size ∧ (Tryd.prog.info? 32).map (·.size) = some R.size ∧ R.all (·.oneCell') = true) := ⟨by rw [hR]; exact row_is q⟩
  rw [← hR] at KR EW ⊢
  have PB : Kp (Blk w1 B R 32) := ⟨by rw [hR]; exact PB1.out⟩
  clear PB1 hR h hE hE2 ht
  by_cases hneg : na < 0
  · have t1 : decide (na < 0) = true := decide_eq_true hneg
    clear hneg KR KS
    go_enter Tryd.func4, Tryd.ntmps4
    go_wp2_with fail
    rw [← HBq.out, EW.out]
    refine (KAW.out w1 BW1.out).mono ?_
    rintro e w2 ⟨rfl, hb⟩
    have BW2 := Kp.mk (BW1.out.trans (hb.mono BW1.out.size))
    have PB2 := Kp.mk (PB.out.later hb)
    have PC2 := Kp.mk (PC1.out.later hb)
    have c0 := PC2.out.cell 0 _ rfl
    have c1 := PC2.out.cell 1 _ rfl
    clear hb KAW EW
    go_wp2_with (first
      | (with_reducible refine (KB1.out _).mono ?_; rintro e w6 ⟨rfl, hw6⟩; obtain rfl := hw6.symm; clear hw6)
      | (with_reducible refine (KB2.out _).mono ?_; rintro e w6 ⟨rfl, hw6⟩; obtain rfl := hw6.symm; clear hw6))
    go_ret
    exact ⟨rfl, BW2.out⟩
  have t1 : decide (na < 0) = false := decide_eq_false hneg
  by_cases hneg2 : nb < 0
  · have t2 : decide (nb < 0) = true := decide_eq_true hneg2
    clear hneg hneg2 KR KS
    go_enter Tryd.func4, Tryd.ntmps4
    go_wp2_with fail
    rw [← HBq.out, EW.out]
    refine (KAW.out w1 BW1.out).mono ?_
    rintro e w2 ⟨rfl, hb⟩
    have BW2 := Kp.mk (BW1.out.trans (hb.mono BW1.out.size))
    have PB2 := Kp.mk (PB.out.later hb)
    have PC2 := Kp.mk (PC1.out.later hb)
    have c0 := PC2.out.cell 0 _ rfl
    have c1 := PC2.out.cell 1 _ rfl
    clear hb KAW EW
    go_wp2_with (first
      | (with_reducible refine (KB1.out _).mono ?_; rintro e w6 ⟨rfl, hw6⟩; obtain rfl := hw6.symm; clear hw6)
      | (with_reducible refine (KB2.out _).mono ?_; rintro e w6 ⟨rfl, hw6⟩; obtain rfl := hw6.symm; clear hw6))
    go_ret
    exact ⟨rfl, BW2.out⟩
  have t2 : decide (nb < 0) = false := decide_eq_false hneg2
  obtain ⟨x, hx⟩ : ∃ x : Nat, na = (x : Int) := ⟨na.toNat, by omega⟩
  obtain ⟨y, hy⟩ : ∃ y : Nat, nb = (y : Int) := ⟨nb.toNat, by omega⟩
  have hxy : na + nb = ((x + y : Nat) : Int) := by omega
  have hx3 : x ≤ 3000 := by omega
  have hy3 : y ≤ 3000 := by omega
  obtain ⟨z1, hz1⟩ : ∃ z, z = itV n P (q.put 0 0#32) x := ⟨_, rfl⟩
  obtain ⟨z2, hz2⟩ : ∃ z, z = itV n P (q.put 0 0#32) (x + y) := ⟨_, rfl⟩
  have K1 := Kp.mk (KR.out x (by omega) z1 hz1)
  have K2 := Kp.mk (KR.out (x + y) (by omega) z2 hz2)
  rw [← hx] at K1
  rw [← hxy] at K2
  obtain ⟨ab, hab⟩ : ∃ ab, ab = na + nb := ⟨_, rfl⟩
  rw [← hab] at K2
  have pab : na + nb = ab := hab.symm
  have hab0 : 0 ≤ ab := by omega
  have hab1 : ab ≤ 6000 := by omega
  have hna0 : 0 ≤ na := by omega
  have hnb0 : 0 ≤ nb := by omega
  clear hneg hneg2
  by_cases hk : z1.k = 0
  · obtain ⟨z3, hz3⟩ : ∃ z, z = itV n z1.P (z1.q.put 0 0#32) y := ⟨_, rfl⟩
    have K3 := Kp.mk (KS.out y (by omega) z1.P z1.q z3 hz3)
    rw [← hy] at K3
    obtain ⟨h1, h2, h3, h4, h5⟩ := it_split (put_r0 q) (by rw [← hz1]; exact hk) y z3 (by rw [← hz1]; exact hz3)
    rw [← hz2] at h1 h2 h3 h4 h5
    have hs1 : z1.s = x := by rw [hz1]; exact itV_steps (by rw [← hz1]; exact hk)
    have hc1 : z1.c = 0 := by rw [hz1]; exact it_c0 (by rw [← hz1]; exact hk)
    rw [h1, h2, h3, h4, h5] at K2
    rw [hk, hs1, hc1] at K1
    have he1 : ∀ w, (Op.equalIn 10000 32 (.agg z3.q.row.toArray) (.agg z3.q.row.toArray)).run Tryd.prog w = .ok true w := fun w => proc_eq 9997 z3.q w
    obtain ⟨R1, hR1⟩ : ∃ R, R = z1.q.row.toArray := ⟨_, rfl⟩
    obtain ⟨R3, hR3⟩ : ∃ R, R = z3.q.row.toArray := ⟨_, rfl⟩
    have HIR1 : Kp (zRow.size = R1.size ∧ (Tryd.prog.info? 32).map (·.size) = some R1.size ∧ R1.all (·.oneCell') = true) := ⟨by rw [hR1]; exact row_is z1.q⟩
    have HIR3 : Kp (zRow.size = R3.size ∧ (Tryd.prog.info? 32).map (·.size) = some R3.size ∧ R3.all (·.oneCell') = true) := ⟨by rw [hR3]; exact row_is z3.q⟩
    rw [← hR1] at K1 K3
    rw [← hR3] at K2 K3 he1
    obtain ⟨P1, hP1⟩ : ∃ P1, P1 = z1.P := ⟨_, rfl⟩
    obtain ⟨P3, hP3⟩ : ∃ P3, P3 = z3.P := ⟨_, rfl⟩
    rw [← hP1] at K1 K3
    rw [← hP3] at K2 K3
    obtain ⟨k3, hk3⟩ : ∃ k, k = z3.k := ⟨_, rfl⟩
    obtain ⟨s3, hs3⟩ : ∃ s, s = z3.s := ⟨_, rfl⟩
    obtain ⟨c3, hc3⟩ : ∃ c, c = z3.c := ⟨_, rfl⟩
    rw [← hk3, ← hs3, ← hc3] at K2 K3
    have psum : na + (s3 : Int) = ((x + s3 : Nat) : Int) := by omega
    have hss : ((x + s3 : Nat) : Int) ≤ 100000000 := by
      have : z2.s ≤ x + y := it_le hz2
      omega
    have pneq : ((x : Int) != na) = false := by rw [hx]; simp
    obtain ⟨sm, hsm⟩ : ∃ sm, sm = x + s3 := ⟨_, rfl⟩
    rw [← hsm] at K2 psum hss
    clear hz1 hz2 hz3 KR KS hk h1 h2 h3 h4 h5 hs1 hc1 hR1 hR3 hP1 hP3 hk3 hs3 hc3 hx hy hxy hsm hx3 hy3 b1 b2 hab
    go_enter Tryd.func4, Tryd.ntmps4
    go_wp2_with fail
    rw [← HBq.out, EW.out]
    refine (KAW.out w1 BW1.out).mono ?_
    rintro e w2 ⟨rfl, hb⟩
    have BW2 := Kp.mk (BW1.out.trans (hb.mono BW1.out.size))
    have PB2 := Kp.mk (PB.out.later hb)
    have PC2 := Kp.mk (PC1.out.later hb)
    have c0 := PC2.out.cell 0 _ rfl
    have c1 := PC2.out.cell 1 _ rfl
    clear hb KAW EW
    go_wp2_with (first
      | (with_reducible refine (KB1.out _).mono ?_; rintro e w6 ⟨rfl, hw6⟩; obtain rfl := hw6.symm; clear hw6)
      | (with_reducible refine (KB2.out _).mono ?_; rintro e w6 ⟨rfl, hw6⟩; obtain rfl := hw6.symm; clear hw6)
      | (refine wpList_load_row rfl 32 _ rfl B rfl 32 R (0, 0) _ PB2.out Tryd.underlying32 rfl HIR.out.2.1 ?_))
    refine (K1.out _ BW2.out).mono ?_
    rintro e w3 ⟨v1, rfl, ho, hb⟩
    have HO1 := Kp.mk ho
    have BW3 := Kp.mk (BW2.out.trans (hb.mono BW2.out.size))
    have PB3 := Kp.mk (PB2.out.later hb)
    clear ho hb K1
    go_wp2_with (first
      | (refine wpList_store_row rfl 32 _ _ rfl w3.heap.size R1 rfl rfl 32 _ (two_a w3) HIR1.out.2.1 HIR1.out.1 HIR1.out.2.2 ?_)
      | (refine wpList_store_row rfl 38 _ _ rfl (w3.heap.size + 1) (stopA 0 x 0) rfl rfl 38 _ (two_b w3 R1) (stopSize _ _ _) rfl (stop_one _ _ _) ?_; refine wpList_gen (F := fun W => Kp (TwoV w3 W R1 (stopA 0 x 0))) ⟨two_v w3 R1 _⟩ ?_; intro w4 HTw4; have BW4 := Kp.mk (BW3.out.trans (HTw4.out.below.mono BW3.out.size)); have PB4 := Kp.mk (PB3.out.later HTw4.out.below); have HO14 := Kp.mk (HO1.out.later HTw4.out.below))
      | (refine wpList_load_row rfl 32 _ rfl B rfl 32 R (0, 0) _ PB4.out Tryd.underlying32 rfl HIR.out.2.1 ?_))
    refine (K2.out _ BW4.out).mono ?_
    rintro e w5 ⟨v2, rfl, ho, hb⟩
    have HO2 := Kp.mk ho
    have BW5 := Kp.mk (BW4.out.trans (hb.mono BW4.out.size))
    have VA5 := Kp.mk (HTw4.out.a.later hb)
    have VB5 := Kp.mk (HTw4.out.b.later hb)
    have HO15 := Kp.mk (HO14.out.later hb)
    clear ho hb K2 HTw4 HO14 HO1
    go_wp2_with (first
      | (refine wpList_store_row rfl 32 _ _ rfl w5.heap.size R3 rfl rfl 32 _ (two_a w5) HIR3.out.2.1 HIR3.out.1 HIR3.out.2.2 ?_)
      | (refine wpList_store_row rfl 38 _ _ rfl (w5.heap.size + 1) (stopA k3 sm c3) rfl rfl 38 _ (two_b w5 R3) (stopSize _ _ _) rfl (stop_one _ _ _) ?_; refine wpList_gen (F := fun W => Kp (TwoV w5 W R3 (stopA k3 sm c3))) ⟨two_v w5 R3 _⟩ ?_; intro w6 HTw6; have BW6 := Kp.mk (BW5.out.trans (HTw6.out.below.mono BW5.out.size)); have VA6 := Kp.mk (VA5.out.later HTw6.out.below); have VB6 := Kp.mk (VB5.out.later HTw6.out.below); have HO16 := Kp.mk (HO15.out.later HTw6.out.below); have HO26 := Kp.mk (HO2.out.later HTw6.out.below); have x0 := VB6.out.cell 0 _ rfl; have x1 := VB6.out.cell 1 _ rfl)
      | (refine wpList_load_row rfl 32 _ rfl w3.heap.size rfl 32 R1 (0, 0) _ VA6.out Tryd.underlying32 rfl HIR1.out.2.1 ?_))
    refine (K3.out v1 _ _ HO16.out BW6.out).mono ?_
    rintro e w7 ⟨v3, rfl, ho, hb⟩
    have HO3 := Kp.mk ho
    have BW7 := Kp.mk (BW6.out.trans (hb.mono BW6.out.size))
    have VA7 := Kp.mk (HTw6.out.a.later hb)
    have VB7 := Kp.mk (HTw6.out.b.later hb)
    have HO27 := Kp.mk (HO26.out.later hb)
    clear ho hb K3 HTw6 HO26 HO16 HO15
    go_wp2_with (first
      | (refine wpList_store_row rfl 32 _ _ rfl w7.heap.size R3 rfl rfl 32 _ (two_a w7) HIR3.out.2.1 HIR3.out.1 HIR3.out.2.2 ?_)
      | (refine wpList_store_row rfl 38 _ _ rfl (w7.heap.size + 1) (stopA k3 s3 c3) rfl rfl 38 _ (two_b w7 R3) (stopSize _ _ _) rfl (stop_one _ _ _) ?_; refine wpList_gen (F := fun W => Kp (TwoV w7 W R3 (stopA k3 s3 c3))) ⟨two_v w7 R3 _⟩ ?_; intro w8 HTw8; have BW8 := Kp.mk (BW7.out.trans (HTw8.out.below.mono BW7.out.size)); have VA8 := Kp.mk (VA7.out.later HTw8.out.below); have VB8 := Kp.mk (VB7.out.later HTw8.out.below); have HO38 := Kp.mk (HO3.out.later HTw8.out.below); have HO28 := Kp.mk (HO27.out.later HTw8.out.below); have x0 := VB8.out.cell 0 _ rfl; have x1 := VB8.out.cell 1 _ rfl; have x2 := VB8.out.cell 2 _ rfl; have y0 := HTw8.out.b.cell 0 _ rfl; have y1 := HTw8.out.b.cell 1 _ rfl; have y2 := HTw8.out.b.cell 2 _ rfl)
      | (refine wpList_load_mid_g rfl 32 _ rfl w7.heap.size 0 rfl R3.toList _ (row_range HTw8.out.a) Tryd.underlying32 rfl (by simpa using HIR3.out.2.1) ?_)
      | (refine wpList_load_mid_g rfl 32 _ rfl w5.heap.size 0 rfl R3.toList _ (row_range VA8.out) Tryd.underlying32 rfl (by simpa using HIR3.out.2.1) ?_)
      | (go_at_call 16; (with_reducible refine (uni_same n P3 w8 HO38.out HO28.out hn (fun _ _ => rfl)).mono ?_); rintro e w9 ⟨rfl, hd⟩; have HD9 := Kp.mk hd.below; clear hd))
    go_ret
    exact ⟨rfl, BW8.out.trans (HD9.out.mono BW8.out.size)⟩
  · have hzz : z2 = z1 := by rw [hz2, hz1]; exact itV_stop (by rw [← hz1]; exact hk) (x + y) (by omega)
    rw [hzz] at K2
    have he1 : ∀ w, (Op.equalIn 10000 32 (.agg z1.q.row.toArray) (.agg z1.q.row.toArray)).run Tryd.prog w = .ok true w := fun w => proc_eq 9997 z1.q w
    obtain ⟨R1, hR1⟩ : ∃ R, R = z1.q.row.toArray := ⟨_, rfl⟩
    have HIR1 : Kp (zRow.size = R1.size ∧ (Tryd.prog.info? 32).map (·.size) = some R1.size ∧ R1.all (·.oneCell') = true) := ⟨by rw [hR1]; exact row_is z1.q⟩
    rw [← hR1] at K1 K2 he1
    obtain ⟨P1, hP1⟩ : ∃ P1, P1 = z1.P := ⟨_, rfl⟩
    rw [← hP1] at K1 K2
    obtain ⟨k1, hk1⟩ : ∃ k, k = z1.k := ⟨_, rfl⟩
    obtain ⟨s1, hs1⟩ : ∃ s, s = z1.s := ⟨_, rfl⟩
    obtain ⟨c1', hc1⟩ : ∃ c, c = z1.c := ⟨_, rfl⟩
    rw [← hk1, ← hs1, ← hc1] at K1 K2
    have pk : ((k1 : Int) != 0) = true := by rw [hk1]; simp; omega
    clear hz1 hz2 KR KS hk hzz hR1 hP1 hk1 hs1 hc1 hx hy hxy hx3 hy3 b1 b2 hab
    go_enter Tryd.func4, Tryd.ntmps4
    go_wp2_with fail
    rw [← HBq.out, EW.out]
    refine (KAW.out w1 BW1.out).mono ?_
    rintro e w2 ⟨rfl, hb⟩
    have BW2 := Kp.mk (BW1.out.trans (hb.mono BW1.out.size))
    have PB2 := Kp.mk (PB.out.later hb)
    have PC2 := Kp.mk (PC1.out.later hb)
    have c0 := PC2.out.cell 0 _ rfl
    have c1 := PC2.out.cell 1 _ rfl
    clear hb KAW EW
    go_wp2_with (first
      | (with_reducible refine (KB1.out _).mono ?_; rintro e w6 ⟨rfl, hw6⟩; obtain rfl := hw6.symm; clear hw6)
      | (with_reducible refine (KB2.out _).mono ?_; rintro e w6 ⟨rfl, hw6⟩; obtain rfl := hw6.symm; clear hw6)
      | (refine wpList_load_row rfl 32 _ rfl B rfl 32 R (0, 0) _ PB2.out Tryd.underlying32 rfl HIR.out.2.1 ?_))
    refine (K1.out _ BW2.out).mono ?_
    rintro e w3 ⟨v1, rfl, ho, hb⟩
    have HO1 := Kp.mk ho
    have BW3 := Kp.mk (BW2.out.trans (hb.mono BW2.out.size))
    have PB3 := Kp.mk (PB2.out.later hb)
    clear ho hb K1
    go_wp2_with (first
      | (refine wpList_store_row rfl 32 _ _ rfl w3.heap.size R1 rfl rfl 32 _ (two_a w3) HIR1.out.2.1 HIR1.out.1 HIR1.out.2.2 ?_)
      | (refine wpList_store_row rfl 38 _ _ rfl (w3.heap.size + 1) (stopA k1 s1 c1') rfl rfl 38 _ (two_b w3 R1) (stopSize _ _ _) rfl (stop_one _ _ _) ?_; refine wpList_gen (F := fun W => Kp (TwoV w3 W R1 (stopA k1 s1 c1'))) ⟨two_v w3 R1 _⟩ ?_; intro w4 HTw4; have BW4 := Kp.mk (BW3.out.trans (HTw4.out.below.mono BW3.out.size)); have PB4 := Kp.mk (PB3.out.later HTw4.out.below); have HO14 := Kp.mk (HO1.out.later HTw4.out.below))
      | (refine wpList_load_row rfl 32 _ rfl B rfl 32 R (0, 0) _ PB4.out Tryd.underlying32 rfl HIR.out.2.1 ?_))
    refine (K2.out _ BW4.out).mono ?_
    rintro e w5 ⟨v2, rfl, ho, hb⟩
    have HO2 := Kp.mk ho
    have BW5 := Kp.mk (BW4.out.trans (hb.mono BW4.out.size))
    have VA5 := Kp.mk (HTw4.out.a.later hb)
    have VB5 := Kp.mk (HTw4.out.b.later hb)
    have HO15 := Kp.mk (HO14.out.later hb)
    clear ho hb K2 HTw4 HO14 HO1
    go_wp2_with (first
      | (refine wpList_store_row rfl 32 _ _ rfl w5.heap.size R1 rfl rfl 32 _ (two_a w5) HIR1.out.2.1 HIR1.out.1 HIR1.out.2.2 ?_)
      | (refine wpList_store_row rfl 38 _ _ rfl (w5.heap.size + 1) (stopA k1 s1 c1') rfl rfl 38 _ (two_b w5 R1) (stopSize _ _ _) rfl (stop_one _ _ _) ?_; refine wpList_gen (F := fun W => Kp (TwoV w5 W R1 (stopA k1 s1 c1'))) ⟨two_v w5 R1 _⟩ ?_; intro w6 HTw6; have BW6 := Kp.mk (BW5.out.trans (HTw6.out.below.mono BW5.out.size)); have VA6 := Kp.mk (VA5.out.later HTw6.out.below); have VB6 := Kp.mk (VB5.out.later HTw6.out.below); have HO16 := Kp.mk (HO15.out.later HTw6.out.below); have HO26 := Kp.mk (HO2.out.later HTw6.out.below); have x0 := VB6.out.cell 0 _ rfl; have x1 := VB6.out.cell 1 _ rfl; have x2 := VB6.out.cell 2 _ rfl; have y0 := HTw6.out.b.cell 0 _ rfl; have y1 := HTw6.out.b.cell 1 _ rfl; have y2 := HTw6.out.b.cell 2 _ rfl)
      | (refine wpList_load_mid_g rfl 32 _ rfl w5.heap.size 0 rfl R1.toList _ (row_range HTw6.out.a) Tryd.underlying32 rfl (by simpa using HIR1.out.2.1) ?_)
      | (refine wpList_load_mid_g rfl 32 _ rfl w3.heap.size 0 rfl R1.toList _ (row_range VA6.out) Tryd.underlying32 rfl (by simpa using HIR1.out.2.1) ?_)
      | (go_at_call 16; (with_reducible refine (uni_same n P1 w6 HO16.out HO26.out hn (fun _ _ => rfl)).mono ?_); rintro e w9 ⟨rfl, hd⟩; have HD9 := Kp.mk hd.below; clear hd))
    go_ret
    exact ⟨rfl, BW6.out.trans (HD9.out.mono BW6.out.size)⟩
end Go.Proofs.YtadikbmbadldpaaDoor
