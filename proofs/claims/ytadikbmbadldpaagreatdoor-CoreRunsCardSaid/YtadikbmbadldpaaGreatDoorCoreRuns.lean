
/- CoreRuns, walked (printed by gen_coreruns.py). -/
import Derived.Test.YtadikbmbadldpaaGreatDoorRunsBase
import Derived.Test.YtadikbmbadldpaaGreatDoorPageSame
namespace Go.Proofs.YtadikbmbadldpaaGreatDoor
open Go Go.RowKit
set_option linter.unusedVariables false
set_option linter.unusedSimpArgs false

theorem rows_is (q : ProcV) : zRow.size = q.row.toArray.size ∧ (Tryz.prog.info? 26).map (·.size) = some q.row.toArray.size ∧ q.row.toArray.all (·.oneCell') = true := ⟨row_size21 q, prSizeA q, row_all_one q⟩
theorem rows_range {w : World} {g : Nat} {R : Array Value} {T : TypeId} (h : Blk w g R T) : w.rangeAt g 0 R.toList := fun j u hu => by
  rw [Nat.zero_add]
  exact h.cell j u (by simpa using hu)
theorem bnd_le (n : Int) : bndV n ≤ 3000 := by unfold bndV; split <;> omega
theorem rdP_nil (w : World) (P : Nat → PageV) : RdP w none 0 0 P := ⟨Nat.le_refl _, by omega, fun _ => rfl, fun h => absurd h (Nat.lt_irrefl _)⟩
set_option maxRecDepth 100000 in
set_option maxHeartbeats 8000000 in
theorem ref6_path (a : Option Addr) (n cap : Nat) (P : Nat → PageV) (q : ProcV) (most : Int) (hm : most ≤ 10000) (w : World) (h : RdP w a n cap P) :
    Calls Tryz.prog 5 #[.slice a n cap, .agg q.row.toArray, .int .i64 most] w fun e w' => ∃ v, e = .returned (.tuple #[v, .int .i64 0]) ∧ w'.ownsRow w.heap.size 23 1 v (itV n P (q.put 0 0#32) most.toNat).s (wv (pathL n P (q.put 0 0#32) (itV n P (q.put 0 0#32) most.toNat).s)) ∧ Below w.heap.size w w' := by
  obtain ⟨w1, e1⟩ : ∃ w1, w1 = w.alloc (.cells q.row.toArray 26) := ⟨_, rfl⟩
  have b1 : Below w.heap.size w w1 := by rw [e1]; exact below_alloc _ _
  have U0 : Kp (Blk w1 w.heap.size q.row.toArray 26) := ⟨by rw [e1]; exact Blk.new _ _ _⟩
  have EW : Kp (w.alloc (.cells q.row.toArray 26) = w1) := ⟨e1.symm⟩
  have U0' : Kp (Blk (w.alloc (.cells q.row.toArray 26)) w.heap.size q.row.toArray 26) := ⟨Blk.new _ _ _⟩
  have KR := Kp.mk (ref6_run_ a n cap P q most hm w1 (h.later b1))
  obtain ⟨z, hz⟩ : ∃ z, z = itV n P (q.put 0 0#32) most.toNat := ⟨_, rfl⟩
  rw [← hz] at KR ⊢
  obtain ⟨L, hL⟩ : ∃ L, L = wv (pathL n P (q.put 0 0#32) z.s) := ⟨_, rfl⟩
  rw [← hL] at KR ⊢
  have BW := Kp.mk b1
  have t1 : decide (most > 10000) = false := decide_eq_false (by omega)
  clear h e1 b1 hz hL hm
  go_enter Tryz.func5, Tryz.ntmps5
  go_wp2_with (refine wpList_load_row rfl 26 _ rfl w.heap.size rfl 26 q.row.toArray (0, 0) _ U0'.out Tryz.underlying26 rfl (prSizeA q) ?_)
  rw [EW.out]
  refine KR.out.mono ?_
  rintro e w4 ⟨a2, cap2, pv, rfl, _, hr, hb⟩
  have HR := Kp.mk hr
  have B4 := Kp.mk hb
  clear hr hb KR U0 U0' EW
  go_wp2_with (refine wpList_store_row rfl 49 _ _ rfl w4.heap.size (mRow (.slice a2 n cap2) z.q z.k z.s z.c) rfl rfl 49 zM (Blk.new w4 zM _) (mRow_info _ _ _ _ _) (mRow_size _ _ _ _ _).symm (mRow_one _ _ _ _ _ _ _) ?_)
  refine bodyPost_ret (a := ⟨_, _⟩) (results_tmp2 (t := 6) (u := 7) rfl _ _ _) rfl ?_
  have b46 : Below w4.heap.size w4 ((w4.alloc (.cells zM 49)).setRow w4.heap.size (mRow (.slice a2 n cap2) z.q z.k z.s z.c)) := below_setRow (below_alloc _ _) (Nat.le_refl _) _
  exact ⟨_, rfl, wown_mono (wown_later HR.out b46) BW.out.size, BW.out.trans ((B4.out.trans (b46.mono B4.out.size)).mono BW.out.size)⟩
set_option maxRecDepth 100000 in
theorem ref6_path_no (a : Option Addr) (n cap : Nat) (q : ProcV) (most : Int) (hm : 10000 < most) (w : World) :
    Calls Tryz.prog 5 #[.slice a n cap, .agg q.row.toArray, .int .i64 most] w fun e w' => e = .returned (.tuple #[.slice none 0 0, .int .i64 12]) ∧ Below w.heap.size w w' := by
  have t1 : decide (most > 10000) = true := decide_eq_true hm
  clear hm
  go_enter Tryz.func5, Tryz.ntmps5
  go_wp2_with fail
  go_ret2
  exact ⟨rfl, below_alloc _ _⟩
set_option maxRecDepth 100000 in
theorem core_path_no (A : Nat → Addr) (a : Option Addr) (n cap : Nat) (q : ProcV) (most : Int) (hm : 10000 < most) (w : World) (hE : Errs w [12] A) :
    Calls Tryz.prog 6 #[.slice a n cap, .agg q.row.toArray, .int .i64 most] w fun e w' => e = .returned (.tuple #[.slice none 0 0, errv (A 12)]) ∧ Below w.heap.size w w' := by
  have t1 : decide (most > 10000) = true := decide_eq_true hm
  have e12 : (w.alloc (.cells q.row.toArray 26)).cell? ⟨0, 0, none⟩ = some (errv (A 12)) := (hE.later (below_alloc (w := w) (.cells q.row.toArray 26))).cell 12 (by simp)
  clear hm hE
  go_enter Tryz.func6, Tryz.ntmps6
  go_wp2_with fail
  go_quiet (fail)
  go_wp2_with fail
  go_ret2
  exact ⟨rfl, below_drewN (below_alloc _ _) _⟩
set_option maxRecDepth 100000 in
set_option maxHeartbeats 4000000 in
theorem ref6_equal (a1 a2 : Option Addr) (n c1 c2 : Nat) (l : List (BitVec 32)) (w : World) (h1 : RdW w a1 n c1 l) (h2 : RdW w a2 n c2 l) :
    Calls Tryz.prog 13 #[.slice a1 n c1, .slice a2 n c2] w fun e w' => e = .returned (.bool true) ∧ Drew w w' := by
  have H1 := Kp.mk h1
  have H2 := Kp.mk h2
  clear h1 h2
  go_enter Tryz.func13, Tryz.ntmps13
  go_wp2_with fail
  go_loopw [5] (fun iv wr => ∃ i : Nat, i ≤ n ∧ iv = .int .i64 (i : Int) ∧ Kp (Drew w wr)) (fun iv _ => n - (intOf iv).toNat)
  case atStart => exact ⟨0, Nat.zero_le _, rfl, ⟨Drew.refl _⟩⟩
  case round =>
    obtain ⟨i, hi, rfl, HJ⟩ := hrel
    by_cases hlt : i < n
    · have t1 : decide ((i : Int) < (n : Int)) = true := decide_eq_true (by omega)
      have t2 : (i : Int) < (n : Int) := by omega
      have t3 : (0 : Int) ≤ (i : Int) := by omega
      have hb := H1.out.bound
      obtain ⟨g0, o0, ha0, hc0⟩ := (H1.out.later HJ.out.below).cells (by omega)
      obtain ⟨g1, o1, ha1, hc1⟩ := (H2.out.later HJ.out.below).cells (by omega)
      subst ha0
      subst ha1
      have d0 := hc0 i hlt
      have d1 := hc1 i hlt
      obtain ⟨x, hx⟩ : ∃ x, x = l.getD i 0#32 := ⟨_, rfl⟩
      rw [← hx] at d0 d1
      have HLT := Kp.mk hlt
      clear hc0 hc1 hx hlt hi
      go_wp2_with fail
      go_quiet (fail)
      go_wp2_with fail
      go_roundw
      case rel => exact ⟨i + 1, HLT.out, by go_num, ⟨HJ.out.trans ⟨_, rfl⟩⟩⟩
      case measure => have := HLT.out; simp [intOf]; omega
    · have t1 : decide ((i : Int) < (n : Int)) = false := decide_eq_false (by omega)
      have t2 : (n : Int) ≤ (i : Int) := by omega
      clear hlt hi
      go_wp2_with fail
      go_ret
      exact ⟨rfl, HJ.out⟩
theorem wpl_store {P : Program} {ops : Array Oper} {Q : Exit → Act → World → Prop} {l : List Oper} {a : Act} {w : World} {d : Option Tmp} {t : TypeId} {p : String} {af : Array Edge} {g : Option (Nat × Bool)} (ty : TypeId) (x : Operand) {y : Operand} (h : wpList P ops Q ({ dst := d, op := .store ty x y, type := t, pos := p, after := af, guard := g } :: l) a w) : wpList P ops Q ({ dst := d, op := .store ty x y, type := t, pos := p, after := af, guard := g } :: l) a w := h
theorem wpl_load {P : Program} {ops : Array Oper} {Q : Exit → Act → World → Prop} {l : List Oper} {a : Act} {w : World} {d : Option Tmp} {t : TypeId} {p : String} {af : Array Edge} {g : Option (Nat × Bool)} (ty : TypeId) (x : Operand) (h : wpList P ops Q ({ dst := d, op := .load ty x, type := t, pos := p, after := af, guard := g } :: l) a w) : wpList P ops Q ({ dst := d, op := .load ty x, type := t, pos := p, after := af, guard := g } :: l) a w := h
set_option maxRecDepth 100000 in
set_option maxHeartbeats 8000000 in
theorem law_CoreRuns (A : Nat → Addr) (a : Option Addr) (n cap : Nat) (P : Nat → PageV) (q : ProcV) (m : Int) (w : World) (h : RdP w a n cap P) (hm0 : -9223372036854775808 ≤ m) (hm1 : m ≤ 9223372036854775807) (hE : Errs w allCodes A) (hT : TypeVar w) (ht : BlankT w) :
    Calls Tryz.prog 3 #[.slice a n cap, .agg q.row.toArray, .int .i64 m] w fun e w' => e = .returned (.bool true) ∧ Below w.heap.size w w' := by
  have hn := h.bound
  have hE2 : Errs w [4, 7, 20] A := hE.sub (by intro c hc; simp [allCodes] at hc ⊢; omega)
  have hE3 : Errs w [12] A := hE.sub (by intro c hc; simp [allCodes] at hc ⊢; omega)
  have KAW := Kp.mk (fun w' (hw : Below w.heap.size w w') => law_awake A w' (hE2.later hw) (ht.later hw))
  have KB1 := Kp.mk (fun v => law_bounded m v)
  have KCD := Kp.mk (fun w' (hw : Below w.heap.size w w') => api_code w' (hE.later hw) 12 (by omega) (by omega))
  have KPL := Kp.mk (fun w' (hw : Below w.heap.size w w') => api_place (A 12) w' (hT.later hw))
  have KPN1 := Kp.mk (fun (h : 10000 < m) w' => ref6_path_no none 0 0 q m h w')
  have KPN2 := Kp.mk (fun (h : 10000 < m) w' (hw : Below w.heap.size w w') => core_path_no A none 0 0 q m h w' (hE3.later hw))
  have KPY1 : Kp (m ≤ 10000 → ∀ w', Calls Tryz.prog 5 #[.slice none 0 0, .agg q.row.toArray, .int .i64 m] w' fun e w'' => ∃ v, e = .returned (.tuple #[v, .int .i64 0]) ∧ Below w'.heap.size w' w'') := ⟨fun h w' => (ref6_path none 0 0 P q m h w' (rdP_nil w' P)).mono fun e w'' ⟨v, h1, _, h2⟩ => ⟨v, h1, h2⟩⟩
  have KPY2 : Kp (m ≤ 10000 → ∀ w', Below w.heap.size w w' → Calls Tryz.prog 6 #[.slice none 0 0, .agg q.row.toArray, .int .i64 m] w' fun e w'' => ∃ v, e = .returned (.tuple #[v, .nilIface]) ∧ Below w'.heap.size w' w'') := ⟨fun h w' hw => (core_path A none 0 0 P q m h w' (rdP_nil w' P) (hE2.later hw) (ht.later hw)).mono fun e w'' ⟨v, h1, _, h2⟩ => ⟨v, h1, h2⟩⟩
  obtain ⟨nb, hnb⟩ : ∃ x, x = bndV m := ⟨_, rfl⟩
  have b1 := bnd_le m
  rw [← hnb] at KB1 b1
  obtain ⟨B, hB⟩ : ∃ B, B = w.heap.size := ⟨_, rfl⟩
  obtain ⟨w1, e1⟩ : ∃ w1, w1 = w.alloc (.cells q.row.toArray 26) := ⟨_, rfl⟩
  have BW1 : Kp (Below w.heap.size w w1) := ⟨by rw [e1]; exact below_alloc _ _⟩
  have EW : Kp (w.alloc (.cells q.row.toArray 26) = w1) := ⟨e1.symm⟩
  have HBq := Kp.mk hB
  obtain ⟨z, hz⟩ : ∃ z, z = itV n P (q.put 0 0#32) nb.toNat := ⟨_, rfl⟩
  have hzs : z.s ≤ 3000 := by
    have := (it_at (n := n) (P := P) (q := q.put 0 0#32) nb.toNat).2.2.1
    rw [← hz] at this
    omega
  obtain ⟨L, hL⟩ : ∃ L, L = pathL n P (q.put 0 0#32) z.s := ⟨_, rfl⟩
  have K1 : Kp (∀ w', Below w.heap.size w w' → Calls Tryz.prog 10 #[.slice a n cap, .agg q.row.toArray, .int .i64 nb] w' fun e w'' => ∃ v, e = .returned (.tuple #[v, .agg z.q.row.toArray, .agg (stopA z.k z.s z.c)]) ∧ OwnP w'' w'.heap.size v n z.P ∧ Below w'.heap.size w' w'') := ⟨fun w' hw => ref6_run a n cap P q nb (by omega) w' (h.later hw) z hz⟩
  have K2 : Kp (∀ w', Below w.heap.size w w' → Calls Tryz.prog 5 #[.slice a n cap, .agg q.row.toArray, .int .i64 nb] w' fun e w'' => ∃ v, e = .returned (.tuple #[v, .int .i64 0]) ∧ w''.ownsRow w'.heap.size 23 1 v z.s (wv L) ∧ Below w'.heap.size w' w'') := ⟨fun w' hw => by rw [hL, hz]; exact ref6_path a n cap P q nb (by omega) w' (h.later hw)⟩
  have K3 : Kp (∀ w', Below w.heap.size w w' → Calls Tryz.prog 11 #[.slice a n cap, .agg q.row.toArray, .int .i64 nb] w' fun e w'' => ∃ v, e = .returned (.tuple #[v, .agg z.q.row.toArray, .agg (stopA z.k z.s z.c)]) ∧ OwnP w'' w'.heap.size v n z.P ∧ Below w'.heap.size w' w'') := ⟨fun w' hw => by rw [hz]; exact core_run A a n cap P q nb (by omega) w' (h.later hw) (hE2.later hw) (ht.later hw)⟩
  have K4 : Kp (∀ w', Below w.heap.size w w' → Calls Tryz.prog 6 #[.slice a n cap, .agg q.row.toArray, .int .i64 nb] w' fun e w'' => ∃ v, e = .returned (.tuple #[v, .nilIface]) ∧ w''.ownsRow w'.heap.size 23 1 v z.s (wv L) ∧ Below w'.heap.size w' w'') := ⟨fun w' hw => by rw [hL, hz]; exact core_path A a n cap P q nb (by omega) w' (h.later hw) (hE2.later hw) (ht.later hw)⟩
  have he1 : ∀ w, (Op.equalIn 10000 26 (.agg z.q.row.toArray) (.agg z.q.row.toArray)).run Tryz.prog w = .ok true w := fun w => proc_eq 9997 z.q w
  have hg := guardProc
  have HIR : Kp (zRow.size = q.row.toArray.size ∧ (Tryz.prog.info? 26).map (·.size) = some q.row.toArray.size ∧ q.row.toArray.all (·.oneCell') = true) := ⟨rows_is q⟩
  have HIR1 : Kp (zRow.size = z.q.row.toArray.size ∧ (Tryz.prog.info? 26).map (·.size) = some z.q.row.toArray.size ∧ z.q.row.toArray.all (·.oneCell') = true) := ⟨rows_is z.q⟩
  obtain ⟨R, hR⟩ : ∃ R, R = q.row.toArray := ⟨_, rfl⟩
  obtain ⟨R1, hR1⟩ : ∃ R, R = z.q.row.toArray := ⟨_, rfl⟩
  obtain ⟨k1, hk1⟩ : ∃ k, k = z.k := ⟨_, rfl⟩
  obtain ⟨s1, hs1⟩ : ∃ s, s = z.s := ⟨_, rfl⟩
  obtain ⟨c1, hc1⟩ : ∃ c, c = z.c := ⟨_, rfl⟩
  obtain ⟨P1, hP1⟩ : ∃ p, p = z.P := ⟨_, rfl⟩
  rw [← hk1, ← hs1, ← hc1, ← hR, ← hR1, ← hP1] at K1 K3
  rw [← hs1, ← hR] at K2 K4
  rw [← hs1] at hzs
  rw [← hR1] at he1 HIR1
  rw [← hR] at KPN1 KPN2 KPY1 KPY2
  rw [← hR] at HIR EW ⊢
  have HZS := Kp.mk hzs
  have PB1 : Kp (Blk w1 B R 26) := ⟨by rw [← EW.out, hB]; exact Blk.new _ _ _⟩
  clear h hm0 hm1 hE hE2 hE3 hT ht hk1 hs1 hc1 hP1 hR hR1 hz hB e1 hL hzs hnb b1
  by_cases hbig : 10000 < m
  · have KP1 := Kp.mk (KPN1.out hbig)
    have KP2 := Kp.mk (KPN2.out hbig)
    clear KPN1 KPN2 KPY1 KPY2 hbig
    go_enter Tryz.func3, Tryz.ntmps3
    go_wp2_with fail
    rw [← HBq.out, EW.out]
    refine (KAW.out w1 BW1.out).mono ?_
    rintro e w2 ⟨rfl, hb⟩
    have BW2 := Kp.mk (BW1.out.trans (hb.mono BW1.out.size))
    have PB2 := Kp.mk (PB1.out.later hb)
    clear hb KAW EW
    go_wp2_with (refine wpList_load_row rfl 26 _ rfl B rfl 26 R (0, 0) _ PB2.out Tryz.underlying26 rfl HIR.out.2.1 ?_)
    refine (KP1.out w2).mono ?_
    rintro e w3 ⟨rfl, hb⟩
    have BW3 := Kp.mk (BW2.out.trans (hb.mono BW2.out.size))
    have PB3 := Kp.mk (PB2.out.later hb)
    clear hb KP1
    go_wp2_with (refine wpList_load_row rfl 26 _ rfl B rfl 26 R (0, 0) _ PB3.out Tryz.underlying26 rfl HIR.out.2.1 ?_)
    refine (KP2.out w3 BW3.out).mono ?_
    rintro e w4 ⟨rfl, hb⟩
    have BW4 := Kp.mk (BW3.out.trans (hb.mono BW3.out.size))
    have PB4 := Kp.mk (PB3.out.later hb)
    clear hb KP2
    go_wp2_with fail
    refine (KCD.out w4 BW4.out).mono ?_
    rintro e w40 ⟨rfl, hw⟩
    obtain rfl := hw.symm
    clear hw
    go_wp2_with fail
    refine (KPL.out w4 BW4.out).mono ?_
    rintro e w5 ⟨rfl, hb⟩
    have BW5 := Kp.mk (BW4.out.trans (hb.mono BW4.out.size))
    have PB5 := Kp.mk (PB4.out.later hb)
    clear hb KPL KCD
    go_wp2_with (first
      | go_skip
      | (with_reducible refine (KB1.out _).mono ?_; rintro e w50 ⟨rfl, hw⟩; obtain rfl := hw.symm; clear hw)
      | ((with_reducible refine wpl_load (26) (.tmp 4) ?_); (refine wpList_load_row rfl 26 _ rfl B rfl 26 R (0, 0) _ PB5.out Tryz.underlying26 rfl HIR.out.2.1 ?_)))
    refine (K1.out _ BW5.out).mono ?_
    rintro e w6 ⟨v1, rfl, ho, hb⟩
    obtain ⟨a1, cap1, rfl, _⟩ := ho.rd hn
    have HO1 := Kp.mk ho
    have BW6 := Kp.mk (BW5.out.trans (hb.mono BW5.out.size))
    have PB6 := Kp.mk (PB5.out.later hb)
    clear ho hb K1 KB1
    go_wp2_with (first
      | (refine wpList_store_row rfl 26 _ _ rfl w6.heap.size R1 rfl rfl 26 _ (two_a w6) HIR1.out.2.1 HIR1.out.1 HIR1.out.2.2 ?_)
      | (refine wpList_store_row rfl 38 _ _ rfl (w6.heap.size + 1) (stopA k1 s1 c1) rfl rfl 38 _ (two_b w6 R1) (stopSize _ _ _) rfl (stop_one _ _ _) ?_; refine wpList_gen (F := fun W => Kp (TwoV w6 W R1 (stopA k1 s1 c1))) ⟨two_v w6 R1 _⟩ ?_; intro w7 HT7; have BW7 := Kp.mk (BW6.out.trans (HT7.out.below.mono BW6.out.size)); have PB7 := Kp.mk (PB6.out.later HT7.out.below); have HO17 := Kp.mk (HO1.out.later HT7.out.below))
      | (refine wpList_load_row rfl 26 _ rfl B rfl 26 R (0, 0) _ PB7.out Tryz.underlying26 rfl HIR.out.2.1 ?_))
    refine (K2.out _ BW7.out).mono ?_
    rintro e w8 ⟨pv, rfl, hrow, hb⟩
    obtain ⟨x1, cx1, rfl, hrd⟩ := wown_rd hrow (by have := HZS.out; omega)
    have HRW := Kp.mk hrd
    have BW8 := Kp.mk (BW7.out.trans (hb.mono BW7.out.size))
    have PB8 := Kp.mk (PB7.out.later hb)
    have HO18 := Kp.mk (HO17.out.later hb)
    have VA8 := Kp.mk (HT7.out.a.later hb)
    have VB8 := Kp.mk (HT7.out.b.later hb)
    clear hrow hrd hb K2 HT7 HO17 HO1
    go_wp2_with (refine wpList_load_row rfl 26 _ rfl B rfl 26 R (0, 0) _ PB8.out Tryz.underlying26 rfl HIR.out.2.1 ?_)
    refine (K3.out _ BW8.out).mono ?_
    rintro e w9 ⟨v3, rfl, ho, hb⟩
    obtain ⟨a3, cap3, rfl, _⟩ := ho.rd hn
    have HO3 := Kp.mk ho
    have BW9 := Kp.mk (BW8.out.trans (hb.mono BW8.out.size))
    have PB9 := Kp.mk (PB8.out.later hb)
    have HO19 := Kp.mk (HO18.out.later hb)
    have VA9 := Kp.mk (VA8.out.later hb)
    have VB9 := Kp.mk (VB8.out.later hb)
    have HRW9 := Kp.mk (HRW.out.later hb)
    clear ho hb K3 HO18 VA8 VB8 HRW
    go_wp2_with (first
      | go_skip
      | (refine wpList_store_row rfl 26 _ _ rfl w9.heap.size R1 rfl rfl 26 _ (two_a w9) HIR1.out.2.1 HIR1.out.1 HIR1.out.2.2 ?_)
      | (refine wpList_store_row rfl 38 _ _ rfl (w9.heap.size + 1) (stopA k1 s1 c1) rfl rfl 38 _ (two_b w9 R1) (stopSize _ _ _) rfl (stop_one _ _ _) ?_; refine wpList_gen (F := fun W => Kp (TwoV w9 W R1 (stopA k1 s1 c1))) ⟨two_v w9 R1 _⟩ ?_; intro w10 HT10; have VA10 := Kp.mk (VA9.out.later HT10.out.below); have VB10 := Kp.mk (VB9.out.later HT10.out.below); have HO110 := Kp.mk (HO19.out.later HT10.out.below); have HRW10 := Kp.mk (HRW9.out.later HT10.out.below); have HO310 := Kp.mk (HO3.out.later HT10.out.below); have PB10 := Kp.mk (PB9.out.later HT10.out.below); have BW10 := Kp.mk (BW9.out.trans (HT10.out.below.mono BW9.out.size)); have xc0 := VB10.out.cell 0 _ rfl; have xc1 := VB10.out.cell 1 _ rfl; have xc2 := VB10.out.cell 2 _ rfl; have yc0 := HT10.out.b.cell 0 _ rfl; have yc1 := HT10.out.b.cell 1 _ rfl; have yc2 := HT10.out.b.cell 2 _ rfl)
      | (refine wpList_load_mid_g rfl 26 _ rfl w9.heap.size 0 rfl R1.toList _ (rows_range HT10.out.a) Tryz.underlying26 rfl (by simpa using HIR1.out.2.1) ?_)
      | (refine wpList_load_mid_g rfl 26 _ rfl w6.heap.size 0 rfl R1.toList _ (rows_range VA10.out) Tryz.underlying26 rfl (by simpa using HIR1.out.2.1) ?_))
    obtain ⟨_, _, e2, r2⟩ := HO310.out.rd hn
    simp only [Value.slice.injEq, true_and] at e2
    obtain ⟨rfl, rfl⟩ := e2
    obtain ⟨_, _, e1, r1⟩ := HO110.out.rd hn
    simp only [Value.slice.injEq, true_and] at e1
    obtain ⟨rfl, rfl⟩ := e1
    refine (ref_same a3 _ n cap3 _ P1 P1 w10 r2 r1 (fun _ _ => rfl)).mono ?_
    rintro e w11 ⟨rfl, hd⟩
    have hb := hd.below
    have BW11 := Kp.mk (BW10.out.trans (hb.mono BW10.out.size))
    have PB11 := Kp.mk (PB10.out.later hb)
    have HRW11 := Kp.mk (HRW10.out.later hb)
    clear hb hd r1 r2 he1 hg
    go_wp2_with (first
      | go_skip
      | ((with_reducible refine wpl_load (26) (.tmp 4) ?_); (refine wpList_load_row rfl 26 _ rfl B rfl 26 R (0, 0) _ PB11.out Tryz.underlying26 rfl HIR.out.2.1 ?_)))
    refine (K4.out _ BW11.out).mono ?_
    rintro e w12 ⟨pv2, rfl, hrow, hb⟩
    obtain ⟨x2, cx2, rfl, hrd⟩ := wown_rd hrow (by have := HZS.out; omega)
    have HRX := Kp.mk hrd
    have BW12 := Kp.mk (BW11.out.trans (hb.mono BW11.out.size))
    have HRW12 := Kp.mk (HRW11.out.later hb)
    clear hrow hrd hb K4
    go_wp2_with fail
    with_reducible refine (ref6_equal x2 x1 s1 cx2 cx1 L w12 HRX.out HRW12.out).mono ?_
    rintro e w13 ⟨rfl, hd⟩
    have HD := Kp.mk hd.below
    clear hd
    go_wp2_with fail
    go_ret
    exact ⟨rfl, BW12.out.trans (HD.out.mono BW12.out.size)⟩
  · have KP1 := Kp.mk (KPY1.out (by omega))
    have KP2 := Kp.mk (KPY2.out (by omega))
    clear KPN1 KPN2 KPY1 KPY2 hbig
    go_enter Tryz.func3, Tryz.ntmps3
    go_wp2_with fail
    rw [← HBq.out, EW.out]
    refine (KAW.out w1 BW1.out).mono ?_
    rintro e w2 ⟨rfl, hb⟩
    have BW2 := Kp.mk (BW1.out.trans (hb.mono BW1.out.size))
    have PB2 := Kp.mk (PB1.out.later hb)
    clear hb KAW EW
    go_wp2_with (refine wpList_load_row rfl 26 _ rfl B rfl 26 R (0, 0) _ PB2.out Tryz.underlying26 rfl HIR.out.2.1 ?_)
    refine (KP1.out w2).mono ?_
    rintro e w3 ⟨v01, rfl, hb⟩
    have BW3 := Kp.mk (BW2.out.trans (hb.mono BW2.out.size))
    have PB3 := Kp.mk (PB2.out.later hb)
    clear hb KP1
    go_wp2_with (refine wpList_load_row rfl 26 _ rfl B rfl 26 R (0, 0) _ PB3.out Tryz.underlying26 rfl HIR.out.2.1 ?_)
    refine (KP2.out w3 BW3.out).mono ?_
    rintro e w5 ⟨v02, rfl, hb⟩
    have BW5 := Kp.mk (BW3.out.trans (hb.mono BW3.out.size))
    have PB5 := Kp.mk (PB3.out.later hb)
    clear hb KP2 KPL KCD
    go_wp2_with (first
      | go_skip
      | (with_reducible refine (KB1.out _).mono ?_; rintro e w50 ⟨rfl, hw⟩; obtain rfl := hw.symm; clear hw)
      | ((with_reducible refine wpl_load (26) (.tmp 4) ?_); (refine wpList_load_row rfl 26 _ rfl B rfl 26 R (0, 0) _ PB5.out Tryz.underlying26 rfl HIR.out.2.1 ?_)))
    refine (K1.out _ BW5.out).mono ?_
    rintro e w6 ⟨v1, rfl, ho, hb⟩
    obtain ⟨a1, cap1, rfl, _⟩ := ho.rd hn
    have HO1 := Kp.mk ho
    have BW6 := Kp.mk (BW5.out.trans (hb.mono BW5.out.size))
    have PB6 := Kp.mk (PB5.out.later hb)
    clear ho hb K1 KB1
    go_wp2_with (first
      | (refine wpList_store_row rfl 26 _ _ rfl w6.heap.size R1 rfl rfl 26 _ (two_a w6) HIR1.out.2.1 HIR1.out.1 HIR1.out.2.2 ?_)
      | (refine wpList_store_row rfl 38 _ _ rfl (w6.heap.size + 1) (stopA k1 s1 c1) rfl rfl 38 _ (two_b w6 R1) (stopSize _ _ _) rfl (stop_one _ _ _) ?_; refine wpList_gen (F := fun W => Kp (TwoV w6 W R1 (stopA k1 s1 c1))) ⟨two_v w6 R1 _⟩ ?_; intro w7 HT7; have BW7 := Kp.mk (BW6.out.trans (HT7.out.below.mono BW6.out.size)); have PB7 := Kp.mk (PB6.out.later HT7.out.below); have HO17 := Kp.mk (HO1.out.later HT7.out.below))
      | (refine wpList_load_row rfl 26 _ rfl B rfl 26 R (0, 0) _ PB7.out Tryz.underlying26 rfl HIR.out.2.1 ?_))
    refine (K2.out _ BW7.out).mono ?_
    rintro e w8 ⟨pv, rfl, hrow, hb⟩
    obtain ⟨x1, cx1, rfl, hrd⟩ := wown_rd hrow (by have := HZS.out; omega)
    have HRW := Kp.mk hrd
    have BW8 := Kp.mk (BW7.out.trans (hb.mono BW7.out.size))
    have PB8 := Kp.mk (PB7.out.later hb)
    have HO18 := Kp.mk (HO17.out.later hb)
    have VA8 := Kp.mk (HT7.out.a.later hb)
    have VB8 := Kp.mk (HT7.out.b.later hb)
    clear hrow hrd hb K2 HT7 HO17 HO1
    go_wp2_with (refine wpList_load_row rfl 26 _ rfl B rfl 26 R (0, 0) _ PB8.out Tryz.underlying26 rfl HIR.out.2.1 ?_)
    refine (K3.out _ BW8.out).mono ?_
    rintro e w9 ⟨v3, rfl, ho, hb⟩
    obtain ⟨a3, cap3, rfl, _⟩ := ho.rd hn
    have HO3 := Kp.mk ho
    have BW9 := Kp.mk (BW8.out.trans (hb.mono BW8.out.size))
    have PB9 := Kp.mk (PB8.out.later hb)
    have HO19 := Kp.mk (HO18.out.later hb)
    have VA9 := Kp.mk (VA8.out.later hb)
    have VB9 := Kp.mk (VB8.out.later hb)
    have HRW9 := Kp.mk (HRW.out.later hb)
    clear ho hb K3 HO18 VA8 VB8 HRW
    go_wp2_with (first
      | go_skip
      | (refine wpList_store_row rfl 26 _ _ rfl w9.heap.size R1 rfl rfl 26 _ (two_a w9) HIR1.out.2.1 HIR1.out.1 HIR1.out.2.2 ?_)
      | (refine wpList_store_row rfl 38 _ _ rfl (w9.heap.size + 1) (stopA k1 s1 c1) rfl rfl 38 _ (two_b w9 R1) (stopSize _ _ _) rfl (stop_one _ _ _) ?_; refine wpList_gen (F := fun W => Kp (TwoV w9 W R1 (stopA k1 s1 c1))) ⟨two_v w9 R1 _⟩ ?_; intro w10 HT10; have VA10 := Kp.mk (VA9.out.later HT10.out.below); have VB10 := Kp.mk (VB9.out.later HT10.out.below); have HO110 := Kp.mk (HO19.out.later HT10.out.below); have HRW10 := Kp.mk (HRW9.out.later HT10.out.below); have HO310 := Kp.mk (HO3.out.later HT10.out.below); have PB10 := Kp.mk (PB9.out.later HT10.out.below); have BW10 := Kp.mk (BW9.out.trans (HT10.out.below.mono BW9.out.size)); have xc0 := VB10.out.cell 0 _ rfl; have xc1 := VB10.out.cell 1 _ rfl; have xc2 := VB10.out.cell 2 _ rfl; have yc0 := HT10.out.b.cell 0 _ rfl; have yc1 := HT10.out.b.cell 1 _ rfl; have yc2 := HT10.out.b.cell 2 _ rfl)
      | (refine wpList_load_mid_g rfl 26 _ rfl w9.heap.size 0 rfl R1.toList _ (rows_range HT10.out.a) Tryz.underlying26 rfl (by simpa using HIR1.out.2.1) ?_)
      | (refine wpList_load_mid_g rfl 26 _ rfl w6.heap.size 0 rfl R1.toList _ (rows_range VA10.out) Tryz.underlying26 rfl (by simpa using HIR1.out.2.1) ?_))
    obtain ⟨_, _, e2, r2⟩ := HO310.out.rd hn
    simp only [Value.slice.injEq, true_and] at e2
    obtain ⟨rfl, rfl⟩ := e2
    obtain ⟨_, _, e1, r1⟩ := HO110.out.rd hn
    simp only [Value.slice.injEq, true_and] at e1
    obtain ⟨rfl, rfl⟩ := e1
    refine (ref_same a3 _ n cap3 _ P1 P1 w10 r2 r1 (fun _ _ => rfl)).mono ?_
    rintro e w11 ⟨rfl, hd⟩
    have hb := hd.below
    have BW11 := Kp.mk (BW10.out.trans (hb.mono BW10.out.size))
    have PB11 := Kp.mk (PB10.out.later hb)
    have HRW11 := Kp.mk (HRW10.out.later hb)
    clear hb hd r1 r2 he1 hg
    go_wp2_with (first
      | go_skip
      | ((with_reducible refine wpl_load (26) (.tmp 4) ?_); (refine wpList_load_row rfl 26 _ rfl B rfl 26 R (0, 0) _ PB11.out Tryz.underlying26 rfl HIR.out.2.1 ?_)))
    refine (K4.out _ BW11.out).mono ?_
    rintro e w12 ⟨pv2, rfl, hrow, hb⟩
    obtain ⟨x2, cx2, rfl, hrd⟩ := wown_rd hrow (by have := HZS.out; omega)
    have HRX := Kp.mk hrd
    have BW12 := Kp.mk (BW11.out.trans (hb.mono BW11.out.size))
    have HRW12 := Kp.mk (HRW11.out.later hb)
    clear hrow hrd hb K4
    go_wp2_with fail
    with_reducible refine (ref6_equal x2 x1 s1 cx2 cx1 L w12 HRX.out HRW12.out).mono ?_
    rintro e w13 ⟨rfl, hd⟩
    have HD := Kp.mk hd.below
    clear hd
    go_wp2_with fail
    go_ret
    exact ⟨rfl, BW12.out.trans (HD.out.mono BW12.out.size)⟩
end Go.Proofs.YtadikbmbadldpaaGreatDoor
