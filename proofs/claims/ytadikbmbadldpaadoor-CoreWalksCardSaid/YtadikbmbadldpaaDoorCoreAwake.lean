
/- The laws' awake and bounded, walked. -/
import Derived.Test.YtadikbmbadldpaaDoorCoreRun
namespace Go.Proofs.YtadikbmbadldpaaDoor
open Go Go.RowKit
set_option linter.unusedVariables false
set_option linter.unusedSimpArgs false

def bndV (n : Int) : Int := if n > 3000 then 3000 else n
set_option maxRecDepth 100000 in
theorem law_bounded (n : Int) (w : World) : Calls Tryd.prog 14 #[.int .i64 n] w fun e w' => e = .returned (.int .i64 (bndV n)) ∧ w' = w := by
  unfold bndV
  by_cases h : n > 3000
  · rw [if_pos h]
    have t : decide (n > 3000) = true := decide_eq_true h
    clear h
    go_enter Tryd.func14, Tryd.ntmps14
    go_wp2
    go_ret
    exact ⟨rfl, rfl⟩
  · rw [if_neg h]
    have t : decide (n > 3000) = false := decide_eq_false h
    clear h
    go_enter Tryd.func14, Tryd.ntmps14
    go_wp2
    go_ret
    exact ⟨rfl, rfl⟩
def qz : ProcV := ⟨fun _ => 0#32, 0#32, 0, 0, 0, 0⟩
theorem qz_row : qz.row.toArray = zRow := by kernel_rfl
def awz : RunV := itV 2 (memP 12) (qz.put 0 0#32) 3
theorem aw_k : awz.k = 1 := by kernel_rfl
theorem aw_c : awz.c = 3 := by kernel_rfl
theorem aw_s : awz.s = 3 := by kernel_rfl
theorem aw_pc : awz.q.pc = 12#32 := by kernel_rfl
theorem aw_r1 : awz.q.r 1 = 5#32 := by kernel_rfl
theorem aw_d1 : (awz.P 1).dirty = true := by kernel_rfl
theorem aw_d0 : (awz.P 0).dirty = false := by kernel_rfl
theorem aw_b : (awz.P 1).data 3 = 5#8 := by kernel_rfl
theorem aw_ten : itV 2 (memP 12) (qz.put 0 0#32) 10 = awz := itV_stop (i := 3) (by show awz.k ≠ 0; rw [aw_k]; decide) 10 (by decide)
/-- Two variables of the call's own: a process, a stop. -/
abbrev st0 : Array Value := #[.int .i64 0, .int .i64 0, .int .i64 0]
abbrev twoW (w : World) : World := (w.alloc (.cells zRow 32)).alloc (.cells st0 38)
theorem two_a (w : World) : Blk (twoW w) w.heap.size zRow 32 := (Blk.new w zRow _).alloc _
theorem two_b (w : World) (R : Array Value) : Blk ((twoW w).setRow w.heap.size R) (w.heap.size + 1) st0 38 := by
  refine (setRow_other _ _ _ _ (by omega)).trans ?_
  have := Blk.new (w.alloc (.cells zRow 32)) st0 38
  have e : (w.alloc (.cells zRow 32)).heap.size = w.heap.size + 1 := by simp
  rw [e] at this
  exact this
structure TwoV (w W : World) (R S : Array Value) : Prop where
  a : Blk W w.heap.size R 32
  b : Blk W (w.heap.size + 1) S 38
  below : Below w.heap.size w W
theorem two_v (w : World) (R S : Array Value) : TwoV w (((twoW w).setRow w.heap.size R).setRow (w.heap.size + 1) S) R S :=
  ⟨(setRow_other _ _ _ _ (by omega)).trans (setRow_heap _ _ _ _ _ _ (two_a w)), setRow_heap _ _ _ _ _ _ (two_b w R), below_setRow (below_setRow ((below_alloc w _).trans ((below_alloc _ _).mono (by simp))) (Nat.le_refl _) _) (by omega) _⟩
theorem wpList_gen {ops : Array Oper} {rest : List Oper} {a : Act} {W : World} {Q : Exit → Act → World → Prop} (F : World → Prop) (hF : F W) (h : ∀ W', F W' → wpList Tryd.prog ops Q rest a W') : wpList Tryd.prog ops Q rest a W := h W hF
theorem stop_one (k s : Nat) (c : Int) : (stopA k s c).all (·.oneCell') = true := by simp [Value.oneCell']
theorem row_size21 (q : ProcV) : zRow.size = q.row.toArray.size := by
  show 21 = q.row.toArray.size
  rw [List.size_toArray, ProcV.row_length]
set_option maxRecDepth 100000 in
set_option maxHeartbeats 8000000 in
theorem law_awake (A : Nat → Addr) (w : World) (hE : Errs w [4, 7, 20] A) (ht : BlankT w) : Calls Tryd.prog 13 #[] w fun e w' => e = .returned (.bool true) ∧ Below w.heap.size w w' := by
  have KM := Kp.mk (law_memory w)
  have KR : Kp (∀ v w1, OwnP w1 w.heap.size v 2 (memP 12) → Below w.heap.size w w1 → Calls Tryd.prog 15 #[v, .agg zRow, .int .i64 10] w1 fun e w' => ∃ v2, e = .returned (.tuple #[v2, .agg awz.q.row.toArray, .agg (stopA 1 3 3)]) ∧ OwnP w' w1.heap.size v2 2 awz.P ∧ Below w1.heap.size w1 w') := ⟨fun v w1 ho hb => by
    obtain ⟨a, cap, rfl, hrd⟩ := ho.rd (by decide)
    have := core_run A a 2 cap (memP 12) qz 10 (by decide) w1 hrd (hE.later hb) (ht.later hb)
    rw [show ((10 : Int).toNat) = 10 from rfl, aw_ten, aw_k, aw_s, aw_c, qz_row] at this
    exact this⟩
  obtain ⟨z, hz⟩ : ∃ z, z = awz := ⟨_, rfl⟩
  have hp16 : z.q.row[16]? = some (.int .u32 12) := by rw [hz, ProcV.row_pc, aw_pc]; rfl
  have hp1 : z.q.row[1]? = some (.int .u32 5) := by rw [hz, ProcV.row_reg _ 1 (by decide), aw_r1]; rfl
  have hd1 : (z.P 1).dirty = true := by rw [hz]; exact aw_d1
  have hd0 : (z.P 0).dirty = false := by rw [hz]; exact aw_d0
  have hb1 : (z.P 1).data 3 = 5#8 := by rw [hz]; exact aw_b
  rw [← hz] at KR
  obtain ⟨R, hR⟩ : ∃ R, R = z.q.row.toArray := ⟨_, rfl⟩
  have hRs : zRow.size = R.size := by rw [hR]; exact row_size21 _
  have hRi : (Tryd.prog.info? 32).map (·.size) = some R.size := by rw [hR]; exact prSizeA _
  have hR1 : R.all (·.oneCell') = true := by rw [hR]; exact row_all_one _
  have hR16 : R[16]? = some (.int .u32 12) := by rw [hR]; simpa using hp16
  have hRr1 : R[1]? = some (.int .u32 5) := by rw [hR]; simpa using hp1
  rw [← hR] at KR
  have HI := Kp.mk (And.intro hRs (And.intro hRi hR1))
  have HC := Kp.mk (And.intro hR16 hRr1)
  have HD := Kp.mk (And.intro hd1 (And.intro hd0 hb1))
  clear hz hp16 hp1 hd1 hd0 hb1 hR hRs hRi hR1 hR16 hRr1 hE ht
  go_enter Tryd.func13, Tryd.ntmps13
  go_wp2_with fail
  refine KM.out.mono ?_
  rintro e w1 ⟨v, rfl, ho, hb⟩
  have H1 := Kp.mk ho
  have B1 := Kp.mk hb
  clear ho hb KM
  go_wp2_with fail
  refine (KR.out v w1 H1.out B1.out).mono ?_
  rintro e w2 ⟨v2, rfl, ho, hb⟩
  obtain ⟨g, cap, rfl, hg, _⟩ := ho.shape (by decide)
  have HO := Kp.mk ho
  have B2 := Kp.mk (B1.out.trans (hb.mono B1.out.size))
  clear ho hb KR H1 B1 hg
  go_wp2_with (first
    | (refine wpList_store_row rfl 32 _ _ rfl w2.heap.size R rfl rfl 32 _ (two_a w2) HI.out.2.1 HI.out.1 HI.out.2.2 ?_)
    | (refine wpList_store_row rfl 38 _ _ rfl (w2.heap.size + 1) (stopA 1 3 3) rfl rfl 38 _ (two_b w2 R) (stopSize _ _ _) rfl (stop_one _ _ _) ?_; refine wpList_gen (F := fun W => Kp (TwoV w2 W R (stopA 1 3 3))) ⟨two_v w2 R _⟩ ?_; intro w3 HT3; have s0 := HT3.out.b.cell 0 _ rfl; have s1 := HT3.out.b.cell 1 _ rfl; have s2 := HT3.out.b.cell 2 _ rfl; have r16 := HT3.out.a.cell 16 _ HC.out.1; have r1 := HT3.out.a.cell 1 _ HC.out.2; have HO3 := Kp.mk (HO.out.later HT3.out.below); have d1 : w3.cell? ⟨g, 67, none⟩ = some (.bool true) := (by have := HO3.out.cell 1 1 (by decide) (by decide); rw [this]; show some (Value.bool (z.P 1).dirty) = _; rw [HD.out.1]); have d0 : w3.cell? ⟨g, 1, none⟩ = some (.bool false) := (by have := HO3.out.cell 0 1 (by decide) (by decide); rw [this]; show some (Value.bool (z.P 0).dirty) = _; rw [HD.out.2.1]); have b3 : w3.cell? ⟨g, 71, none⟩ = some (.int .u8 5) := (by have := HO3.out.cell 1 5 (by decide) (by decide); rw [this, PageV.row_data _ 3 (by decide), HD.out.2.2]; rfl)))
  go_ret
  exact ⟨rfl, B2.out.trans (HT3.out.below.mono B2.out.size)⟩
end Go.Proofs.YtadikbmbadldpaaDoor
