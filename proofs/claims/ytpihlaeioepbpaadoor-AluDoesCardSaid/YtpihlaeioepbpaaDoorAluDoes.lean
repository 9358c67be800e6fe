/- 'AluDoes', walked: every Do and Test. -/
import Derived.Test.YtpihlaeioepbpaaDoorDoRef
import Derived.Test.YtpihlaeioepbpaaDoorTestRef
import Derived.Test.YtpihlaeioepbpaaDoorAluTest
import Derived.Test.YtpihlaeioepbpaaDoorAluCuts
namespace Go.Proofs.YtpihlaeioepbpaaDoor
open Go Go.RowKit
set_option linter.unusedVariables false

theorem errVal_is (A : Nat → Addr) (d : Nat) : errVal A d = errOf A d := by cases d <;> rfl
/-- Both sides answer alike. -/
theorem does_do (A : Nat → Addr) (op : Int) (b c : BitVec 32) : ∃ (z : BitVec 32) (d : Nat), d ≤ 20 ∧
    (∀ w, Errs w allCodes A → Calls Tryd.prog 22 #[.int .i64 op, .int .u32 (b.toNat : Int), .int .u32 (c.toNat : Int)] w fun e w' => e = .returned (.tuple #[.int .u32 (z.toNat : Int), errOf A d]) ∧ Below w.heap.size w w') ∧
    (∀ w, Calls Tryd.prog 35 #[.int .i64 op, .int .u32 (b.toNat : Int), .int .u32 (c.toNat : Int)] w fun e w' => e = .returned (.tuple #[.int .u32 (z.toNat : Int), .int .i64 (d : Int)]) ∧ Below w.heap.size w w') := by
  have ha : ∀ z d, Alu.do_ op b c = (z, d) → ∀ w, Errs w allCodes A → Calls Tryd.prog 22 #[.int .i64 op, .int .u32 (b.toNat : Int), .int .u32 (c.toNat : Int)] w fun e w' => e = .returned (.tuple #[.int .u32 (z.toNat : Int), errOf A d]) ∧ Below w.heap.size w w' := fun z d hz w hE => by
    have h := alu_do A op b c w (hE.sub (by decide))
    rw [hz, errVal_is] at h
    exact h.mono fun e w' h => ⟨h.1, h.2.below⟩
  by_cases hop : 1 ≤ op ∧ op ≤ 15
  · by_cases hc : c = 0#32
    · rcases alu_op_cases hop with rfl | rfl | rfl | rfl | rfl | rfl | rfl | rfl | rfl | rfl | rfl | rfl | rfl | rfl | rfl
      · exact ⟨_, 0, by omega, ha _ 0 rfl, fun w => ref_do_1 b c w⟩
      · exact ⟨_, 0, by omega, ha _ 0 rfl, fun w => ref_do_2 b c w⟩
      · exact ⟨_, 0, by omega, ha _ 0 rfl, fun w => ref_do_3 b c w⟩
      · exact ⟨_, 0, by omega, ha _ 0 rfl, fun w => ref_do_4 b c w⟩
      · exact ⟨_, 0, by omega, ha _ 0 rfl, fun w => ref_do_5 b c w⟩
      · exact ⟨_, 0, by omega, ha _ 0 rfl, fun w => ref_do_6 b c w⟩
      · exact ⟨_, 0, by omega, ha _ 0 rfl, fun w => ref_do_7 b c w⟩
      · exact ⟨_, 0, by omega, ha _ 0 rfl, fun w => ref_do_8 b c w⟩
      · exact ⟨_, 0, by omega, ha _ 0 rfl, fun w => ref_do_9 b c w⟩
      · exact ⟨0#32, 20, by omega, ha _ 20 (by simp [Alu.do_, hc]), fun w => ref_do_10_no b c w hc⟩
      · exact ⟨0#32, 20, by omega, ha _ 20 (by simp [Alu.do_, hc]), fun w => ref_do_11_no b c w hc⟩
      · exact ⟨0#32, 20, by omega, ha _ 20 (by simp [Alu.do_, hc]), fun w => ref_do_12_no b c w hc⟩
      · exact ⟨0#32, 20, by omega, ha _ 20 (by simp [Alu.do_, hc]), fun w => ref_do_13_no b c w hc⟩
      · exact ⟨_, 0, by omega, ha _ 0 rfl, fun w => ref_do_14 b c w⟩
      · exact ⟨_, 0, by omega, ha _ 0 rfl, fun w => ref_do_15 b c w⟩
    · rcases alu_op_cases hop with rfl | rfl | rfl | rfl | rfl | rfl | rfl | rfl | rfl | rfl | rfl | rfl | rfl | rfl | rfl
      · exact ⟨_, 0, by omega, ha _ 0 rfl, fun w => ref_do_1 b c w⟩
      · exact ⟨_, 0, by omega, ha _ 0 rfl, fun w => ref_do_2 b c w⟩
      · exact ⟨_, 0, by omega, ha _ 0 rfl, fun w => ref_do_3 b c w⟩
      · exact ⟨_, 0, by omega, ha _ 0 rfl, fun w => ref_do_4 b c w⟩
      · exact ⟨_, 0, by omega, ha _ 0 rfl, fun w => ref_do_5 b c w⟩
      · exact ⟨_, 0, by omega, ha _ 0 rfl, fun w => ref_do_6 b c w⟩
      · exact ⟨_, 0, by omega, ha _ 0 rfl, fun w => ref_do_7 b c w⟩
      · exact ⟨_, 0, by omega, ha _ 0 rfl, fun w => ref_do_8 b c w⟩
      · exact ⟨_, 0, by omega, ha _ 0 rfl, fun w => ref_do_9 b c w⟩
      · exact ⟨b / c, 0, by omega, ha _ 0 (by simp [Alu.do_, hc]), fun w => ref_do_10 b c w hc⟩
      · exact ⟨BitVec.ofInt 32 (b.toInt.tdiv c.toInt), 0, by omega, ha _ 0 (by simp [Alu.do_, hc]), fun w => ref_do_11 b c w hc⟩
      · exact ⟨b % c, 0, by omega, ha _ 0 (by simp [Alu.do_, hc]), fun w => ref_do_12 b c w hc⟩
      · exact ⟨BitVec.ofInt 32 (b.toInt.tmod c.toInt), 0, by omega, ha _ 0 (by simp [Alu.do_, hc]), fun w => ref_do_13 b c w hc⟩
      · exact ⟨_, 0, by omega, ha _ 0 rfl, fun w => ref_do_14 b c w⟩
      · exact ⟨_, 0, by omega, ha _ 0 rfl, fun w => ref_do_15 b c w⟩
  · have hfin : Alu.do_ op b c = (0#32, 7) := by
      unfold Alu.do_
      rw [if_neg (by omega), if_neg (by omega), if_neg (by omega), if_neg (by omega), if_neg (by omega), if_neg (by omega), if_neg (by omega), if_neg (by omega), if_neg (by omega), if_neg (by omega), if_neg (by omega), if_neg (by omega), if_neg (by omega), if_neg (by omega), if_neg (by omega)]
    exact ⟨0#32, 7, by omega, ha _ 7 hfin, fun w => ref_do_no op b c w hop⟩
theorem does_test (A : Nat → Addr) (op : Int) (b c : BitVec 32) : ∃ (z : Bool) (d : Nat), d ≤ 20 ∧
    (∀ w, Errs w allCodes A → Calls Tryd.prog 13 #[.int .i64 op, .int .u32 (b.toNat : Int), .int .u32 (c.toNat : Int)] w fun e w' => e = .returned (.tuple #[.bool z, errOf A d]) ∧ Below w.heap.size w w') ∧
    (∀ w, Calls Tryd.prog 36 #[.int .i64 op, .int .u32 (b.toNat : Int), .int .u32 (c.toNat : Int)] w fun e w' => e = .returned (.tuple #[.bool z, .int .i64 (d : Int)]) ∧ Below w.heap.size w w') := by
  have ha : ∀ z d, Alu.test op b c = (z, d) → ∀ w, Errs w allCodes A → Calls Tryd.prog 13 #[.int .i64 op, .int .u32 (b.toNat : Int), .int .u32 (c.toNat : Int)] w fun e w' => e = .returned (.tuple #[.bool z, errOf A d]) ∧ Below w.heap.size w w' := fun z d hz w hE => by
    have h := alu_test A op b c w (hE.sub (by decide))
    rw [hz, errVal_is] at h
    exact h.mono fun e w' h => ⟨h.1, h.2.below⟩
  have hr : ∀ z d, (∀ w, Calls Tryd.prog 36 #[.int .i64 op, .int .u32 (b.toNat : Int), .int .u32 (c.toNat : Int)] w fun e w' => e = .returned (.tuple #[.bool z, .int .i64 d]) ∧ w' = w) → ∀ w, Calls Tryd.prog 36 #[.int .i64 op, .int .u32 (b.toNat : Int), .int .u32 (c.toNat : Int)] w fun e w' => e = .returned (.tuple #[.bool z, .int .i64 d]) ∧ Below w.heap.size w w' := fun z d h w => (h w).mono fun e w' h => ⟨h.1, by rw [h.2]; exact Below.refl _ _⟩
  by_cases hop : 48 ≤ op ∧ op ≤ 53
  · have : op = 48 ∨ op = 49 ∨ op = 50 ∨ op = 51 ∨ op = 52 ∨ op = 53 := by omega
    rcases this with rfl | rfl | rfl | rfl | rfl | rfl
    · exact ⟨_, 0, by omega, ha _ 0 rfl, hr _ _ (fun w => ref_test_48 b c w)⟩
    · exact ⟨_, 0, by omega, ha _ 0 rfl, hr _ _ (fun w => ref_test_49 b c w)⟩
    · exact ⟨_, 0, by omega, ha _ 0 rfl, hr _ _ (fun w => ref_test_50 b c w)⟩
    · exact ⟨_, 0, by omega, ha _ 0 rfl, hr _ _ (fun w => ref_test_51 b c w)⟩
    · exact ⟨_, 0, by omega, ha _ 0 rfl, hr _ _ (fun w => ref_test_52 b c w)⟩
    · exact ⟨_, 0, by omega, ha _ 0 rfl, hr _ _ (fun w => ref_test_53 b c w)⟩
  · have hfin : Alu.test op b c = (false, 7) := by
      unfold Alu.test
      rw [if_neg (by omega), if_neg (by omega), if_neg (by omega), if_neg (by omega), if_neg (by omega), if_neg (by omega)]
    exact ⟨false, 7, by omega, ha _ 7 hfin, hr _ _ (fun w => ref_test_no op b c w hop)⟩
/-- An operation and its words. -/
structure OpV where
  op : Int
  b : BitVec 32
  c : BitVec 32
/-- Its cells. -/
def OpV.row (o : OpV) : List Value := [.int .i64 o.op, .int .u32 (o.b.toNat : Int), .int .u32 (o.c.toNat : Int)]
/-- A slice of them that can be read. -/
structure RdO (w : World) (a : Option Addr) (n cap : Nat) (C : Nat → OpV) : Prop where
  bound : n ≤ 9223372036854775807
  cells : 0 < n → ∃ b off, a = some ⟨b, off, none⟩ ∧ ∀ i, i < n → w.rangeAt b (off + i * 3) (C i).row
theorem op_cells {w w' : World} {g : Nat} {c : OpV} (h : w.heap[g]? = some (.cells c.row.toArray 66 (0, 0))) (hb : Below w.heap.size w w') :
    w'.cell? ⟨g, 0, none⟩ = some (.int .i64 c.op) ∧ w'.cell? ⟨g, 1, none⟩ = some (.int .u32 (c.b.toNat : Int)) ∧ w'.cell? ⟨g, 2, none⟩ = some (.int .u32 (c.c.toNat : Int)) := by
  have h2 := (hb.block g (Array.getElem?_eq_some_iff.1 h).1).trans h
  exact ⟨cell_of_row _ g 0 _ _ _ h2, cell_of_row _ g 1 _ _ _ h2, cell_of_row _ g 2 _ _ _ h2⟩
theorem op_one (c : OpV) : c.row.toArray.all (·.oneCell') = true := by simp [OpV.row, Value.oneCell']
noncomputable def zOp : Array Value := #[.int .i64 0, .int .u32 0, .int .u32 0]
theorem zvOp (w : World) : (zeroValue 66).run Tryd.prog w = .ok (.agg zOp) w := by kernel_rfl
theorem infoOp : (Tryd.prog.info? 66).map (·.size) = some 3 := by kernel_rfl
set_option maxRecDepth 100000 in
set_option maxHeartbeats 4000000 in
theorem law_AluDoes (A : Nat → Addr) (a : Option Addr) (n cap : Nat) (C : Nat → OpV) (w : World) (h : RdO w a n cap C) (hE : Errs w allCodes A) (hT : TypeVar w) :
    Calls Tryd.prog 10 #[.slice a n cap] w fun e w' => e = .returned (.bool true) ∧ Below w.heap.size w w' := by
  have H0 := Kp.mk h
  have HE0 := Kp.mk hE
  have HT0 := Kp.mk hT
  have hn := h.bound
  have hzv := zvOp
  have hfirst : Alu.do_ 11 4294967289#32 2#32 = (4294967293#32, 0) := by decide
  have K0 : Kp (∀ w, Errs w allCodes A → Calls Tryd.prog 22 #[.int .i64 11, .int .u32 4294967289, .int .u32 2] w fun e w' => e = .returned (.tuple #[.int .u32 4294967293, .nilIface]) ∧ Drew w w') := ⟨fun w hE => by
    have h := alu_do A 11 4294967289#32 2#32 w (hE.sub (by decide))
    rw [hfirst] at h
    exact h⟩
  clear h hE hT hfirst
  go_enter Tryd.func10, Tryd.ntmps10
  go_wp2_with fail
  refine (K0.out _ HE0.out).mono ?_
  rintro e w1 ⟨rfl, hd⟩
  have B1 := Kp.mk hd.below
  clear hd
  go_wp2
  go_loopw [5] (fun i wr => ∃ k : Nat, k ≤ n ∧ i = .int .i64 k ∧ Kp (Below w.heap.size w wr)) (fun i _ => n - (intOf i).toNat)
  case atStart => exact ⟨0, by omega, rfl, B1⟩
  case round =>
    obtain ⟨k, hk, rfl, HB⟩ := hrel
    obtain ⟨w2, rfl⟩ : ∃ w2 : World, w2 = wr := ⟨_, rfl⟩
    by_cases hlt : k < n
    · have hbt : decide ((k : Int) < n) = true := decide_eq_true (by omega)
      have hk0 : (0 : Int) ≤ (k : Int) := by omega
      have hkn : (k : Int) < (n : Int) := by omega
      obtain ⟨b, off, rfl, hc⟩ := H0.out.cells (by omega)
      have HC := Kp.mk (range_later (hc k hlt) HB.out)
      obtain ⟨c, hcc⟩ : ∃ c, c = C k := ⟨_, rfl⟩
      rw [← hcc] at HC
      clear hc hcc
      obtain ⟨z1, d1, hd1, a1, r1⟩ := does_do A c.op c.b c.c
      obtain ⟨z2, d2, hd2, a2, r2⟩ := does_test A c.op c.b c.c
      have A1 := Kp.mk a1; have R1 := Kp.mk r1
      have A2 := Kp.mk a2; have R2 := Kp.mk r2
      clear a1 r1 a2 r2
      have BW := Kp.mk (below_setRow ((Below.refl w2.heap.size w2).alloc (Nat.le_refl _) (.cells zOp 66)) (Nat.le_refl _) c.row.toArray)
      have HBK : Kp (((w2.alloc (.cells zOp 66)).setRow w2.heap.size c.row.toArray).heap[w2.heap.size]? = some (.cells c.row.toArray 66 (0, 0))) := ⟨setRow_heap _ _ _ _ _ (0, 0) (heap_alloc_last w2 _)⟩
      obtain ⟨p0, p1, p2⟩ := op_cells HBK.out (Below.refl _ _)
      have B3 := Kp.mk (HB.out.trans (BW.out.mono HB.out.size))
      have hz1 : ((z1.toNat : Int) != (z1.toNat : Int)) = false := by simp
      have hz2 : (z2 != z2) = false := by simp
      have he1 : ((d1 : Int) != (d1 : Int)) = false := by simp
      have he2 : ((d2 : Int) != (d2 : Int)) = false := by simp
      go_wp2_with (first
        | (refine wpList_load_mid rfl 66 _ rfl b (off + k * 3) rfl c.row _ HC.out Tryd.underlying66 rfl infoOp ?_)
        | (refine wpList_store_row rfl 66 _ _ rfl w2.heap.size c.row.toArray rfl rfl 66 zOp (heap_alloc_last w2 _) infoOp rfl (op_one c) ?_))
      refine (R1.out _).mono ?_
      rintro e w4 ⟨rfl, hb⟩
      have B4 := Kp.mk (B3.out.trans (hb.mono B3.out.size))
      have C4 := Kp.mk hb
      clear hb p0 p1 p2
      obtain ⟨p0, p1, p2⟩ := op_cells HBK.out C4.out
      go_wp2_with fail
      refine (A1.out _ (HE0.out.later B4.out)).mono ?_
      rintro e w5 ⟨rfl, hb⟩
      have B5 := Kp.mk (B4.out.trans (hb.mono B4.out.size))
      have C5 := Kp.mk (C4.out.trans (hb.mono C4.out.size))
      clear hb p0 p1 p2
      obtain ⟨p0, p1, p2⟩ := op_cells HBK.out C5.out
      go_wp2_with fail
      refine (law_code A d1 _ hd1 (HE0.out.later B5.out) (HT0.out.later B5.out)).mono ?_
      rintro e w6 ⟨rfl, hb⟩
      have B6 := Kp.mk (B5.out.trans (hb.mono B5.out.size))
      have C6 := Kp.mk (C5.out.trans (hb.mono C5.out.size))
      clear hb p0 p1 p2
      obtain ⟨p0, p1, p2⟩ := op_cells HBK.out C6.out
      go_wp2_with fail
      refine (R2.out _).mono ?_
      rintro e w7 ⟨rfl, hb⟩
      have B7 := Kp.mk (B6.out.trans (hb.mono B6.out.size))
      have C7 := Kp.mk (C6.out.trans (hb.mono C6.out.size))
      clear hb p0 p1 p2
      obtain ⟨p0, p1, p2⟩ := op_cells HBK.out C7.out
      go_wp2_with fail
      refine (A2.out _ (HE0.out.later B7.out)).mono ?_
      rintro e w8 ⟨rfl, hb⟩
      have B8 := Kp.mk (B7.out.trans (hb.mono B7.out.size))
      have C8 := Kp.mk (C7.out.trans (hb.mono C7.out.size))
      clear hb p0 p1 p2
      obtain ⟨p0, p1, p2⟩ := op_cells HBK.out C8.out
      go_wp2_with fail
      refine (law_code A d2 _ hd2 (HE0.out.later B8.out) (HT0.out.later B8.out)).mono ?_
      rintro e w9 ⟨rfl, hb⟩
      have B9 := Kp.mk (B8.out.trans (hb.mono B8.out.size))
      have C9 := Kp.mk (C8.out.trans (hb.mono C8.out.size))
      clear hb p0 p1 p2
      obtain ⟨p0, p1, p2⟩ := op_cells HBK.out C9.out
      go_wp2
      go_roundw
      case rel => exact ⟨k + 1, by omega, by go_num, B9⟩
      case measure => simp [intOf]; omega
    · have : k = n := by omega
      subst this
      have hbt : decide ((k : Int) < (k : Int)) = false := decide_eq_false (by omega)
      go_wp2
      go_ret
      exact ⟨rfl, HB.out⟩
end Go.Proofs.YtpihlaeioepbpaaDoor
