/- The document's logic and divide: walked. -/
import Derived.Test.YtpihlaeioepbpaaDoorDoesRef
namespace Go.Proofs.YtpihlaeioepbpaaDoor
open Go Go.RowKit
set_option linter.unusedVariables false

set_option maxRecDepth 100000 in
set_option maxHeartbeats 4000000 in
theorem ref_logic3 (b c : BitVec 32) (w : World) :
    Calls Tryd.prog 61 #[.int .i64 3, .int .u32 (b.toNat : Int), .int .u32 (c.toNat : Int)] w fun e w' => e = .returned (.int .u32 ((b &&& c).toNat : Int)) ∧ Below w.heap.size w w' := by
  have hzv := zvT
  obtain ⟨Z, hZ⟩ : ∃ Z, Z = b &&& c := ⟨_, rfl⟩
  have HZ : Kp (∀ i, i < 32 → Z.getLsbD i = (b.getLsbD i && c.getLsbD i)) := ⟨fun i hi => by rw [hZ]; simp [BitVec.getLsbD_and, BitVec.getLsbD_or, BitVec.getLsbD_xor]⟩
  rw [← hZ]
  clear hZ
  go_enter Tryd.func61, Tryd.ntmps61
  go_wp2_with fail
  refine (ref_row b _).mono ?_
  rintro e w1 ⟨rfl, hb⟩
  have HB1 := Kp.mk hb
  clear hb
  go_wp2_with fail
  refine (ref_row c _).mono ?_
  rintro e w2 ⟨rfl, hb⟩
  have HB2 := Kp.mk (HB1.out.trans (hb.mono HB1.out.size))
  clear hb
  unfold rowV arrT
  have HZ1 := Kp.mk (((RowT.zero w2).mono HB2.out.size).later ((Below.refl _ _).alloc (Nat.le_refl _) (.cells zT 79)))
  have HBA := Kp.mk (HB2.out.alloc HB2.out.size (.cells zT 79))
  have HZ2 : Kp (RowT ((w2.alloc (.cells zT 79)).alloc (.cells zT 79)) 79 w.heap.size (w2.heap.size + 1) (fun _ => false)) := ⟨by
    have h := (RowT.zero (w2.alloc (.cells zT 79))).mono HBA.out.size
    rw [show (w2.alloc (.cells zT 79)).heap.size = w2.heap.size + 1 from Array.size_push _] at h
    exact h⟩
  have HBB := Kp.mk (HBA.out.alloc HBA.out.size (.cells zT 79))
  have HG2 : Kp (w.heap.size ≤ w2.heap.size) := ⟨HB2.out.size⟩
  have HR1 := Kp.mk (HZ1.out.all (fun i => b.getLsbD i))
  have HZ3 := Kp.mk (HZ2.out.other (g' := w2.heap.size) (by omega) (Alu.rowL fun i => b.getLsbD i).toArray)
  have HR2 := Kp.mk (HZ3.out.all (fun i => c.getLsbD i))
  have HR3 := Kp.mk (HR1.out.other (g' := w2.heap.size + 1) (by omega) (Alu.rowL fun i => c.getLsbD i).toArray)
  have HBC := Kp.mk (below_setRow (below_setRow HBB.out HG2.out (Alu.rowL fun i => b.getLsbD i).toArray) (Nat.le_succ_of_le HG2.out) (Alu.rowL fun i => c.getLsbD i).toArray)
  have a1 := (Below.refl ((((w2.alloc (.cells zT 79)).alloc (.cells zT 79)).setRow w2.heap.size (Alu.rowL fun i => b.getLsbD i).toArray).setRow (w2.heap.size + 1) (Alu.rowL fun i => c.getLsbD i).toArray).heap.size _).alloc (Nat.le_refl _) (.cells zT 79)
  have HX := Kp.mk (HR3.out.later a1)
  have HY := Kp.mk (HR2.out.later a1)
  have HF : Kp (RowT (((((w2.alloc (.cells zT 79)).alloc (.cells zT 79)).setRow w2.heap.size (Alu.rowL fun i => b.getLsbD i).toArray).setRow (w2.heap.size + 1) (Alu.rowL fun i => c.getLsbD i).toArray).alloc (.cells zT 79)) 79 w.heap.size (w2.heap.size + 2) (fun _ => false)) := ⟨by
    have h := (RowT.zero ((((w2.alloc (.cells zT 79)).alloc (.cells zT 79)).setRow w2.heap.size (Alu.rowL fun i => b.getLsbD i).toArray).setRow (w2.heap.size + 1) (Alu.rowL fun i => c.getLsbD i).toArray)).mono HBC.out.size
    rw [show ((((w2.alloc (.cells zT 79)).alloc (.cells zT 79)).setRow w2.heap.size (Alu.rowL fun i => b.getLsbD i).toArray).setRow (w2.heap.size + 1) (Alu.rowL fun i => c.getLsbD i).toArray).heap.size = w2.heap.size + 2 by
      rw [setRow_size, setRow_size]; exact (Array.size_push _).trans (congrArg (· + 1) (Array.size_push _))] at h
    exact h⟩
  have HBD := Kp.mk (HBC.out.alloc HBC.out.size (.cells zT 79))
  clear a1
  go_wp2_with (first
    | (refine wpList_store_row rfl 79 _ _ rfl w2.heap.size (Alu.rowL fun i => b.getLsbD i).toArray rfl rfl 79 _ HZ1.out.block (infoT _) (by simp [Alu.rowL_length]) (arrT_one _) ?_)
    | (refine wpList_store_row rfl 79 _ _ rfl (w2.heap.size + 1) (Alu.rowL fun i => c.getLsbD i).toArray rfl rfl 79 _ HZ3.out.block (infoT _) (by simp [Alu.rowL_length]) (arrT_one _) ?_))
  go_loopw [10] (fun i wr => ∃ j : Nat, j ≤ 32 ∧ i = .int .i64 j ∧ Kp (RowT wr 79 w.heap.size w2.heap.size (fun i => b.getLsbD i)) ∧ Kp (RowT wr 79 w.heap.size (w2.heap.size + 1) (fun i => c.getLsbD i)) ∧ Kp (RowT wr 79 w.heap.size (w2.heap.size + 2) (fun i => if i < j then Z.getLsbD i else false)) ∧ Kp (Below w.heap.size w wr)) (fun i _ => 32 - (intOf i).toNat)
  case atStart => exact ⟨0, by omega, rfl, HX, HY, ⟨HF.out.congr (fun i _ => by simp)⟩, HBD⟩
  case round =>
    clear hzv
    obtain ⟨j, hj, rfl, HX, HY, HF, HB⟩ := hrel
    obtain ⟨w5, rfl⟩ : ∃ w5 : World, w5 = wr := ⟨_, rfl⟩
    by_cases hlt : j < 32
    · have hb : decide ((j : Int) < 32) = true := decide_eq_true (by omega)
      have hj0 : (0 : Int) ≤ (j : Int) := by omega
      have hj1 : (j : Int) < 32 := by omega
      have hx1 := HX.out.cell j hlt
      have hy1 := HY.out.cell j hlt
      have hs1 := HF.out.cell j hlt
      have hs2 := HF.out.frozen j
      have HZJ := Kp.mk (HZ.out j hlt)
      obtain ⟨cx, hcx⟩ : ∃ cx, cx = b.getLsbD j := ⟨_, rfl⟩
      obtain ⟨cy, hcy⟩ : ∃ cy, cy = c.getLsbD j := ⟨_, rfl⟩
      rw [← hcx] at hx1 HZJ
      rw [← hcy] at hy1 HZJ
      clear hcx hcy
      cases cx <;> cases cy
      all_goals (
        go_wp2
        go_roundw
        case rel =>
          refine ⟨j + 1, (by omega), (by go_num), ⟨HX.out.otherCell (by omega) _⟩, ⟨HY.out.otherCell (by omega) _⟩, ⟨(HF.out.stored j _).congr (fun i hi => ?_)⟩, ⟨HB.out.setCell (p := ⟨w2.heap.size + 2, j, none⟩) (Nat.le_add_right_of_le HG2.out) _⟩⟩
          by_cases e : i = j
          · subst e; simp [HZJ.out]
          · have : (i < j + 1) ↔ (i < j) := by omega
            simp [e, this]
        case measure => simp [intOf]; omega)
    · have : j = 32 := by omega
      subst this
      have HS1 : Kp (RowT w5 79 w.heap.size (w2.heap.size + 2) (fun i => Z.getLsbD i)) := ⟨HF.out.congr (fun i hi => by simp [hi])⟩
      go_wp2_with (first
        | (refine wpList_load_row rfl 79 _ rfl (w2.heap.size + 2) rfl 79 (Alu.rowL fun i => Z.getLsbD i).toArray (0, 0) _ HS1.out.block Tryd.underlying79 rfl (infoT _) ?_)
        | (refine (ref_number _ Z _ (fun _ _ => rfl)).mono ?_; rintro e w4 ⟨rfl, hb4⟩))
      go_ret
      exact ⟨rfl, HB.out.trans (hb4.mono HB.out.size)⟩
set_option maxRecDepth 100000 in
set_option maxHeartbeats 4000000 in
theorem ref_logic4 (b c : BitVec 32) (w : World) :
    Calls Tryd.prog 61 #[.int .i64 4, .int .u32 (b.toNat : Int), .int .u32 (c.toNat : Int)] w fun e w' => e = .returned (.int .u32 ((b ||| c).toNat : Int)) ∧ Below w.heap.size w w' := by
  have hzv := zvT
  obtain ⟨Z, hZ⟩ : ∃ Z, Z = b ||| c := ⟨_, rfl⟩
  have HZ : Kp (∀ i, i < 32 → Z.getLsbD i = (b.getLsbD i || c.getLsbD i)) := ⟨fun i hi => by rw [hZ]; simp [BitVec.getLsbD_and, BitVec.getLsbD_or, BitVec.getLsbD_xor]⟩
  rw [← hZ]
  clear hZ
  go_enter Tryd.func61, Tryd.ntmps61
  go_wp2_with fail
  refine (ref_row b _).mono ?_
  rintro e w1 ⟨rfl, hb⟩
  have HB1 := Kp.mk hb
  clear hb
  go_wp2_with fail
  refine (ref_row c _).mono ?_
  rintro e w2 ⟨rfl, hb⟩
  have HB2 := Kp.mk (HB1.out.trans (hb.mono HB1.out.size))
  clear hb
  unfold rowV arrT
  have HZ1 := Kp.mk (((RowT.zero w2).mono HB2.out.size).later ((Below.refl _ _).alloc (Nat.le_refl _) (.cells zT 79)))
  have HBA := Kp.mk (HB2.out.alloc HB2.out.size (.cells zT 79))
  have HZ2 : Kp (RowT ((w2.alloc (.cells zT 79)).alloc (.cells zT 79)) 79 w.heap.size (w2.heap.size + 1) (fun _ => false)) := ⟨by
    have h := (RowT.zero (w2.alloc (.cells zT 79))).mono HBA.out.size
    rw [show (w2.alloc (.cells zT 79)).heap.size = w2.heap.size + 1 from Array.size_push _] at h
    exact h⟩
  have HBB := Kp.mk (HBA.out.alloc HBA.out.size (.cells zT 79))
  have HG2 : Kp (w.heap.size ≤ w2.heap.size) := ⟨HB2.out.size⟩
  have HR1 := Kp.mk (HZ1.out.all (fun i => b.getLsbD i))
  have HZ3 := Kp.mk (HZ2.out.other (g' := w2.heap.size) (by omega) (Alu.rowL fun i => b.getLsbD i).toArray)
  have HR2 := Kp.mk (HZ3.out.all (fun i => c.getLsbD i))
  have HR3 := Kp.mk (HR1.out.other (g' := w2.heap.size + 1) (by omega) (Alu.rowL fun i => c.getLsbD i).toArray)
  have HBC := Kp.mk (below_setRow (below_setRow HBB.out HG2.out (Alu.rowL fun i => b.getLsbD i).toArray) (Nat.le_succ_of_le HG2.out) (Alu.rowL fun i => c.getLsbD i).toArray)
  have a1 := (Below.refl ((((w2.alloc (.cells zT 79)).alloc (.cells zT 79)).setRow w2.heap.size (Alu.rowL fun i => b.getLsbD i).toArray).setRow (w2.heap.size + 1) (Alu.rowL fun i => c.getLsbD i).toArray).heap.size _).alloc (Nat.le_refl _) (.cells zT 79)
  have HX := Kp.mk (HR3.out.later a1)
  have HY := Kp.mk (HR2.out.later a1)
  have HF : Kp (RowT (((((w2.alloc (.cells zT 79)).alloc (.cells zT 79)).setRow w2.heap.size (Alu.rowL fun i => b.getLsbD i).toArray).setRow (w2.heap.size + 1) (Alu.rowL fun i => c.getLsbD i).toArray).alloc (.cells zT 79)) 79 w.heap.size (w2.heap.size + 2) (fun _ => false)) := ⟨by
    have h := (RowT.zero ((((w2.alloc (.cells zT 79)).alloc (.cells zT 79)).setRow w2.heap.size (Alu.rowL fun i => b.getLsbD i).toArray).setRow (w2.heap.size + 1) (Alu.rowL fun i => c.getLsbD i).toArray)).mono HBC.out.size
    rw [show ((((w2.alloc (.cells zT 79)).alloc (.cells zT 79)).setRow w2.heap.size (Alu.rowL fun i => b.getLsbD i).toArray).setRow (w2.heap.size + 1) (Alu.rowL fun i => c.getLsbD i).toArray).heap.size = w2.heap.size + 2 by
      rw [setRow_size, setRow_size]; exact (Array.size_push _).trans (congrArg (· + 1) (Array.size_push _))] at h
    exact h⟩
  have HBD := Kp.mk (HBC.out.alloc HBC.out.size (.cells zT 79))
  clear a1
  go_wp2_with (first
    | (refine wpList_store_row rfl 79 _ _ rfl w2.heap.size (Alu.rowL fun i => b.getLsbD i).toArray rfl rfl 79 _ HZ1.out.block (infoT _) (by simp [Alu.rowL_length]) (arrT_one _) ?_)
    | (refine wpList_store_row rfl 79 _ _ rfl (w2.heap.size + 1) (Alu.rowL fun i => c.getLsbD i).toArray rfl rfl 79 _ HZ3.out.block (infoT _) (by simp [Alu.rowL_length]) (arrT_one _) ?_))
  go_loopw [10] (fun i wr => ∃ j : Nat, j ≤ 32 ∧ i = .int .i64 j ∧ Kp (RowT wr 79 w.heap.size w2.heap.size (fun i => b.getLsbD i)) ∧ Kp (RowT wr 79 w.heap.size (w2.heap.size + 1) (fun i => c.getLsbD i)) ∧ Kp (RowT wr 79 w.heap.size (w2.heap.size + 2) (fun i => if i < j then Z.getLsbD i else false)) ∧ Kp (Below w.heap.size w wr)) (fun i _ => 32 - (intOf i).toNat)
  case atStart => exact ⟨0, by omega, rfl, HX, HY, ⟨HF.out.congr (fun i _ => by simp)⟩, HBD⟩
  case round =>
    clear hzv
    obtain ⟨j, hj, rfl, HX, HY, HF, HB⟩ := hrel
    obtain ⟨w5, rfl⟩ : ∃ w5 : World, w5 = wr := ⟨_, rfl⟩
    by_cases hlt : j < 32
    · have hb : decide ((j : Int) < 32) = true := decide_eq_true (by omega)
      have hj0 : (0 : Int) ≤ (j : Int) := by omega
      have hj1 : (j : Int) < 32 := by omega
      have hx1 := HX.out.cell j hlt
      have hy1 := HY.out.cell j hlt
      have hs1 := HF.out.cell j hlt
      have hs2 := HF.out.frozen j
      have HZJ := Kp.mk (HZ.out j hlt)
      obtain ⟨cx, hcx⟩ : ∃ cx, cx = b.getLsbD j := ⟨_, rfl⟩
      obtain ⟨cy, hcy⟩ : ∃ cy, cy = c.getLsbD j := ⟨_, rfl⟩
      rw [← hcx] at hx1 HZJ
      rw [← hcy] at hy1 HZJ
      clear hcx hcy
      cases cx <;> cases cy
      all_goals (
        go_wp2
        go_roundw
        case rel =>
          refine ⟨j + 1, (by omega), (by go_num), ⟨HX.out.otherCell (by omega) _⟩, ⟨HY.out.otherCell (by omega) _⟩, ⟨(HF.out.stored j _).congr (fun i hi => ?_)⟩, ⟨HB.out.setCell (p := ⟨w2.heap.size + 2, j, none⟩) (Nat.le_add_right_of_le HG2.out) _⟩⟩
          by_cases e : i = j
          · subst e; simp [HZJ.out]
          · have : (i < j + 1) ↔ (i < j) := by omega
            simp [e, this]
        case measure => simp [intOf]; omega)
    · have : j = 32 := by omega
      subst this
      have HS1 : Kp (RowT w5 79 w.heap.size (w2.heap.size + 2) (fun i => Z.getLsbD i)) := ⟨HF.out.congr (fun i hi => by simp [hi])⟩
      go_wp2_with (first
        | (refine wpList_load_row rfl 79 _ rfl (w2.heap.size + 2) rfl 79 (Alu.rowL fun i => Z.getLsbD i).toArray (0, 0) _ HS1.out.block Tryd.underlying79 rfl (infoT _) ?_)
        | (refine (ref_number _ Z _ (fun _ _ => rfl)).mono ?_; rintro e w4 ⟨rfl, hb4⟩))
      go_ret
      exact ⟨rfl, HB.out.trans (hb4.mono HB.out.size)⟩
set_option maxRecDepth 100000 in
set_option maxHeartbeats 4000000 in
theorem ref_logic5 (b c : BitVec 32) (w : World) :
    Calls Tryd.prog 61 #[.int .i64 5, .int .u32 (b.toNat : Int), .int .u32 (c.toNat : Int)] w fun e w' => e = .returned (.int .u32 ((b ^^^ c).toNat : Int)) ∧ Below w.heap.size w w' := by
  have hzv := zvT
  obtain ⟨Z, hZ⟩ : ∃ Z, Z = b ^^^ c := ⟨_, rfl⟩
  have HZ : Kp (∀ i, i < 32 → Z.getLsbD i = (b.getLsbD i ^^ c.getLsbD i)) := ⟨fun i hi => by rw [hZ]; simp [BitVec.getLsbD_and, BitVec.getLsbD_or, BitVec.getLsbD_xor]⟩
  rw [← hZ]
  clear hZ
  go_enter Tryd.func61, Tryd.ntmps61
  go_wp2_with fail
  refine (ref_row b _).mono ?_
  rintro e w1 ⟨rfl, hb⟩
  have HB1 := Kp.mk hb
  clear hb
  go_wp2_with fail
  refine (ref_row c _).mono ?_
  rintro e w2 ⟨rfl, hb⟩
  have HB2 := Kp.mk (HB1.out.trans (hb.mono HB1.out.size))
  clear hb
  unfold rowV arrT
  have HZ1 := Kp.mk (((RowT.zero w2).mono HB2.out.size).later ((Below.refl _ _).alloc (Nat.le_refl _) (.cells zT 79)))
  have HBA := Kp.mk (HB2.out.alloc HB2.out.size (.cells zT 79))
  have HZ2 : Kp (RowT ((w2.alloc (.cells zT 79)).alloc (.cells zT 79)) 79 w.heap.size (w2.heap.size + 1) (fun _ => false)) := ⟨by
    have h := (RowT.zero (w2.alloc (.cells zT 79))).mono HBA.out.size
    rw [show (w2.alloc (.cells zT 79)).heap.size = w2.heap.size + 1 from Array.size_push _] at h
    exact h⟩
  have HBB := Kp.mk (HBA.out.alloc HBA.out.size (.cells zT 79))
  have HG2 : Kp (w.heap.size ≤ w2.heap.size) := ⟨HB2.out.size⟩
  have HR1 := Kp.mk (HZ1.out.all (fun i => b.getLsbD i))
  have HZ3 := Kp.mk (HZ2.out.other (g' := w2.heap.size) (by omega) (Alu.rowL fun i => b.getLsbD i).toArray)
  have HR2 := Kp.mk (HZ3.out.all (fun i => c.getLsbD i))
  have HR3 := Kp.mk (HR1.out.other (g' := w2.heap.size + 1) (by omega) (Alu.rowL fun i => c.getLsbD i).toArray)
  have HBC := Kp.mk (below_setRow (below_setRow HBB.out HG2.out (Alu.rowL fun i => b.getLsbD i).toArray) (Nat.le_succ_of_le HG2.out) (Alu.rowL fun i => c.getLsbD i).toArray)
  have a1 := (Below.refl ((((w2.alloc (.cells zT 79)).alloc (.cells zT 79)).setRow w2.heap.size (Alu.rowL fun i => b.getLsbD i).toArray).setRow (w2.heap.size + 1) (Alu.rowL fun i => c.getLsbD i).toArray).heap.size _).alloc (Nat.le_refl _) (.cells zT 79)
  have HX := Kp.mk (HR3.out.later a1)
  have HY := Kp.mk (HR2.out.later a1)
  have HF : Kp (RowT (((((w2.alloc (.cells zT 79)).alloc (.cells zT 79)).setRow w2.heap.size (Alu.rowL fun i => b.getLsbD i).toArray).setRow (w2.heap.size + 1) (Alu.rowL fun i => c.getLsbD i).toArray).alloc (.cells zT 79)) 79 w.heap.size (w2.heap.size + 2) (fun _ => false)) := ⟨by
    have h := (RowT.zero ((((w2.alloc (.cells zT 79)).alloc (.cells zT 79)).setRow w2.heap.size (Alu.rowL fun i => b.getLsbD i).toArray).setRow (w2.heap.size + 1) (Alu.rowL fun i => c.getLsbD i).toArray)).mono HBC.out.size
    rw [show ((((w2.alloc (.cells zT 79)).alloc (.cells zT 79)).setRow w2.heap.size (Alu.rowL fun i => b.getLsbD i).toArray).setRow (w2.heap.size + 1) (Alu.rowL fun i => c.getLsbD i).toArray).heap.size = w2.heap.size + 2 by
      rw [setRow_size, setRow_size]; exact (Array.size_push _).trans (congrArg (· + 1) (Array.size_push _))] at h
    exact h⟩
  have HBD := Kp.mk (HBC.out.alloc HBC.out.size (.cells zT 79))
  clear a1
  go_wp2_with (first
    | (refine wpList_store_row rfl 79 _ _ rfl w2.heap.size (Alu.rowL fun i => b.getLsbD i).toArray rfl rfl 79 _ HZ1.out.block (infoT _) (by simp [Alu.rowL_length]) (arrT_one _) ?_)
    | (refine wpList_store_row rfl 79 _ _ rfl (w2.heap.size + 1) (Alu.rowL fun i => c.getLsbD i).toArray rfl rfl 79 _ HZ3.out.block (infoT _) (by simp [Alu.rowL_length]) (arrT_one _) ?_))
  go_loopw [10] (fun i wr => ∃ j : Nat, j ≤ 32 ∧ i = .int .i64 j ∧ Kp (RowT wr 79 w.heap.size w2.heap.size (fun i => b.getLsbD i)) ∧ Kp (RowT wr 79 w.heap.size (w2.heap.size + 1) (fun i => c.getLsbD i)) ∧ Kp (RowT wr 79 w.heap.size (w2.heap.size + 2) (fun i => if i < j then Z.getLsbD i else false)) ∧ Kp (Below w.heap.size w wr)) (fun i _ => 32 - (intOf i).toNat)
  case atStart => exact ⟨0, by omega, rfl, HX, HY, ⟨HF.out.congr (fun i _ => by simp)⟩, HBD⟩
  case round =>
    clear hzv
    obtain ⟨j, hj, rfl, HX, HY, HF, HB⟩ := hrel
    obtain ⟨w5, rfl⟩ : ∃ w5 : World, w5 = wr := ⟨_, rfl⟩
    by_cases hlt : j < 32
    · have hb : decide ((j : Int) < 32) = true := decide_eq_true (by omega)
      have hj0 : (0 : Int) ≤ (j : Int) := by omega
      have hj1 : (j : Int) < 32 := by omega
      have hx1 := HX.out.cell j hlt
      have hy1 := HY.out.cell j hlt
      have hs1 := HF.out.cell j hlt
      have hs2 := HF.out.frozen j
      have HZJ := Kp.mk (HZ.out j hlt)
      obtain ⟨cx, hcx⟩ : ∃ cx, cx = b.getLsbD j := ⟨_, rfl⟩
      obtain ⟨cy, hcy⟩ : ∃ cy, cy = c.getLsbD j := ⟨_, rfl⟩
      rw [← hcx] at hx1 HZJ
      rw [← hcy] at hy1 HZJ
      clear hcx hcy
      cases cx <;> cases cy
      all_goals (
        go_wp2
        go_region
        all_goals (
          go_wp2
          go_roundw
          case rel =>
            refine ⟨j + 1, (by omega), (by go_num), ⟨(HX.out.later (Drew.once w5).below).otherCell (by omega) _⟩, ⟨(HY.out.later (Drew.once w5).below).otherCell (by omega) _⟩, ⟨((HF.out.later (Drew.once w5).below).stored j _).congr (fun i hi => ?_)⟩, ⟨HB.out.drew.setCell (p := ⟨w2.heap.size + 2, j, none⟩) (Nat.le_add_right_of_le HG2.out) _⟩⟩
            by_cases e : i = j
            · subst e; simp [HZJ.out]
            · have : (i < j + 1) ↔ (i < j) := by omega
              simp [e, this]
          case measure => simp [intOf]; omega))
    · have : j = 32 := by omega
      subst this
      have HS1 : Kp (RowT w5 79 w.heap.size (w2.heap.size + 2) (fun i => Z.getLsbD i)) := ⟨HF.out.congr (fun i hi => by simp [hi])⟩
      go_wp2_with (first
        | (refine wpList_load_row rfl 79 _ rfl (w2.heap.size + 2) rfl 79 (Alu.rowL fun i => Z.getLsbD i).toArray (0, 0) _ HS1.out.block Tryd.underlying79 rfl (infoT _) ?_)
        | (refine (ref_number _ Z _ (fun _ _ => rfl)).mono ?_; rintro e w4 ⟨rfl, hb4⟩))
      go_ret
      exact ⟨rfl, HB.out.trans (hb4.mono HB.out.size)⟩
set_option maxRecDepth 100000 in
theorem ref_divide_no (op : Int) (b c : BitVec 32) (w : World) (hc : c = 0#32) :
    Calls Tryd.prog 63 #[.int .i64 op, .int .u32 (b.toNat : Int), .int .u32 (c.toNat : Int)] w fun e w' => e = .returned (.tuple #[.int .u32 0, .int .i64 20]) ∧ w' = w := by
  have hz : ((c.toNat : Int) == 0) = true := by rw [hc]; rfl
  clear hc
  go_enter Tryd.func63, Tryd.ntmps63
  go_wp2
  go_ret2
  exact ⟨rfl, rfl⟩
theorem div_is (b c : BitVec 32) (w : World) (hc : c ≠ 0#32) :
    Calls Tryd.prog 41 #[.int .u32 0, .int .u32 (b.toNat : Int), .int .u32 (c.toNat : Int)] w fun e w' => e = .returned (.tuple #[.int .u32 ((b / c).toNat : Int), .int .u32 ((b % c).toNat : Int), .int .i64 0]) ∧ Below w.heap.size w w' := by
  have hlt : (0#32 : BitVec 32).toNat < c.toNat := by
    show 0 < c.toNat
    rcases Nat.eq_zero_or_pos c.toNat with e | e
    · exact absurd (BitVec.eq_of_toNat_eq e) hc
    · exact e
  refine (ref_div 0#32 b c w hlt).mono ?_
  rintro e w' ⟨⟨q, r, rfl, h1, h2⟩, hb⟩
  obtain ⟨e1, e2⟩ := Alu.udiv_of h1 h2
  exact ⟨by rw [e1, e2], hb⟩
set_option maxRecDepth 100000 in
theorem ref_divide10 (b c : BitVec 32) (w : World) (hc : c ≠ 0#32) :
    Calls Tryd.prog 63 #[.int .i64 10, .int .u32 (b.toNat : Int), .int .u32 (c.toNat : Int)] w fun e w' => e = .returned (.tuple #[.int .u32 ((b / c).toNat : Int), .int .i64 0]) ∧ Below w.heap.size w w' := by
  have K := Kp.mk (fun w => div_is b c w hc)
  have hz : ((c.toNat : Int) == 0) = false := by
    rw [beq_eq_false_iff_ne]; intro e; exact hc (BitVec.eq_of_toNat_eq (by show c.toNat = 0; omega))
  clear hc
  go_enter Tryd.func63, Tryd.ntmps63
  go_wp2_with fail
  refine (K.out _).mono ?_
  rintro e w1 ⟨rfl, hb⟩
  have B := Kp.mk hb; clear hb
  go_wp2
  go_ret2
  exact ⟨rfl, B.out⟩
set_option maxRecDepth 100000 in
theorem ref_divide12 (b c : BitVec 32) (w : World) (hc : c ≠ 0#32) :
    Calls Tryd.prog 63 #[.int .i64 12, .int .u32 (b.toNat : Int), .int .u32 (c.toNat : Int)] w fun e w' => e = .returned (.tuple #[.int .u32 ((b % c).toNat : Int), .int .i64 0]) ∧ Below w.heap.size w w' := by
  have K := Kp.mk (fun w => div_is b c w hc)
  have hz : ((c.toNat : Int) == 0) = false := by
    rw [beq_eq_false_iff_ne]; intro e; exact hc (BitVec.eq_of_toNat_eq (by show c.toNat = 0; omega))
  clear hc
  go_enter Tryd.func63, Tryd.ntmps63
  go_wp2_with fail
  refine (K.out _).mono ?_
  rintro e w1 ⟨rfl, hb⟩
  have B := Kp.mk hb; clear hb
  go_wp2
  go_ret2
  exact ⟨rfl, B.out⟩
set_option maxRecDepth 100000 in
theorem ref_divide11 (b c : BitVec 32) (w : World) (hc : c ≠ 0#32) :
    Calls Tryd.prog 63 #[.int .i64 11, .int .u32 (b.toNat : Int), .int .u32 (c.toNat : Int)] w fun e w' => e = .returned (.tuple #[.int .u32 ((BitVec.ofInt 32 (b.toInt.tdiv c.toInt)).toNat : Int), .int .i64 0]) ∧ Below w.heap.size w w' := by
  have hs := Alu.sdiv_mag b c
  rw [← Alu.udiv_nat] at hs
  have C := fun w => div_is (Alu.mag b) (Alu.mag c) w (Alu.mag_zero c hc)
  obtain ⟨q, hq⟩ : ∃ q, q = Alu.mag b / Alu.mag c := ⟨_, rfl⟩
  obtain ⟨r, hr⟩ : ∃ r, r = Alu.mag b % Alu.mag c := ⟨_, rfl⟩
  rw [← hq, ← hr] at C
  rw [← hq] at hs
  have KM := Kp.mk (fun w => ref_mag b w)
  have KN := Kp.mk (fun w => ref_mag c w)
  have CM := KM.out
  have CN := KN.out
  clear KM KN
  obtain ⟨mb, hmb⟩ : ∃ mb, mb = Alu.mag b := ⟨_, rfl⟩
  obtain ⟨mc, hmc⟩ : ∃ mc, mc = Alu.mag c := ⟨_, rfl⟩
  rw [← hmb, ← hmc] at C
  rw [← hmb] at CM
  rw [← hmc] at CN
  obtain ⟨z, hz0⟩ : ∃ z, z = BitVec.ofInt 32 (b.toInt.tdiv c.toInt) := ⟨_, rfl⟩
  rw [← hz0] at hs ⊢
  have K := Kp.mk C
  have KM := Kp.mk CM
  have KN := Kp.mk CN
  have HS := Kp.mk hs
  have hz : ((c.toNat : Int) == 0) = false := by
    rw [beq_eq_false_iff_ne]; intro e; exact hc (BitVec.eq_of_toNat_eq (by show c.toNat = 0; omega))
  have SB := Kp.mk (fun w => ref_signed b w)
  have SC := Kp.mk (fun w => ref_signed c w)
  clear hc hs C CM CN hq hr hmb hmc hz0
  obtain ⟨sb, hsb⟩ : ∃ sb, sb = decide (b.toInt < 0) := ⟨_, rfl⟩
  obtain ⟨sc, hsc⟩ : ∃ sc, sc = decide (c.toInt < 0) := ⟨_, rfl⟩
  rw [← hsb, ← hsc] at HS
  have hsb' := hsb.symm
  have hsc' := hsc.symm
  clear hsb hsc
  go_enter Tryd.func63, Tryd.ntmps63
  go_wp2_with fail
  refine (KM.out _).mono ?_
  rintro e w1 ⟨rfl, hb⟩
  have B1 := Kp.mk hb; clear hb
  go_wp2_with fail
  refine (KN.out _).mono ?_
  rintro e w2 ⟨rfl, hb⟩
  have B2 := Kp.mk (B1.out.trans (hb.mono B1.out.size)); clear hb
  go_wp2_with fail
  refine (K.out _).mono ?_
  rintro e w3 ⟨rfl, hb⟩
  have B3 := Kp.mk (B2.out.trans (hb.mono B2.out.size)); clear hb
  go_wp2_with fail
  refine (SB.out _).mono ?_
  rintro e w4 ⟨rfl, hw⟩
  obtain rfl := hw.symm
  clear hw
  go_wp2_with fail
  refine (SC.out _).mono ?_
  rintro e w4 ⟨rfl, hw⟩
  obtain rfl := hw.symm
  clear hw
  cases sb <;> cases sc
  all_goals (
    first
      | (have hsz : z = -q := HS.out
         clear HS
         go_wp2_with fail
         refine (ref_minus q _).mono ?_
         rintro e w5 ⟨rfl, hb⟩
         have B5 := Kp.mk (B3.out.trans (hb.mono B3.out.size)); clear hb
         have HSZ := Kp.mk hsz
         clear hsz
         go_wp2
         go_ret2
         exact ⟨by rw [HSZ.out]; rfl, B5.out⟩)
      | (have hsz : z = q := HS.out
         clear HS
         have HSZ := Kp.mk hsz
         clear hsz
         go_wp2
         go_ret2
         exact ⟨by rw [HSZ.out]; rfl, B3.out⟩))
set_option maxRecDepth 100000 in
theorem ref_divide13 (b c : BitVec 32) (w : World) (hc : c ≠ 0#32) :
    Calls Tryd.prog 63 #[.int .i64 13, .int .u32 (b.toNat : Int), .int .u32 (c.toNat : Int)] w fun e w' => e = .returned (.tuple #[.int .u32 ((BitVec.ofInt 32 (b.toInt.tmod c.toInt)).toNat : Int), .int .i64 0]) ∧ Below w.heap.size w w' := by
  have hs := Alu.smod_mag b c
  rw [← Alu.umod_nat] at hs
  have C := fun w => div_is (Alu.mag b) (Alu.mag c) w (Alu.mag_zero c hc)
  obtain ⟨q, hq⟩ : ∃ q, q = Alu.mag b / Alu.mag c := ⟨_, rfl⟩
  obtain ⟨r, hr⟩ : ∃ r, r = Alu.mag b % Alu.mag c := ⟨_, rfl⟩
  rw [← hq, ← hr] at C
  rw [← hr] at hs
  have KM := Kp.mk (fun w => ref_mag b w)
  have KN := Kp.mk (fun w => ref_mag c w)
  have CM := KM.out
  have CN := KN.out
  clear KM KN
  obtain ⟨mb, hmb⟩ : ∃ mb, mb = Alu.mag b := ⟨_, rfl⟩
  obtain ⟨mc, hmc⟩ : ∃ mc, mc = Alu.mag c := ⟨_, rfl⟩
  rw [← hmb, ← hmc] at C
  rw [← hmb] at CM
  rw [← hmc] at CN
  obtain ⟨z, hz0⟩ : ∃ z, z = BitVec.ofInt 32 (b.toInt.tmod c.toInt) := ⟨_, rfl⟩
  rw [← hz0] at hs ⊢
  have K := Kp.mk C
  have KM := Kp.mk CM
  have KN := Kp.mk CN
  have HS := Kp.mk hs
  have hz : ((c.toNat : Int) == 0) = false := by
    rw [beq_eq_false_iff_ne]; intro e; exact hc (BitVec.eq_of_toNat_eq (by show c.toNat = 0; omega))
  have SB := Kp.mk (fun w => ref_signed b w)
  have SC := Kp.mk (fun w => ref_signed c w)
  clear hc hs C CM CN hq hr hmb hmc hz0
  obtain ⟨sb, hsb⟩ : ∃ sb, sb = decide (b.toInt < 0) := ⟨_, rfl⟩
  obtain ⟨sc, hsc⟩ : ∃ sc, sc = decide (c.toInt < 0) := ⟨_, rfl⟩
  rw [← hsb] at HS
  have hsb' := hsb.symm
  have hsc' := hsc.symm
  clear hsb hsc
  go_enter Tryd.func63, Tryd.ntmps63
  go_wp2_with fail
  refine (KM.out _).mono ?_
  rintro e w1 ⟨rfl, hb⟩
  have B1 := Kp.mk hb; clear hb
  go_wp2_with fail
  refine (KN.out _).mono ?_
  rintro e w2 ⟨rfl, hb⟩
  have B2 := Kp.mk (B1.out.trans (hb.mono B1.out.size)); clear hb
  go_wp2_with fail
  refine (K.out _).mono ?_
  rintro e w3 ⟨rfl, hb⟩
  have B3 := Kp.mk (B2.out.trans (hb.mono B2.out.size)); clear hb
  go_wp2_with fail
  refine (SB.out _).mono ?_
  rintro e w4 ⟨rfl, hw⟩
  obtain rfl := hw.symm
  clear hw
  clear hsc' SC sc
  cases sb
  all_goals (
    first
      | (have hsz : z = -r := HS.out
         clear HS
         go_wp2_with fail
         refine (ref_minus r _).mono ?_
         rintro e w5 ⟨rfl, hb⟩
         have B5 := Kp.mk (B3.out.trans (hb.mono B3.out.size)); clear hb
         have HSZ := Kp.mk hsz
         clear hsz
         go_wp2
         go_ret2
         exact ⟨by rw [HSZ.out]; rfl, B5.out⟩)
      | (have hsz : z = r := HS.out
         clear HS
         have HSZ := Kp.mk hsz
         clear hsz
         go_wp2
         go_ret2
         exact ⟨by rw [HSZ.out]; rfl, B3.out⟩))
end Go.Proofs.YtpihlaeioepbpaaDoor
