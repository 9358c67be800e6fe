
/- The laws' own memory, walked. -/
import Derived.Test.YtadikbmbadldpaaGreatDoorCoreFetch
import Derived.Test.YtadikbmbadldpaaGreatDoorPageKnown
import Derived.Deep.DeepMust
namespace Go.Proofs.YtadikbmbadldpaaGreatDoor
open Go Go.RowKit
set_option linter.unusedVariables false

def codeB : List (BitVec 8) := [16, 16, 0, 5, 35, 16, 0, 64, 64, 0, 0, 3]
/-- The first k bytes laid. -/
def memD (k : Nat) : Nat → BitVec 8 := fun j => if j < k then codeB.getD j 0#8 else 0#8
def memP (k : Nat) : Nat → PageV := upd twoP 0 ⟨5, false, memD k⟩
theorem memP_zero : rowsL (memP 0) 2 = rowsL twoP 2 := by
  refine rowsL_congr _ _ 2 fun i hi => ?_
  unfold memP upd
  split
  · rename_i h
    subst h
    show PageV.row ⟨5, false, memD 0⟩ = PageV.row pg5
    unfold PageV.row
    rw [dataL_congr (memD 0) (fun _ => 0#8) (fun j _ => by simp [memD])]
  · rfl
theorem memP_row (k : Nat) : (memP (k + 1) 0).row = (memP k 0).row.set (k + 2) (.int .u8 ((codeB.getD k 0#8).toNat : Int)) := by
  rw [← row_set_data]
  have : memD (k + 1) = fun i => if i = k then codeB.getD k 0#8 else memD k i := by
    funext j
    unfold memD
    by_cases h : j = k
    · subst h; simp
    · by_cases h2 : j < k
      · rw [if_pos (by omega), if_neg h, if_pos h2]
      · rw [if_neg (by omega), if_neg h, if_neg h2]
  show PageV.row ⟨5, false, memD (k + 1)⟩ = PageV.row ⟨5, false, _⟩
  rw [this]
  rfl
theorem memP_upd (k : Nat) : upd (memP k) 0 (memP (k + 1) 0) = memP (k + 1) := by
  unfold memP
  rw [upd_upd]
  rfl
/-- The memory as it is laid. -/
structure MemI (w wr : World) (B g : Nat) (k : Nat) : Prop where
  own : OwnP wr B (.slice (some ⟨B, 0, none⟩) 2 2) 2 (memP k)
  code : Blk wr g (codeB.map fun c => Value.int .u8 (c.toNat : Int)).toArray 5
  below : Below B w wr
set_option maxRecDepth 100000 in
set_option maxHeartbeats 4000000 in
theorem law_memory (w : World) : Calls Tryz.prog 14 #[] w fun e w' => ∃ v, e = .returned v ∧ OwnP w' w.heap.size v 2 (memP 12) ∧ Below w.heap.size w w' := by
  obtain ⟨w1, e1⟩ : ∃ w1, w1 = w.alloc (.cells (pg5.row ++ pg3.row).toArray 47) := ⟨_, rfl⟩
  obtain ⟨w2, e2⟩ : ∃ w2, w2 = w1.alloc (.cells (codeB.map fun c => Value.int .u8 (c.toNat : Int)).toArray 5) := ⟨_, rfl⟩
  have s1 : w1.heap.size = w.heap.size + 1 := by rw [e1]; simp
  have b2 : Below w1.heap.size w1 w2 := by rw [e2]; exact (Below.refl _ _).alloc (Nat.le_refl _) _
  have b1 : Below w.heap.size w w1 := by rw [e1]; exact (Below.refl _ _).alloc (Nat.le_refl _) _
  have HO : OwnP w1 w.heap.size (.slice (some ⟨w.heap.size, 0, none⟩) 2 2) 2 (memP 0) := by
    have := two_rd w
    unfold OwnP at this ⊢
    rw [memP_zero, e1]
    exact this
  have HI : Kp (MemI w w2 w.heap.size w1.heap.size 0) := ⟨⟨HO.later b2, by rw [e2]; exact heap_alloc_new w1 _, b1.trans (b2.mono (by omega))⟩⟩
  have E1 := Kp.mk e1
  have E2 := Kp.mk e2
  have S1 := Kp.mk s1
  clear HO e1 e2 s1 b1 b2
  go_enter Tryz.func14, Tryz.ntmps14
  go_wp2_with (first
    | (refine build_two rfl _ _ rfl pg5.row pg3.row rfl rfl (PageV.row_length _) (PageV.row_length _) ?_; rw [← E1.out]))
  have E2' : w1.alloc (.cells #[.int .u8 16, .int .u8 16, .int .u8 0, .int .u8 5, .int .u8 35, .int .u8 16, .int .u8 0, .int .u8 64, .int .u8 64, .int .u8 0, .int .u8 0, .int .u8 3] 5) = w2 := E2.out.symm
  rw [E2']
  obtain ⟨g, hg⟩ : ∃ g, g = w1.heap.size := ⟨_, rfl⟩
  obtain ⟨B, hB⟩ : ∃ B, B = w.heap.size := ⟨_, rfl⟩
  rw [← hg, ← hB] at HI ⊢
  have HBq := Kp.mk hB
  have HGB : Kp (g = B + 1) := ⟨by rw [hg, hB, S1.out]⟩
  clear E1 E2 E2' hB hg S1
  go_loopw [11] (fun iv wr => ∃ i : Nat, i ≤ 12 ∧ iv = .int .i64 (i : Int) ∧ Kp (MemI w wr B g i)) (fun iv _ => 12 - (intOf iv).toNat)
  case atStart => exact ⟨0, by omega, rfl, HI⟩
  case round =>
    obtain ⟨i, hi, rfl, HJ⟩ := hrel
    by_cases hlt : i < 12
    · have t1 : decide ((i : Int) < 12) = true := decide_eq_true (by omega)
      have t2 : (i : Int) < 12 := by omega
      have t3 : (0 : Int) ≤ (i : Int) := by omega
      have t4 : (i : Int) < 64 := by omega
      obtain ⟨cb, hcb⟩ : ∃ cb : BitVec 8, cb = codeB.getD i 0#8 := ⟨_, rfl⟩
      have y0 : _ = some (Value.int .u8 (cb.toNat : Int)) := HJ.out.code.cell i (.int .u8 (cb.toNat : Int)) (by
        rw [hcb]
        have : i < codeB.length := hlt
        simp [List.getD_eq_getElem?_getD, this])
      obtain ⟨cd, hcd⟩ : ∃ cd : BitVec 8, cd = memD i i := ⟨_, rfl⟩
      have x0 : wr.cell? ⟨B, 2 + i, none⟩ = some (.int .u8 (cd.toNat : Int)) := by
        have := HJ.out.own.cell 0 (i + 2) (by decide) (by omega)
        rw [PageV.row_data _ i (by omega)] at this
        rw [hcd]
        rw [show 2 + i = 0 * 66 + (i + 2) by omega]
        exact this
      have f0 := HJ.out.own.frozen (2 + i)
      have J2 : Kp (MemI w (wr.setCell ⟨B, 2 + i, none⟩ (.int .u8 (cb.toNat : Int))) B g (i + 1)) := ⟨by
        refine ⟨?_, HJ.out.code.other B (2 + i) _ (by have := HGB.out; omega), HJ.out.below.setCell (p := ⟨B, 2 + i, none⟩) (by rw [HBq.out]; exact Nat.le_refl _) _⟩
        have := HJ.out.own.stored 0 (i + 2) (by decide) (by omega) (memP (i + 1) 0) (.int .u8 (cb.toNat : Int)) (by rw [hcb]; exact memP_row i)
        rw [memP_upd, show 0 * 66 + (i + 2) = 2 + i by omega] at this
        exact this⟩
      clear HJ hcb hcd hi
      go_wp2_with fail
      go_roundw
      case rel => exact ⟨i + 1, by omega, by go_num, J2⟩
      case measure => simp [intOf]; omega
    · have t1 : decide ((i : Int) < 12) = false := decide_eq_false (by omega)
      have h12 : i = 12 := by omega
      subst h12
      go_wp2_with fail
      go_ret
      exact ⟨_, rfl, by rw [← HBq.out]; exact HJ.out.own, by rw [← HBq.out]; exact HJ.out.below⟩
end Go.Proofs.YtadikbmbadldpaaGreatDoor
