/- The document's AddCarry, SubBorrow, MulWide, DivWide, Ones, Lead, Rotate: walked. -/
import Derived.Test.YtpihlaeioepbpaaDoorWidesRef
namespace Go.Proofs.YtpihlaeioepbpaaDoor
open Go Go.RowKit
set_option linter.unusedVariables false

/-- A new row, stored whole: what is known behind it. -/
theorem row_laid {w w1 : World} (hb : Below w.heap.size w w1) (f : Nat → Bool) :
    RowT ((w1.alloc (.cells zT 79)).setRow w1.heap.size (Alu.rowL f).toArray) 79 w.heap.size w1.heap.size f ∧ Below w.heap.size w ((w1.alloc (.cells zT 79)).setRow w1.heap.size (Alu.rowL f).toArray) :=
  ⟨((RowT.zero w1).mono hb.size).all f, below_setRow (hb.alloc hb.size _) hb.size _⟩
set_option maxRecDepth 100000 in
set_option maxHeartbeats 4000000 in
theorem ref_turned (f : Nat → Bool) (y : BitVec 32) (w : World) (hf : ∀ i, i < 32 → f i = y.getLsbD i) :
    Calls Tryd.prog 67 #[arrT f] w fun e w' => e = .returned (rowV (~~~y)) ∧ Below w.heap.size w w' := by
  have HF := Kp.mk hf
  have hzv := zvT
  obtain ⟨w1, hw1⟩ : ∃ w1, w1 = w.alloc (.cells (Alu.rowL f).toArray 79) := ⟨_, rfl⟩
  obtain ⟨w2, hw2⟩ : ∃ w2, w2 = w1.alloc (.cells zT 79) := ⟨_, rfl⟩
  obtain ⟨w3, hw3⟩ : ∃ w3, w3 = w2.alloc (.cells zT 79) := ⟨_, rfl⟩
  have s1 : w1.heap.size = w.heap.size + 1 := by rw [hw1]; exact Array.size_push _
  have s2 : w2.heap.size = w.heap.size + 2 := by rw [hw2]; exact (Array.size_push _).trans (by rw [s1])
  have b1 : Below w.heap.size w w1 := by rw [hw1]; exact (Below.refl _ _).alloc (Nat.le_refl _) _
  have b2 : Below w.heap.size w w2 := by rw [hw2]; exact b1.alloc b1.size _
  have b3 : Below w.heap.size w w3 := by rw [hw3]; exact b2.alloc b2.size _
  have c12 : Below w1.heap.size w1 w2 := by rw [hw2]; exact (Below.refl _ _).alloc (Nat.le_refl _) _
  have c23 : Below w2.heap.size w2 w3 := by rw [hw3]; exact (Below.refl _ _).alloc (Nat.le_refl _) _
  have HX : Kp (RowT w3 79 w.heap.size w.heap.size f) := ⟨by
    have h : RowT w1 79 w.heap.size w.heap.size f := by rw [hw1]; exact RowT.new w _ f
    exact (h.later c12).later c23⟩
  have HR : Kp (RowT w3 79 w.heap.size (w.heap.size + 1) (fun _ => false)) := ⟨by
    have h : RowT w2 79 w1.heap.size w1.heap.size (fun _ => false) := by rw [hw2]; exact RowT.zero w1
    have h2 := (h.mono b1.size).later c23
    rwa [s1] at h2⟩
  have HS : Kp (RowT w3 79 w.heap.size (w.heap.size + 2) (fun _ => false)) := ⟨by
    have h : RowT w3 79 w2.heap.size w2.heap.size (fun _ => false) := by rw [hw3]; exact RowT.zero w2
    have h2 := h.mono b2.size
    rwa [s2] at h2⟩
  have HB := Kp.mk b3
  have HW : Kp (w3 = ((w.alloc (.cells (Alu.rowL f).toArray 79)).alloc (.cells zT 79)).alloc (.cells zT 79)) := ⟨by rw [hw3, hw2, hw1]⟩
  clear hw1 hw2 hw3 s1 s2 b1 b2 b3 c12 c23 hf
  obtain ⟨Z, hZ⟩ : ∃ Z, Z = ~~~y := ⟨_, rfl⟩
  have HZ : Kp (∀ i, i < 32 → Z.getLsbD i = !(y.getLsbD i)) := ⟨fun i hi => by rw [hZ, BitVec.getLsbD_not]; simp [hi]⟩
  rw [← hZ]
  clear hZ
  unfold arrT
  go_enter Tryd.func67, Tryd.ntmps67
  go_wp2
  rw [← HW.out]
  go_loopw [4] (fun i wr => ∃ j : Nat, j ≤ 32 ∧ i = .int .i64 j ∧ Kp (RowT wr 79 w.heap.size w.heap.size f) ∧ Kp (RowT wr 79 w.heap.size (w.heap.size + 1) (fun _ => false)) ∧ Kp (RowT wr 79 w.heap.size (w.heap.size + 2) (fun i => if i < j then Z.getLsbD i else false)) ∧ Kp (Below w.heap.size w wr)) (fun i _ => 32 - (intOf i).toNat)
  case atStart => exact ⟨0, by omega, rfl, HX, HR, ⟨HS.out.congr (fun i _ => by simp)⟩, HB⟩
  case round =>
    clear hzv
    obtain ⟨j, hj, rfl, HX, HR, HS, HB⟩ := hrel
    by_cases hlt : j < 32
    · have hb : decide ((j : Int) < 32) = true := decide_eq_true (by omega)
      have hx1 := HX.out.cell j hlt
      obtain ⟨c, hc⟩ : ∃ c, c = f j := ⟨_, rfl⟩
      rw [← hc] at hx1
      have hs1 := HS.out.cell j hlt
      have hs2 := HS.out.frozen j
      have HC : Kp (Z.getLsbD j = !c) := ⟨by rw [HZ.out j hlt, hc, HF.out j hlt]⟩
      clear hc
      go_wp2
      go_roundw
      case rel =>
        refine ⟨j + 1, by omega, by go_num, ⟨HX.out.otherCell (by omega) _⟩, ⟨HR.out.otherCell (by omega) _⟩, ⟨(HS.out.stored j (!c)).congr (fun i hi => ?_)⟩, ⟨HB.out.setCell (p := ⟨w.heap.size + 2, j, none⟩) (Nat.le_add_right _ _) _⟩⟩
        by_cases e : i = j
        · subst e; simp [HC.out]
        · have : (i < j + 1) ↔ (i < j) := by omega
          simp [e, this]
      case measure => simp [intOf]; omega
    · have : j = 32 := by omega
      subst this
      have HS1 : Kp (RowT wr 79 w.heap.size (w.heap.size + 2) (fun i => Z.getLsbD i)) := ⟨HS.out.congr (fun i hi => by simp [hi])⟩
      go_wp2_with (first
        | (refine wpList_load_row rfl 79 _ rfl (w.heap.size + 2) rfl 79 (Alu.rowL fun i => Z.getLsbD i).toArray (0, 0) _ HS1.out.block Tryd.underlying79 rfl (infoT _) ?_)
        | (refine wpList_store_row rfl 79 _ _ rfl (w.heap.size + 1) (Alu.rowL fun i => Z.getLsbD i).toArray rfl rfl 79 _ HR.out.block (infoT _) (by simp [Alu.rowL_length]) (arrT_one _) ?_))
      refine bodyPost_ret (results_cell_row (p := 2) (ty := 79) rfl _ _ (w.heap.size + 1) 79 (Alu.rowL fun i => Z.getLsbD i).toArray (0, 0) _ rfl (HR.out.all _).block Tryd.underlying79 rfl (infoT _)) rfl ?_
      exact ⟨rfl, below_setRow HB.out (Nat.le_add_right _ _) _⟩
set_option maxRecDepth 100000 in
set_option maxHeartbeats 4000000 in
theorem ref_addc (b c : BitVec 32) (k : Bool) (w : World) :
    Calls Tryd.prog 37 #[.int .u32 (b.toNat : Int), .int .u32 (c.toNat : Int), .bool k] w fun e w' => e = .returned (.tuple #[.int .u32 ((Alu.adc b c k).1.toNat : Int), .bool (Alu.adc b c k).2]) ∧ Below w.heap.size w w' := by
  have hzv := zvT
  have C := fun w => ref_add (fun i => b.getLsbD i) (fun i => c.getLsbD i) b c k w (fun _ _ => rfl) (fun _ _ => rfl)
  obtain ⟨Z, hZ⟩ : ∃ Z, Z = (Alu.adc b c k).1 := ⟨_, rfl⟩
  obtain ⟨o, ho⟩ : ∃ o, o = (Alu.adc b c k).2 := ⟨_, rfl⟩
  rw [← hZ, ← ho] at C ⊢
  have K := Kp.mk C
  clear C hZ ho
  go_enter Tryd.func37, Tryd.ntmps37
  go_wp2_with fail
  refine (ref_row b _).mono ?_
  rintro e w1 ⟨rfl, hb⟩
  have HB1 := Kp.mk hb; clear hb
  go_wp2_with fail
  refine (ref_row c _).mono ?_
  rintro e w2 ⟨rfl, hb⟩
  have HB2 := Kp.mk (HB1.out.trans (hb.mono HB1.out.size)); clear hb
  go_wp2_with fail
  refine (K.out _).mono ?_
  rintro e w3 ⟨rfl, hb⟩
  have HB3 := Kp.mk (HB2.out.trans (hb.mono HB2.out.size)); clear hb
  unfold rowV arrT
  have HL := Kp.mk (row_laid HB3.out (fun i => Z.getLsbD i))
  go_wp2_with (first
    | (refine wpList_store_row rfl 79 _ _ rfl w3.heap.size (Alu.rowL fun i => Z.getLsbD i).toArray rfl rfl 79 _ (RowT.zero w3).block (infoT _) (by simp [Alu.rowL_length]) (arrT_one _) ?_)
    | (refine wpList_load_row rfl 79 _ rfl w3.heap.size rfl 79 (Alu.rowL fun i => Z.getLsbD i).toArray (0, 0) _ HL.out.1.block Tryd.underlying79 rfl (infoT _) ?_)
    | (refine (ref_number _ Z _ (fun _ _ => rfl)).mono ?_; rintro e w4 ⟨rfl, hb4⟩))
  go_ret2
  exact ⟨rfl, HL.out.2.trans (hb4.mono HL.out.2.size)⟩
set_option maxRecDepth 100000 in
set_option maxHeartbeats 4000000 in
theorem ref_subb (b c : BitVec 32) (k : Bool) (w : World) :
    Calls Tryd.prog 39 #[.int .u32 (b.toNat : Int), .int .u32 (c.toNat : Int), .bool k] w fun e w' => e = .returned (.tuple #[.int .u32 ((Alu.adc b (~~~c) (!k)).1.toNat : Int), .bool (!(Alu.adc b (~~~c) (!k)).2)]) ∧ Below w.heap.size w w' := by
  have hzv := zvT
  have C := fun w => ref_add (fun i => b.getLsbD i) (fun i => (~~~c).getLsbD i) b (~~~c) (!k) w (fun _ _ => rfl) (fun _ _ => rfl)
  have CT := fun w => ref_turned (fun i => c.getLsbD i) c w (fun _ _ => rfl)
  unfold rowV at C CT
  obtain ⟨N, hN⟩ : ∃ N, N = ~~~c := ⟨_, rfl⟩
  rw [← hN] at C CT ⊢
  obtain ⟨Z, hZ⟩ : ∃ Z, Z = (Alu.adc b N (!k)).1 := ⟨_, rfl⟩
  obtain ⟨o, ho⟩ : ∃ o, o = (Alu.adc b N (!k)).2 := ⟨_, rfl⟩
  rw [← hZ, ← ho] at C ⊢
  have K := Kp.mk C
  have KT := Kp.mk CT
  clear C CT hZ ho hN
  go_enter Tryd.func39, Tryd.ntmps39
  go_wp2_with fail
  refine (ref_row b _).mono ?_
  rintro e w1 ⟨rfl, hb⟩
  have HB1 := Kp.mk hb; clear hb
  go_wp2_with fail
  refine (ref_row c _).mono ?_
  rintro e w2 ⟨rfl, hb⟩
  have HB2 := Kp.mk (HB1.out.trans (hb.mono HB1.out.size)); clear hb
  go_wp2_with fail
  refine (KT.out _).mono ?_
  rintro e w2' ⟨rfl, hb⟩
  have HB2' := Kp.mk (HB2.out.trans (hb.mono HB2.out.size)); clear hb
  go_wp2_with fail
  refine (K.out _).mono ?_
  rintro e w3 ⟨rfl, hb⟩
  have HB3 := Kp.mk (HB2'.out.trans (hb.mono HB2'.out.size)); clear hb
  unfold arrT
  have HL := Kp.mk (row_laid HB3.out (fun i => Z.getLsbD i))
  go_wp2_with (first
    | (refine wpList_store_row rfl 79 _ _ rfl w3.heap.size (Alu.rowL fun i => Z.getLsbD i).toArray rfl rfl 79 _ (RowT.zero w3).block (infoT _) (by simp [Alu.rowL_length]) (arrT_one _) ?_)
    | (refine wpList_load_row rfl 79 _ rfl w3.heap.size rfl 79 (Alu.rowL fun i => Z.getLsbD i).toArray (0, 0) _ HL.out.1.block Tryd.underlying79 rfl (infoT _) ?_)
    | (refine (ref_number _ Z _ (fun _ _ => rfl)).mono ?_; rintro e w4 ⟨rfl, hb4⟩))
  go_ret2
  exact ⟨rfl, HL.out.2.trans (hb4.mono HL.out.2.size)⟩
end Go.Proofs.YtpihlaeioepbpaaDoor
