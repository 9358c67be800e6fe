/- The document's Sext, Field, Place where they answer: walked. -/
import Derived.Test.YtpihlaeioepbpaaDoorCutsRef
namespace Go.Proofs.YtpihlaeioepbpaaDoor
open Go Go.RowKit
set_option linter.unusedVariables false

set_option maxRecDepth 100000 in
set_option maxHeartbeats 4000000 in
theorem ref_sext (x : BitVec 32) (n : Nat) (w : World) (h1 : 1 ≤ n) (h2 : n ≤ 32) :
    Calls Tryd.prog 32 #[.int .u32 (x.toNat : Int), .int .i64 (n : Int)] w fun e w' => e = .returned (.tuple #[.int .u32 ((Alu.sextOf x n).toNat : Int), .int .i64 0]) ∧ Below w.heap.size w w' := by
  have b1 : decide ((n : Int) < 1) = false := decide_eq_false (by omega)
  have b2 : decide ((32 : Int) < n) = false := decide_eq_false (by omega)
  have hzv := zvT
  go_enter Tryd.func32, Tryd.ntmps32
  go_wp2_with fail
  refine (ref_row x _).mono ?_
  rintro e w1 ⟨rfl, hb⟩
  have HB1 := Kp.mk hb
  clear hb
  unfold rowV arrT
  have HZ := Kp.mk ((RowT.zero w1).mono HB1.out.size)
  have HBZ := Kp.mk (HB1.out.alloc HB1.out.size (.cells zT 79))
  go_wp2_with (refine wpList_store_row rfl 79 _ _ rfl w1.heap.size (Alu.rowL fun i => x.getLsbD i).toArray rfl rfl 79 _ HZ.out.block (infoT _) (by simp [Alu.rowL_length]) (arrT_one _) ?_)
  have HR := Kp.mk (HZ.out.all (fun i => x.getLsbD i))
  have HBR := Kp.mk (below_setRow HBZ.out HB1.out.size (Alu.rowL fun i => x.getLsbD i).toArray)
  go_loopw [7] (fun i wr => ∃ k : Nat, n ≤ k ∧ k ≤ 32 ∧ i = .int .i64 k ∧ Kp (RowT wr 79 w.heap.size w1.heap.size (fun i => if n ≤ i ∧ i < k then x.getLsbD (n - 1) else x.getLsbD i)) ∧ Kp (Below w.heap.size w wr)) (fun i _ => 32 - (intOf i).toNat)
  case atStart => exact ⟨n, Nat.le_refl _, h2, rfl, ⟨HR.out.congr (fun i _ => by rw [if_neg (by omega)])⟩, HBR⟩
  case round =>
    clear hzv
    obtain ⟨k, hnk, hk, rfl, HR2, HB2⟩ := hrel
    by_cases hlt : k < 32
    · have hb : decide ((k : Int) < 32) = true := decide_eq_true (by omega)
      obtain ⟨p, hp⟩ : ∃ p, p = n - 1 := ⟨_, rfl⟩
      have hp1 : (n : Int) - 1 = (p : Int) := by omega
      have hp32 : p < 32 := by omega
      have hpi : (p : Int) < 32 := by omega
      have hp0 : (0 : Int) ≤ (p : Int) := by omega
      have hc1 := HR2.out.cell p hp32
      rw [if_neg (by omega)] at hc1
      obtain ⟨c, hc⟩ : ∃ c, c = x.getLsbD p := ⟨_, rfl⟩
      rw [← hc] at hc1
      have HC : Kp (c = x.getLsbD (n - 1)) := ⟨by rw [hc, hp]⟩
      have hc3 := HR2.out.cell k hlt
      have hf3 := HR2.out.frozen k
      have HN := Kp.mk hnk
      clear hc hp hnk
      go_wp2
      go_roundw
      case rel =>
        refine ⟨k + 1, by have := HN.out; omega, by omega, by go_num, ⟨(HR2.out.stored k c).congr (fun i hi => ?_)⟩, ⟨HB2.out.setCell (p := ⟨w1.heap.size, k, none⟩) HB1.out.size _⟩⟩
        have hn := HN.out
        by_cases e : i = k
        · subst e; simp [HC.out, hn]
        · have : (i < k + 1) ↔ (i < k) := by omega
          simp [e, this]
      case measure => simp [intOf]; omega
    · have : k = 32 := by omega
      subst this
      go_wp2_with (first
        | (refine wpList_load_row rfl 79 _ rfl w1.heap.size rfl 79 (Alu.rowL _).toArray (0, 0) _ HR2.out.block Tryd.underlying79 rfl (infoT _) ?_)
        | (refine (ref_number _ (Alu.sextOf x n) _ ?_).mono ?_; exact (fun i hi => by rw [Alu.sext_bit x n i h1 h2 hi]; simp [hi]); rintro e w3 ⟨rfl, hb3⟩))
      go_ret2
      exact ⟨rfl, HB2.out.trans (hb3.mono HB2.out.size)⟩
set_option maxRecDepth 100000 in
set_option maxHeartbeats 4000000 in
theorem ref_field (x : BitVec 32) (lo n : Nat) (w : World) (h1 : lo ≤ 31) (h2 : 1 ≤ n) (h3 : n + lo ≤ 32) :
    Calls Tryd.prog 33 #[.int .u32 (x.toNat : Int), .int .i64 (lo : Int), .int .i64 (n : Int)] w fun e w' => e = .returned (.tuple #[.int .u32 ((Alu.fieldOf x lo n).toNat : Int), .int .i64 0]) ∧ Below w.heap.size w w' := by
  have hzv := zvT
  go_enter Tryd.func33, Tryd.ntmps33
  go_wp2_with fail
  refine (ref_within lo n _ h1 h2 h3).mono ?_
  rintro e w0 ⟨rfl, hw⟩
  obtain rfl := hw.symm
  clear hw
  go_wp2_with fail
  refine (ref_row x _).mono ?_
  rintro e w1 ⟨rfl, hb⟩
  have HB1 := Kp.mk hb
  clear hb
  unfold rowV arrT
  have HZ := Kp.mk ((RowT.zero w1).mono HB1.out.size)
  have HBZ := Kp.mk (HB1.out.alloc HB1.out.size (.cells zT 79))
  have HR := Kp.mk (HZ.out.all (fun i => x.getLsbD i))
  have HBR := Kp.mk (below_setRow HBZ.out HB1.out.size (Alu.rowL fun i => x.getLsbD i).toArray)
  have HF : Kp (RowT (((w1.alloc (.cells zT 79)).setRow w1.heap.size (Alu.rowL fun i => x.getLsbD i).toArray).alloc (.cells zT 79)) 79 w.heap.size (w1.heap.size + 1) (fun _ => false)) := ⟨by
    have h := (RowT.zero ((w1.alloc (.cells zT 79)).setRow w1.heap.size (Alu.rowL fun i => x.getLsbD i).toArray)).mono HBR.out.size
    rw [show ((w1.alloc (.cells zT 79)).setRow w1.heap.size (Alu.rowL fun i => x.getLsbD i).toArray).heap.size = w1.heap.size + 1 by rw [setRow_size]; exact Array.size_push _] at h
    exact h⟩
  have HR1 := Kp.mk (HR.out.later ((Below.refl _ _).alloc (Nat.le_refl _) (.cells zT 79)))
  have HB2 := Kp.mk (HBR.out.alloc HBR.out.size (.cells zT 79))
  have HGE : Kp (w.heap.size ≤ w1.heap.size + 1) := ⟨Nat.le_succ_of_le HB1.out.size⟩
  go_wp2_with (refine wpList_store_row rfl 79 _ _ rfl w1.heap.size (Alu.rowL fun i => x.getLsbD i).toArray rfl rfl 79 _ HZ.out.block (infoT _) (by simp [Alu.rowL_length]) (arrT_one _) ?_)
  go_loopw [10] (fun i wr => ∃ k : Nat, k ≤ n ∧ i = .int .i64 k ∧ Kp (RowT wr 79 w.heap.size w1.heap.size (fun i => x.getLsbD i)) ∧ Kp (RowT wr 79 w.heap.size (w1.heap.size + 1) (fun i => if i < k then x.getLsbD (lo + i) else false)) ∧ Kp (Below w.heap.size w wr)) (fun i _ => n - (intOf i).toNat)
  case atStart => exact ⟨0, by omega, rfl, HR1, ⟨HF.out.congr (fun i _ => by simp)⟩, HB2⟩
  case round =>
    clear hzv
    obtain ⟨k, hk, rfl, HR2, HF2, HB3⟩ := hrel
    by_cases hlt : k < n
    · have hb : decide ((k : Int) < n) = true := decide_eq_true (by omega)
      have hbn : decide (k < n) = true := decide_eq_true hlt
      obtain ⟨p, hp⟩ : ∃ p, p = lo + k := ⟨_, rfl⟩
      have hp1 : (lo : Int) + (k : Int) = (p : Int) := by omega
      have hp32 : p < 32 := by omega
      have hpi : (p : Int) < 32 := by omega
      have hp0 : (0 : Int) ≤ (p : Int) := by omega
      have hki : (k : Int) < 32 := by omega
      have hc1 := HR2.out.cell p hp32
      obtain ⟨c, hc⟩ : ∃ c, c = x.getLsbD p := ⟨_, rfl⟩
      rw [← hc] at hc1
      have HC : Kp (c = x.getLsbD (lo + k)) := ⟨by rw [hc, hp]⟩
      have hc3 := HF2.out.cell k (by omega)
      have hf3 := HF2.out.frozen k
      clear hc hp
      go_wp2
      go_roundw
      case rel =>
        refine ⟨k + 1, by omega, by go_num, ⟨HR2.out.otherCell (by omega) _⟩, ⟨(HF2.out.stored k c).congr (fun i hi => ?_)⟩, ⟨HB3.out.setCell (p := ⟨(w1.heap.size + 1), k, none⟩) HGE.out _⟩⟩
        by_cases e : i = k
        · subst e; simp [HC.out]
        · have : (i < k + 1) ↔ (i < k) := by omega
          simp [e, this]
      case measure => simp [intOf]; omega
    · have : k = n := by omega
      subst this
      have hb : decide ((k : Int) < k) = false := decide_eq_false (by omega)
      obtain ⟨F, hFF⟩ : ∃ F : Nat → Bool, F = (fun i => if i < k then x.getLsbD (lo + i) else false) := ⟨_, rfl⟩
      rw [← hFF] at HF2
      have HFE : Kp (∀ i, i < 32 → F i = (Alu.fieldOf x lo k).getLsbD i) := ⟨fun i hi => by rw [hFF]; exact Alu.field_row x lo k i hi⟩
      clear hFF
      go_wp2_with (first
        | (refine wpList_load_row rfl 79 _ rfl (w1.heap.size + 1) rfl 79 (Alu.rowL _).toArray (0, 0) _ HF2.out.block Tryd.underlying79 rfl (infoT _) ?_)
        | (refine (ref_number _ (Alu.fieldOf x lo k) _ ?_).mono ?_; exact HFE.out; rintro e w3 ⟨rfl, hb3⟩))
      go_ret2
      exact ⟨rfl, HB3.out.trans (hb3.mono HB3.out.size)⟩
/-- One of two endings. -/
def EitherE (p : Prop) (yes no e : Ending) : Prop := (p → e = yes) ∧ (¬ p → e = no)
set_option maxRecDepth 100000 in
set_option maxHeartbeats 4000000 in
/-- Place, whatever the word that is to be placed. -/
theorem ref_place (x : BitVec 32) (lo n : Nat) (v : BitVec 32) (w : World) (h1 : lo ≤ 31) (h2 : 1 ≤ n) (h3 : n + lo ≤ 32) :
    Calls Tryd.prog 34 #[.int .u32 (x.toNat : Int), .int .i64 (lo : Int), .int .i64 (n : Int), .int .u32 (v.toNat : Int)] w fun e w' => EitherE (v.toNat ≤ (Alu.onesN n).toNat) (.returned (.tuple #[.int .u32 ((Alu.placeOf x lo n v).toNat : Int), .int .i64 0])) (.returned (.tuple #[.int .u32 0, .int .i64 4])) e ∧ Below w.heap.size w w' := by
  have hzv := zvT
  have HLO := Kp.mk (Alu.le_ones v n (by omega))
  go_enter Tryd.func34, Tryd.ntmps34
  go_wp2_with fail
  refine (ref_within lo n _ h1 h2 h3).mono ?_
  rintro e w0 ⟨rfl, hw⟩
  obtain rfl := hw.symm
  clear hw
  go_wp2_with fail
  refine (ref_row x _).mono ?_
  rintro e w1 ⟨rfl, hb⟩
  have HB1 := Kp.mk hb
  clear hb
  go_wp2_with fail
  refine (ref_row v _).mono ?_
  rintro e w2 ⟨rfl, hb⟩
  have HB2 := Kp.mk (HB1.out.trans (hb.mono HB1.out.size))
  clear hb
  unfold rowV arrT
  have HZ1 := Kp.mk (((RowT.zero w2).mono HB2.out.size).later ((Below.refl _ _).alloc (Nat.le_refl _) (.cells zT 79)))
  have HBA := Kp.mk (HB2.out.alloc HB2.out.size (.cells zT 79))
  have HZ2 : Kp (RowT ((w2.alloc (.cells zT 79)).alloc (.cells zT 79)) 79 w.heap.size (w2.heap.size + 1) (fun _ => false)) := ⟨by
    have h := (RowT.zero (w2.alloc (.cells zT 79))).mono HBA.out.size
    rw [show (w2.alloc (.cells zT 79)).heap.size = w2.heap.size + 1 from Array.size_push _] at h
    exact h⟩
  have HBB := Kp.mk (HBA.out.alloc HBA.out.size (.cells zT 79))
  have HG2 : Kp (w.heap.size ≤ w2.heap.size) := ⟨HB2.out.size⟩
  have HR1 := Kp.mk (HZ1.out.all (fun i => x.getLsbD i))
  have HZ3 := Kp.mk (HZ2.out.other (g' := w2.heap.size) (by omega) (Alu.rowL fun i => x.getLsbD i).toArray)
  have HR2 := Kp.mk (HZ3.out.all (fun i => v.getLsbD i))
  have HR3 := Kp.mk (HR1.out.other (g' := w2.heap.size + 1) (by omega) (Alu.rowL fun i => v.getLsbD i).toArray)
  have HBC := Kp.mk (below_setRow (below_setRow HBB.out HG2.out (Alu.rowL fun i => x.getLsbD i).toArray) (Nat.le_succ_of_le HG2.out) (Alu.rowL fun i => v.getLsbD i).toArray)
  go_wp2_with (first
    | (refine wpList_store_row rfl 79 _ _ rfl w2.heap.size (Alu.rowL fun i => x.getLsbD i).toArray rfl rfl 79 _ HZ1.out.block (infoT _) (by simp [Alu.rowL_length]) (arrT_one _) ?_)
    | (refine wpList_store_row rfl 79 _ _ rfl (w2.heap.size + 1) (Alu.rowL fun i => v.getLsbD i).toArray rfl rfl 79 _ HZ3.out.block (infoT _) (by simp [Alu.rowL_length]) (arrT_one _) ?_))
  go_loopw [12] (fun i wr => ∃ k : Nat, k ≤ 32 ∧ i = .int .i64 k ∧ Kp (∀ j, n ≤ j → j < k → v.getLsbD j = false) ∧ Kp (RowT wr 79 w.heap.size w2.heap.size (fun j => if lo ≤ j ∧ j < lo + min k n then v.getLsbD (j - lo) else x.getLsbD j)) ∧ Kp (RowT wr 79 w.heap.size (w2.heap.size + 1) (fun i => v.getLsbD i)) ∧ Kp (Below w.heap.size w wr)) (fun i _ => 32 - (intOf i).toNat)
  case atStart => exact ⟨0, by omega, rfl, ⟨fun j h1 h2 => by omega⟩, ⟨HR3.out.congr (fun j _ => by rw [if_neg (by omega)])⟩, HR2, HBC⟩
  case round =>
    clear hzv
    obtain ⟨k, hk, rfl, HV, HX, HY, HB3⟩ := hrel
    by_cases hlt : k < 32
    · have hb : decide ((k : Int) < 32) = true := decide_eq_true (by omega)
      have hki : (k : Int) < 32 := by omega
      have hcv := HY.out.cell k hlt
      obtain ⟨c, hc⟩ : ∃ c, c = v.getLsbD k := ⟨_, rfl⟩
      rw [← hc] at hcv
      by_cases hkn : k < n
      · have t1 : decide ((n : Int) ≤ (k : Int)) = false := decide_eq_false (by omega)
        have t1' : decide (n ≤ k) = false := decide_eq_false (by omega)
        have t2 : decide ((k : Int) < (n : Int)) = true := decide_eq_true (by omega)
        have t2' : decide (k < n) = true := decide_eq_true (by omega)
        obtain ⟨p, hp⟩ : ∃ p, p = lo + k := ⟨_, rfl⟩
        have hp1 : (lo : Int) + (k : Int) = (p : Int) := by omega
        have hp32 : p < 32 := by omega
        have hpi : (p : Int) < 32 := by omega
        have hp0 : (0 : Int) ≤ (p : Int) := by omega
        have hcx := HX.out.cell p hp32
        have hfx := HX.out.frozen p
        have HX2 := Kp.mk ((HX.out.stored p c).congr (f' := fun j => if lo ≤ j ∧ j < lo + min (k + 1) n then v.getLsbD (j - lo) else x.getLsbD j) (fun j hj => by
          by_cases e : j = p
          · subst e
            rw [if_pos rfl, if_pos (by omega), hc, hp]
            congr 1
            omega
          · rw [if_neg e]
            have : (lo ≤ j ∧ j < lo + min k n) ↔ (lo ≤ j ∧ j < lo + min (k + 1) n) := by omega
            simp only [this]))
        have HK : Kp (∀ j, n ≤ j → j < k + 1 → v.getLsbD j = false) := ⟨fun j h1 h2 => by omega⟩
        clear hc hp hkn
        go_wp2
        go_roundw
        case rel => exact ⟨k + 1, by omega, by go_num, HK, HX2, ⟨HY.out.otherCell (by omega) _⟩, ⟨HB3.out.setCell (p := ⟨w2.heap.size, p, none⟩) HG2.out _⟩⟩
        case measure => simp [intOf]; omega
      · have t1 : decide ((n : Int) ≤ (k : Int)) = true := decide_eq_true (by omega)
        have t1' : decide (n ≤ k) = true := decide_eq_true (by omega)
        have t2 : decide ((k : Int) < (n : Int)) = false := decide_eq_false (by omega)
        have t2' : decide (k < n) = false := decide_eq_false (by omega)
        have HKN : Kp (n ≤ k) := ⟨by omega⟩
        cases c with
        | true =>
          have HNO : Kp (¬ v.toNat ≤ (Alu.onesN n).toNat) := ⟨fun h => by
            have := HLO.out.1 h k HKN.out hlt
            rw [← hc] at this
            cases this⟩
          clear hc hkn
          go_wp2
          go_ret2
          exact ⟨⟨fun h => absurd h HNO.out, fun _ => rfl⟩, HB3.out⟩
        | false =>
          have HK : Kp (∀ j, n ≤ j → j < k + 1 → v.getLsbD j = false) := ⟨fun j h1 h2 => by
            by_cases e : j = k
            · subst e; exact hc.symm
            · exact HV.out j h1 (by omega)⟩
          have HX2 := Kp.mk (HX.out.congr (f' := fun j => if lo ≤ j ∧ j < lo + min (k + 1) n then v.getLsbD (j - lo) else x.getLsbD j) (fun j hj => by
            have : (lo ≤ j ∧ j < lo + min k n) ↔ (lo ≤ j ∧ j < lo + min (k + 1) n) := by have := HKN.out; omega
            simp only [this]))
          clear hc hkn
          go_wp2
          go_roundw
          case rel => exact ⟨k + 1, by omega, by go_num, HK, HX2, HY, HB3⟩
          case measure => simp [intOf]; omega
    · have : k = 32 := by omega
      subst this
      have hall := HV.out
      have HYES : Kp (v.toNat ≤ (Alu.onesN n).toNat) := ⟨HLO.out.2 hall⟩
      obtain ⟨F, hFF⟩ : ∃ F : Nat → Bool, F = (fun j => if lo ≤ j ∧ j < lo + min 32 n then v.getLsbD (j - lo) else x.getLsbD j) := ⟨_, rfl⟩
      rw [← hFF] at HX
      have HFE : Kp (∀ i, i < 32 → F i = (Alu.placeOf x lo n v).getLsbD i) := ⟨fun i hi => by
        rw [hFF, ← Alu.place_row x lo n v h3 hall i hi]
        have : min 32 n = n := by omega
        simp only [this]⟩
      clear hFF hall
      go_wp2_with (first
        | (refine wpList_load_row rfl 79 _ rfl w2.heap.size rfl 79 (Alu.rowL F).toArray (0, 0) _ HX.out.block Tryd.underlying79 rfl (infoT _) ?_)
        | (refine (ref_number F (Alu.placeOf x lo n v) _ HFE.out).mono ?_; rintro e w3 ⟨rfl, hb3⟩))
      go_ret2
      exact ⟨⟨fun _ => rfl, fun h => absurd HYES.out h⟩, HB3.out.trans (hb3.mono HB3.out.size)⟩
end Go.Proofs.YtpihlaeioepbpaaDoor
