/- The document's Rotate: walked. -/
import Derived.Test.YtpihlaeioepbpaaDoorWidesRef4
namespace Go.Proofs.YtpihlaeioepbpaaDoor
open Go Go.RowKit
set_option linter.unusedVariables false

theorem tmod32 (n : Int) : n.tmod 32 = if 0 ≤ n then n % 32 else -((-n) % 32) := by
  by_cases h : 0 ≤ n
  · rw [if_pos h, Int.tmod_eq_emod_of_nonneg h]
  · rw [if_neg h]
    have e : n = -(-n) := by omega
    conv => lhs; rw [e]
    rw [Int.neg_tmod, Int.tmod_eq_emod_of_nonneg (by omega)]
set_option maxRecDepth 100000 in
set_option maxHeartbeats 4000000 in
theorem ref_rotate (x : BitVec 32) (n : Int) (w : World) (h0 : -9223372036854775808 ≤ n) (h1 : n ≤ 9223372036854775807) :
    Calls Tryd.prog 42 #[.int .u32 (x.toNat : Int), .int .i64 n] w fun e w' => e = .returned (.int .u32 ((x.rotateLeft (n % 32).toNat).toNat : Int)) ∧ Below w.heap.size w w' := by
  have hzv := zvT
  obtain ⟨t, ht⟩ : ∃ t, t = n.tmod 32 := ⟨_, rfl⟩
  have hrem : n.tmod 32 = t := ht.symm
  rw [tmod32] at ht
  obtain ⟨m, hm⟩ : ∃ m : Nat, m = (n % 32).toNat := ⟨_, rfl⟩
  have hm32 : m < 32 := by omega
  have hmt : (t < 0 ∧ t + 32 = (m : Int)) ∨ (¬ t < 0 ∧ t = (m : Int)) := by
    by_cases c : 0 ≤ n
    · rw [if_pos c] at ht; omega
    · rw [if_neg c] at ht; omega
  rw [← hm]
  have HM := Kp.mk hm32
  have htl : -32 < t := by
    by_cases c : 0 ≤ n
    · rw [if_pos c] at ht; omega
    · rw [if_neg c] at ht; omega
  clear ht hm
  obtain ⟨b, hb⟩ : ∃ b, b = decide (t < 0) := ⟨_, rfl⟩
  have hbt : decide (t < 0) = b := hb.symm
  rcases hmt with ⟨c1, c2⟩ | ⟨c1, c2⟩
  · have hbb : b = true := by rw [hb]; exact decide_eq_true c1
    subst hbb
    clear hb c1
    go_enter Tryd.func42, Tryd.ntmps42
    go_wp2_with fail
    refine (ref_row x _).mono ?_
    rintro e w1 ⟨rfl, hb⟩
    have HB1 := Kp.mk hb; clear hb
    unfold rowV arrT
    have HL := Kp.mk (row_laid HB1.out (fun i => x.getLsbD i))
    have HF : Kp (RowT (((w1.alloc (.cells zT 79)).setRow w1.heap.size (Alu.rowL fun i => x.getLsbD i).toArray).alloc (.cells zT 79)) 79 w.heap.size (w1.heap.size + 1) (fun _ => false)) := ⟨by
      have h := (RowT.zero ((w1.alloc (.cells zT 79)).setRow w1.heap.size (Alu.rowL fun i => x.getLsbD i).toArray)).mono HL.out.2.size
      rw [show ((w1.alloc (.cells zT 79)).setRow w1.heap.size (Alu.rowL fun i => x.getLsbD i).toArray).heap.size = w1.heap.size + 1 by rw [setRow_size]; exact Array.size_push _] at h
      exact h⟩
    have HR1 := Kp.mk (HL.out.1.later ((Below.refl _ _).alloc (Nat.le_refl _) (.cells zT 79)))
    have HB2 := Kp.mk (HL.out.2.alloc HL.out.2.size (.cells zT 79))
    have HGE : Kp (w.heap.size ≤ w1.heap.size + 1) := ⟨Nat.le_succ_of_le HB1.out.size⟩
    go_wp2_with (refine wpList_store_row rfl 79 _ _ rfl w1.heap.size (Alu.rowL fun i => x.getLsbD i).toArray rfl rfl 79 _ (RowT.zero w1).block (infoT _) (by simp [Alu.rowL_length]) (arrT_one _) ?_)
    go_loopw [7] (fun i wr => ∃ k : Nat, k ≤ 32 ∧ i = .int .i64 k ∧ Kp (RowT wr 79 w.heap.size w1.heap.size (fun i => x.getLsbD i)) ∧ Kp (RowT wr 79 w.heap.size (w1.heap.size + 1) (fun j => if (j + 32 - m) % 32 < k then x.getLsbD ((j + 32 - m) % 32) else false)) ∧ Kp (Below w.heap.size w wr)) (fun i _ => 32 - (intOf i).toNat)
    case atStart => exact ⟨0, by omega, rfl, HR1, ⟨HF.out.congr (fun i _ => by simp)⟩, HB2⟩
    case round =>
      clear hzv
      obtain ⟨k, hk, rfl, HR2, HF2, HB3⟩ := hrel
      by_cases hlt : k < 32
      · have hb : decide ((k : Int) < 32) = true := decide_eq_true (by omega)
        have hki : (k : Int) < 32 := by omega
        obtain ⟨s, hs⟩ : ∃ s, s = k + m := ⟨_, rfl⟩
        obtain ⟨p, hp⟩ : ∃ p, p = s % 32 := ⟨_, rfl⟩
        have hs1 : (k : Int) + (t + 32) = (s : Int) := by omega
        have hs2 : (k : Int) + (m : Int) = (s : Int) := by omega
        have hs3 : (s : Int) ≤ 64 := by have := HM.out; omega
        have hp1 : (s : Int) % 32 = (p : Int) := by omega
        have hp32 : p < 32 := by omega
        have hpi : (p : Int) < 32 := by omega
        have hp0 : (0 : Int) ≤ (p : Int) := by omega
        have hc1 := HR2.out.cell k hlt
        obtain ⟨c, hc⟩ : ∃ c, c = x.getLsbD k := ⟨_, rfl⟩
        rw [← hc] at hc1
        have hc3 := HF2.out.cell p hp32
        have hf3 := HF2.out.frozen p
        have HF4 := Kp.mk ((HF2.out.stored p c).congr (f' := fun j => if (j + 32 - m) % 32 < k + 1 then x.getLsbD ((j + 32 - m) % 32) else false) (fun j hj => by
          have hpl := Alu.turn_place k m j hlt HM.out hj
          by_cases e : j = p
          · have e2 := hpl.1 (by rw [e, hp, hs])
            rw [if_pos e, e2, if_pos (by omega), hc]
          · have e2 : ¬ (j + 32 - m) % 32 = k := fun h => e (by rw [hpl.2 h, hp, hs])
            rw [if_neg e]
            have : ((j + 32 - m) % 32 < k) ↔ ((j + 32 - m) % 32 < k + 1) := by omega
            simp only [this]))
        clear hc hs hp
        go_wp2
        go_roundw
        case rel => exact ⟨k + 1, by omega, by go_num, ⟨HR2.out.otherCell (by omega) _⟩, HF4, ⟨HB3.out.setCell (p := ⟨w1.heap.size + 1, p, none⟩) HGE.out _⟩⟩
        case measure => simp [intOf]; omega
      · have : k = 32 := by omega
        subst this
        obtain ⟨F, hFF⟩ : ∃ F : Nat → Bool, F = (fun j => if (j + 32 - m) % 32 < 32 then x.getLsbD ((j + 32 - m) % 32) else false) := ⟨_, rfl⟩
        rw [← hFF] at HF2
        have HFE : Kp (∀ i, i < 32 → F i = (x.rotateLeft m).getLsbD i) := ⟨fun i hi => by
          rw [hFF, ← Alu.turn_row x m i HM.out hi]
          simp only [show (i + 32 - m) % 32 < 32 by omega, if_true]⟩
        clear hFF
        go_wp2_with (first
          | (refine wpList_load_row rfl 79 _ rfl (w1.heap.size + 1) rfl 79 (Alu.rowL F).toArray (0, 0) _ HF2.out.block Tryd.underlying79 rfl (infoT _) ?_)
          | (refine (ref_number F (x.rotateLeft m) _ HFE.out).mono ?_; rintro e w3 ⟨rfl, hb3⟩))
        go_ret
        exact ⟨rfl, HB3.out.trans (hb3.mono HB3.out.size)⟩
  · have hbb : b = false := by rw [hb]; exact decide_eq_false c1
    subst hbb
    subst c2
    clear hb c1
    go_enter Tryd.func42, Tryd.ntmps42
    go_wp2_with fail
    refine (ref_row x _).mono ?_
    rintro e w1 ⟨rfl, hb⟩
    have HB1 := Kp.mk hb; clear hb
    unfold rowV arrT
    have HL := Kp.mk (row_laid HB1.out (fun i => x.getLsbD i))
    have HF : Kp (RowT (((w1.alloc (.cells zT 79)).setRow w1.heap.size (Alu.rowL fun i => x.getLsbD i).toArray).alloc (.cells zT 79)) 79 w.heap.size (w1.heap.size + 1) (fun _ => false)) := ⟨by
      have h := (RowT.zero ((w1.alloc (.cells zT 79)).setRow w1.heap.size (Alu.rowL fun i => x.getLsbD i).toArray)).mono HL.out.2.size
      rw [show ((w1.alloc (.cells zT 79)).setRow w1.heap.size (Alu.rowL fun i => x.getLsbD i).toArray).heap.size = w1.heap.size + 1 by rw [setRow_size]; exact Array.size_push _] at h
      exact h⟩
    have HR1 := Kp.mk (HL.out.1.later ((Below.refl _ _).alloc (Nat.le_refl _) (.cells zT 79)))
    have HB2 := Kp.mk (HL.out.2.alloc HL.out.2.size (.cells zT 79))
    have HGE : Kp (w.heap.size ≤ w1.heap.size + 1) := ⟨Nat.le_succ_of_le HB1.out.size⟩
    go_wp2_with (refine wpList_store_row rfl 79 _ _ rfl w1.heap.size (Alu.rowL fun i => x.getLsbD i).toArray rfl rfl 79 _ (RowT.zero w1).block (infoT _) (by simp [Alu.rowL_length]) (arrT_one _) ?_)
    go_loopw [7] (fun i wr => ∃ k : Nat, k ≤ 32 ∧ i = .int .i64 k ∧ Kp (RowT wr 79 w.heap.size w1.heap.size (fun i => x.getLsbD i)) ∧ Kp (RowT wr 79 w.heap.size (w1.heap.size + 1) (fun j => if (j + 32 - m) % 32 < k then x.getLsbD ((j + 32 - m) % 32) else false)) ∧ Kp (Below w.heap.size w wr)) (fun i _ => 32 - (intOf i).toNat)
    case atStart => exact ⟨0, by omega, rfl, HR1, ⟨HF.out.congr (fun i _ => by simp)⟩, HB2⟩
    case round =>
      clear hzv
      obtain ⟨k, hk, rfl, HR2, HF2, HB3⟩ := hrel
      by_cases hlt : k < 32
      · have hb : decide ((k : Int) < 32) = true := decide_eq_true (by omega)
        have hki : (k : Int) < 32 := by omega
        obtain ⟨s, hs⟩ : ∃ s, s = k + m := ⟨_, rfl⟩
        obtain ⟨p, hp⟩ : ∃ p, p = s % 32 := ⟨_, rfl⟩
        have hs2 : (k : Int) + (m : Int) = (s : Int) := by omega
        have hs3 : (s : Int) ≤ 64 := by have := HM.out; omega
        have hp1 : (s : Int) % 32 = (p : Int) := by omega
        have hp32 : p < 32 := by omega
        have hpi : (p : Int) < 32 := by omega
        have hp0 : (0 : Int) ≤ (p : Int) := by omega
        have hc1 := HR2.out.cell k hlt
        obtain ⟨c, hc⟩ : ∃ c, c = x.getLsbD k := ⟨_, rfl⟩
        rw [← hc] at hc1
        have hc3 := HF2.out.cell p hp32
        have hf3 := HF2.out.frozen p
        have HF4 := Kp.mk ((HF2.out.stored p c).congr (f' := fun j => if (j + 32 - m) % 32 < k + 1 then x.getLsbD ((j + 32 - m) % 32) else false) (fun j hj => by
          have hpl := Alu.turn_place k m j hlt HM.out hj
          by_cases e : j = p
          · have e2 := hpl.1 (by rw [e, hp, hs])
            rw [if_pos e, e2, if_pos (by omega), hc]
          · have e2 : ¬ (j + 32 - m) % 32 = k := fun h => e (by rw [hpl.2 h, hp, hs])
            rw [if_neg e]
            have : ((j + 32 - m) % 32 < k) ↔ ((j + 32 - m) % 32 < k + 1) := by omega
            simp only [this]))
        clear hc hs hp
        go_wp2
        go_roundw
        case rel => exact ⟨k + 1, by omega, by go_num, ⟨HR2.out.otherCell (by omega) _⟩, HF4, ⟨HB3.out.setCell (p := ⟨w1.heap.size + 1, p, none⟩) HGE.out _⟩⟩
        case measure => simp [intOf]; omega
      · have : k = 32 := by omega
        subst this
        obtain ⟨F, hFF⟩ : ∃ F : Nat → Bool, F = (fun j => if (j + 32 - m) % 32 < 32 then x.getLsbD ((j + 32 - m) % 32) else false) := ⟨_, rfl⟩
        rw [← hFF] at HF2
        have HFE : Kp (∀ i, i < 32 → F i = (x.rotateLeft m).getLsbD i) := ⟨fun i hi => by
          rw [hFF, ← Alu.turn_row x m i HM.out hi]
          simp only [show (i + 32 - m) % 32 < 32 by omega, if_true]⟩
        clear hFF
        go_wp2_with (first
          | (refine wpList_load_row rfl 79 _ rfl (w1.heap.size + 1) rfl 79 (Alu.rowL F).toArray (0, 0) _ HF2.out.block Tryd.underlying79 rfl (infoT _) ?_)
          | (refine (ref_number F (x.rotateLeft m) _ HFE.out).mono ?_; rintro e w3 ⟨rfl, hb3⟩))
        go_ret
        exact ⟨rfl, HB3.out.trans (hb3.mono HB3.out.size)⟩
end Go.Proofs.YtpihlaeioepbpaaDoor
