/- The document's MulWide, DivWide, Ones, Lead, Rotate: walked. -/
import Derived.Test.YtpihlaeioepbpaaDoorWidesRef2
namespace Go.Proofs.YtpihlaeioepbpaaDoor
open Go Go.RowKit
set_option linter.unusedVariables false

set_option maxRecDepth 100000 in
set_option maxHeartbeats 4000000 in
theorem ref_mul (b c : BitVec 32) (w : World) :
    Calls Tryd.prog 40 #[.int .u32 (b.toNat : Int), .int .u32 (c.toNat : Int)] w fun e w' => (∃ h l : BitVec 32, e = .returned (.tuple #[.int .u32 (h.toNat : Int), .int .u32 (l.toNat : Int)]) ∧ h.toNat * 4294967296 + l.toNat = b.toNat * c.toNat) ∧ Below w.heap.size w w' := by
  have hzv := zvT
  go_enter Tryd.func40, Tryd.ntmps40
  go_wp2_with fail
  refine (ref_row b _).mono ?_
  rintro e w1 ⟨rfl, hb⟩
  have HB1 := Kp.mk hb; clear hb
  unfold rowV arrT
  have HL := Kp.mk (row_laid HB1.out (fun i => b.getLsbD i))
  go_wp2_with (refine wpList_store_row rfl 79 _ _ rfl w1.heap.size (Alu.rowL fun i => b.getLsbD i).toArray rfl rfl 79 _ (RowT.zero w1).block (infoT _) (by simp [Alu.rowL_length]) (arrT_one _) ?_)
  go_loopw [7, 8, 9] (fun x7 x8 x9 wr => ∃ (j : Nat) (hi lo : BitVec 32), j ≤ 32 ∧ x9 = .int .i64 ((j : Int) - 1) ∧ x7 = .int .u32 (hi.toNat : Int) ∧ x8 = .int .u32 (lo.toNat : Int) ∧ Kp (hi.toNat * 4294967296 + lo.toNat = b.toNat / 2 ^ j * c.toNat) ∧ Kp (RowT wr 79 w.heap.size w1.heap.size (fun i => b.getLsbD i)) ∧ Kp (Below w.heap.size w wr)) (fun _ _ x9 _ => (intOf x9 + 1).toNat)
  case atStart => exact ⟨32, 0#32, 0#32, by omega, by go_num, rfl, rfl, ⟨by rw [Alu.top_zero, Nat.zero_mul]; rfl⟩, ⟨HL.out.1⟩, ⟨HL.out.2⟩⟩
  case round =>
    clear hzv
    obtain ⟨j, hi, lo, hj, rfl, rfl, rfl, HP, HR, HB⟩ := hrel
    by_cases h0 : j = 0
    · subst h0
      have hb0 : decide ((0 : Int) ≤ ((0 : Nat) : Int) - 1) = false := by decide
      go_wp2
      go_ret2
      exact ⟨⟨hi, lo, rfl, by have := HP.out; simpa using this⟩, HB.out⟩
    · obtain ⟨q, rfl⟩ : ∃ q, j = q + 1 := ⟨j - 1, by omega⟩
      have eq1 : ((q + 1 : Nat) : Int) - 1 = (q : Int) := by omega
      rw [eq1]
      have hb0 : decide ((0 : Int) ≤ (q : Int)) = true := decide_eq_true (by omega)
      have hq0 : (0 : Int) ≤ (q : Int) := by omega
      have hqi : (q : Int) < 32 := by omega
      have hq32 : q < 32 := by omega
      have HQ := Kp.mk hq32
      have hmt := Alu.mul_top b c.toNat q
      have hml := Alu.mul_lt b c q
      obtain ⟨d, hd⟩ : ∃ d, d = b.getLsbD q := ⟨_, rfl⟩
      rw [← hd, ← HP.out] at hmt
      have HMT := Kp.mk hmt
      have HML := Kp.mk hml
      have HDD := Kp.mk hd
      clear h0 eq1 hmt hml hd
      go_wp2_with fail
      refine (ref_addc lo lo false _).mono ?_
      rintro e w2 ⟨rfl, hb⟩
      have HR2 := Kp.mk (HR.out.later hb)
      have HB2 := Kp.mk (HB.out.trans (hb.mono HB.out.size)); clear hb
      have n1 := Alu.adc_nat lo lo false
      obtain ⟨l1, hl1⟩ : ∃ l1, l1 = (Alu.adc lo lo false).1 := ⟨_, rfl⟩
      obtain ⟨o1, ho1⟩ : ∃ o1, o1 = (Alu.adc lo lo false).2 := ⟨_, rfl⟩
      rw [← hl1, ← ho1] at n1 ⊢
      have N1 := Kp.mk n1
      clear hl1 ho1 n1
      go_wp2_with fail
      refine (ref_addc hi hi o1 _).mono ?_
      rintro e w3 ⟨rfl, hb⟩
      have HR3 := Kp.mk (HR2.out.later hb)
      have HB3 := Kp.mk (HB2.out.trans (hb.mono HB2.out.size)); clear hb
      have n2 := Alu.adc_nat hi hi o1
      obtain ⟨h1, hh1⟩ : ∃ h1, h1 = (Alu.adc hi hi o1).1 := ⟨_, rfl⟩
      obtain ⟨o2, ho2⟩ : ∃ o2, o2 = (Alu.adc hi hi o1).2 := ⟨_, rfl⟩
      rw [← hh1, ← ho2] at n2 ⊢
      have N2 := Kp.mk n2
      clear hh1 ho2 n2
      have hcell := HR3.out.cell q hq32
      rw [← HDD.out] at hcell
      cases d with
      | false =>
        have HN : Kp (h1.toNat * 4294967296 + l1.toNat = b.toNat / 2 ^ q * c.toNat) := ⟨by
          have a1 := HMT.out; have a2 := HML.out; have a3 := N1.out; have a4 := N2.out
          have a5 := h1.isLt; have a6 := l1.isLt; have a7 := Alu.cn_le o1; have a8 := Alu.cn_le o2
          simp only [Bool.false_eq_true, if_false] at a1
          have a9 : Alu.cn false = 0 := rfl
          rw [a9] at a3
          generalize Alu.cn o1 = u1 at *
          generalize Alu.cn o2 = u2 at *
          omega⟩
        go_wp2
        go_roundw
        case rel => exact ⟨q, h1, l1, by have := HQ.out; omega, by go_num, rfl, rfl, HN, HR3, HB3⟩
        case measure => simp [intOf] <;> omega
      | true =>
        go_wp2_with fail
        refine (ref_addc l1 c false _).mono ?_
        rintro e w4 ⟨rfl, hb⟩
        have HR4 := Kp.mk (HR3.out.later hb)
        have HB4 := Kp.mk (HB3.out.trans (hb.mono HB3.out.size)); clear hb
        have n3 := Alu.adc_nat l1 c false
        obtain ⟨l2, hl2⟩ : ∃ l2, l2 = (Alu.adc l1 c false).1 := ⟨_, rfl⟩
        obtain ⟨o3, ho3⟩ : ∃ o3, o3 = (Alu.adc l1 c false).2 := ⟨_, rfl⟩
        rw [← hl2, ← ho3] at n3 ⊢
        have N3 := Kp.mk n3
        clear hl2 ho3 n3
        go_wp2_with fail
        refine (ref_addc h1 0#32 o3 _).mono ?_
        rintro e w5 ⟨rfl, hb⟩
        have HR5 := Kp.mk (HR4.out.later hb)
        have HB5 := Kp.mk (HB4.out.trans (hb.mono HB4.out.size)); clear hb
        have n4 := Alu.adc_nat h1 0#32 o3
        obtain ⟨h2, hh2⟩ : ∃ h2, h2 = (Alu.adc h1 0#32 o3).1 := ⟨_, rfl⟩
        obtain ⟨o4, ho4⟩ : ∃ o4, o4 = (Alu.adc h1 0#32 o3).2 := ⟨_, rfl⟩
        rw [← hh2, ← ho4] at n4 ⊢
        have HN : Kp (h2.toNat * 4294967296 + l2.toNat = b.toNat / 2 ^ q * c.toNat) := ⟨by
          have a1 := HMT.out; have a2 := HML.out; have a3 := N1.out; have a4 := N2.out; have b3 := N3.out
          have a5 := h1.isLt; have a6 := l1.isLt; have a7 := Alu.cn_le o1; have a8 := Alu.cn_le o2
          have b5 := h2.isLt; have b6 := l2.isLt; have b7 := Alu.cn_le o3; have b8 := Alu.cn_le o4
          simp only [if_true] at a1
          have a9 : Alu.cn false = 0 := rfl
          have a10 : (0#32 : BitVec 32).toNat = 0 := rfl
          rw [a9] at a3 b3
          rw [a10] at n4
          generalize Alu.cn o1 = u1 at *
          generalize Alu.cn o2 = u2 at *
          generalize Alu.cn o3 = u3 at *
          generalize Alu.cn o4 = u4 at *
          omega⟩
        clear hh2 ho4 n4
        go_wp2
        go_roundw
        case rel => exact ⟨q, h2, l2, by have := HQ.out; omega, by go_num, rfl, rfl, HN, HR5, HB5⟩
        case measure => simp [intOf] <;> omega
set_option maxRecDepth 100000 in
set_option maxHeartbeats 4000000 in
theorem ref_ones (x : BitVec 32) (w : World) :
    Calls Tryd.prog 43 #[.int .u32 (x.toNat : Int)] w fun e w' => e = .returned (.int .i64 (Alu.ones x : Int)) ∧ Below w.heap.size w w' := by
  have hzv := zvT
  go_enter Tryd.func43, Tryd.ntmps43
  go_wp2_with fail
  refine (ref_row x _).mono ?_
  rintro e w1 ⟨rfl, hb⟩
  have HB1 := Kp.mk hb; clear hb
  unfold rowV arrT
  have HL := Kp.mk (row_laid HB1.out (fun i => x.getLsbD i))
  go_wp2_with (refine wpList_store_row rfl 79 _ _ rfl w1.heap.size (Alu.rowL fun i => x.getLsbD i).toArray rfl rfl 79 _ (RowT.zero w1).block (infoT _) (by simp [Alu.rowL_length]) (arrT_one _) ?_)
  go_loop [4, 5] (fun n i => ∃ k m : Nat, k ≤ 32 ∧ i = .int .i64 k ∧ n = .int .i64 m ∧ Kp (m = Alu.cnt (fun i => x.getLsbD i) k) ∧ m ≤ k) (fun _ i => 32 - (intOf i).toNat)
  case atStart => exact ⟨0, 0, by omega, rfl, rfl, ⟨rfl⟩, by omega⟩
  case round =>
    clear hzv
    obtain ⟨k, m, hk, rfl, rfl, HM, hmk⟩ := hrel
    by_cases hlt : k < 32
    · have hb : decide ((k : Int) < 32) = true := decide_eq_true (by omega)
      have hcell := HL.out.1.cell k hlt
      have hki : (k : Int) < 32 := by omega
      have hmi : (m : Int) ≤ 32 := by omega
      cases hd : x.getLsbD k with
      | false =>
        rw [hd] at hcell
        have HN : Kp (m = Alu.cnt (fun i => x.getLsbD i) (k + 1)) := ⟨by rw [Alu.cnt, hd, HM.out]; rfl⟩
        clear hd
        go_wp2
        go_round
        case rel => exact ⟨k + 1, m, by omega, by go_num, rfl, HN, by omega⟩
        case measure => simp [intOf]; omega
      | true =>
        rw [hd] at hcell
        have HN : Kp (m + 1 = Alu.cnt (fun i => x.getLsbD i) (k + 1)) := ⟨by rw [Alu.cnt, hd, HM.out]; rfl⟩
        clear hd
        go_wp2
        go_round
        case rel => exact ⟨k + 1, m + 1, by omega, by go_num, by go_num, HN, by omega⟩
        case measure => simp [intOf]; omega
    · have : k = 32 := by omega
      subst this
      go_wp2
      go_ret
      exact ⟨ret_int (by rw [HM.out]; rfl), HL.out.2⟩
set_option maxRecDepth 100000 in
set_option maxHeartbeats 4000000 in
theorem ref_lead (x : BitVec 32) (w : World) :
    Calls Tryd.prog 44 #[.int .u32 (x.toNat : Int)] w fun e w' => e = .returned (.int .i64 (32 - (Lib.bitLen x.toNat : Int))) ∧ Below w.heap.size w w' := by
  have hzv := zvT
  have HLN := Kp.mk (Alu.lead_none x)
  obtain ⟨z, hz⟩ : ∃ z : Int, z = 32 - (Lib.bitLen x.toNat : Int) := ⟨_, rfl⟩
  rw [← hz] at HLN ⊢
  clear hz
  go_enter Tryd.func44, Tryd.ntmps44
  go_wp2_with fail
  refine (ref_row x _).mono ?_
  rintro e w1 ⟨rfl, hb⟩
  have HB1 := Kp.mk hb; clear hb
  unfold rowV arrT
  have HL := Kp.mk (row_laid HB1.out (fun i => x.getLsbD i))
  go_wp2_with (refine wpList_store_row rfl 79 _ _ rfl w1.heap.size (Alu.rowL fun i => x.getLsbD i).toArray rfl rfl 79 _ (RowT.zero w1).block (infoT _) (by simp [Alu.rowL_length]) (arrT_one _) ?_)
  go_loop [4] (fun i => ∃ k : Nat, k ≤ 32 ∧ i = .int .i64 k ∧ Kp (∀ i, i < k → x.getLsbD (31 - i) = false)) (fun i => 32 - (intOf i).toNat)
  case atStart => exact ⟨0, by omega, rfl, ⟨fun i hi => by omega⟩⟩
  case round =>
    clear hzv
    obtain ⟨k, hk, rfl, HM⟩ := hrel
    by_cases hlt : k < 32
    · have hb : decide ((k : Int) < 32) = true := decide_eq_true (by omega)
      have hki : (k : Int) < 32 := by omega
      obtain ⟨p, hp⟩ : ∃ p, p = 31 - k := ⟨_, rfl⟩
      have hp1 : (31 : Int) - (k : Int) = (p : Int) := by omega
      have hp0 : (0 : Int) ≤ (p : Int) := by omega
      have hp2 : (p : Int) < 32 := by omega
      have hcell := HL.out.1.cell p (by omega)
      cases hd : x.getLsbD p with
      | false =>
        rw [hd] at hcell
        have HN : Kp (∀ i, i < k + 1 → x.getLsbD (31 - i) = false) := ⟨fun i hi => by
          by_cases e : i = k
          · subst e; rw [← hp]; exact hd
          · exact HM.out i (by omega)⟩
        clear hd hp
        go_wp2
        go_round
        case rel => exact ⟨k + 1, by omega, by go_num, HN⟩
        case measure => simp [intOf]; omega
      | true =>
        rw [hd] at hcell
        have HZ : Kp (z = (k : Int)) := ⟨HLN.out k hk HM.out (fun _ => by rw [← hp]; exact hd)⟩
        clear hd hp
        go_wp2
        go_ret
        exact ⟨ret_int HZ.out.symm, HL.out.2⟩
    · have : k = 32 := by omega
      subst this
      have HZ : Kp (z = ((32 : Nat) : Int)) := ⟨HLN.out 32 hk HM.out (fun h => by omega)⟩
      go_wp2
      go_ret
      exact ⟨ret_int HZ.out.symm, HL.out.2⟩
end Go.Proofs.YtpihlaeioepbpaaDoor
