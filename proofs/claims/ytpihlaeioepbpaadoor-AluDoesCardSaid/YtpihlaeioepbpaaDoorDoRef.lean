/- The document's Do and Test: walked. -/
import Derived.Test.YtpihlaeioepbpaaDoorDoesRef2
namespace Go.Proofs.YtpihlaeioepbpaaDoor
open Go Go.RowKit
set_option linter.unusedVariables false

set_option maxRecDepth 100000 in
set_option maxHeartbeats 4000000 in
theorem ref_do_1 (b c : BitVec 32) (w : World) :
    Calls Tryd.prog 35 #[.int .i64 1, .int .u32 (b.toNat : Int), .int .u32 (c.toNat : Int)] w fun e w' => e = .returned (.tuple #[.int .u32 ((b + c).toNat : Int), .int .i64 0]) ∧ Below w.heap.size w w' := by
  have hzv := zvT
  obtain ⟨s, hs⟩ : ∃ s, s = c.toNat % 32 := ⟨_, rfl⟩
  have hs1 : (c.toNat : Int) % 32 = (s : Int) := by omega
  have HS : Kp (s = c.toNat % 32) := ⟨hs⟩
  have hs32 : (s : Int) < 32 := by omega
  have hs0 : (0 : Int) ≤ (s : Int) := by omega
  have CA := fun w => ref_addc b c false w
  rw [Alu.adc_add] at CA
  obtain ⟨z, hz⟩ : ∃ z, z = b + c := ⟨_, rfl⟩
  obtain ⟨o, ho⟩ : ∃ o, o = (Alu.adc b c false).2 := ⟨_, rfl⟩
  rw [← hz, ← ho] at CA
  rw [← hz]
  have KA := Kp.mk CA
  clear CA hz ho
  clear hs
  go_enter Tryd.func35, Tryd.ntmps35
  go_wp2_with fail
  refine (ref_row b _).mono ?_
  rintro e w1 ⟨rfl, hb⟩
  have HB1 := Kp.mk hb
  clear hb
  unfold rowV arrT
  have HL := Kp.mk (row_laid HB1.out (fun i => b.getLsbD i))
  go_wp2_with (first
    | (refine wpList_store_row rfl 79 _ _ rfl w1.heap.size (Alu.rowL fun i => b.getLsbD i).toArray rfl rfl 79 _ (RowT.zero w1).block (infoT _) (by simp [Alu.rowL_length]) (arrT_one _) ?_)
    | (refine wpList_load_row rfl 79 _ rfl w1.heap.size rfl 79 (Alu.rowL fun i => b.getLsbD i).toArray (0, 0) _ HL.out.1.block Tryd.underlying79 rfl (infoT _) ?_))
  refine (KA.out _).mono ?_
  rintro e w2 ⟨rfl, hb⟩
  have B2 := Kp.mk (HL.out.2.trans (hb.mono HL.out.2.size)); clear hb
  go_wp2
  go_ret2
  exact ⟨rfl, B2.out⟩
set_option maxRecDepth 100000 in
set_option maxHeartbeats 4000000 in
theorem ref_do_2 (b c : BitVec 32) (w : World) :
    Calls Tryd.prog 35 #[.int .i64 2, .int .u32 (b.toNat : Int), .int .u32 (c.toNat : Int)] w fun e w' => e = .returned (.tuple #[.int .u32 ((b - c).toNat : Int), .int .i64 0]) ∧ Below w.heap.size w w' := by
  have hzv := zvT
  obtain ⟨s, hs⟩ : ∃ s, s = c.toNat % 32 := ⟨_, rfl⟩
  have hs1 : (c.toNat : Int) % 32 = (s : Int) := by omega
  have HS : Kp (s = c.toNat % 32) := ⟨hs⟩
  have hs32 : (s : Int) < 32 := by omega
  have hs0 : (0 : Int) ≤ (s : Int) := by omega
  have CA := fun w => ref_subb b c false w
  rw [show (!false) = true from rfl, Alu.adc_sub] at CA
  obtain ⟨z, hz⟩ : ∃ z, z = b - c := ⟨_, rfl⟩
  obtain ⟨o, ho⟩ : ∃ o, o = !(Alu.adc b (~~~c) true).2 := ⟨_, rfl⟩
  rw [← hz, ← ho] at CA
  rw [← hz]
  have KA := Kp.mk CA
  clear CA hz ho
  clear hs
  go_enter Tryd.func35, Tryd.ntmps35
  go_wp2_with fail
  refine (ref_row b _).mono ?_
  rintro e w1 ⟨rfl, hb⟩
  have HB1 := Kp.mk hb
  clear hb
  unfold rowV arrT
  have HL := Kp.mk (row_laid HB1.out (fun i => b.getLsbD i))
  go_wp2_with (first
    | (refine wpList_store_row rfl 79 _ _ rfl w1.heap.size (Alu.rowL fun i => b.getLsbD i).toArray rfl rfl 79 _ (RowT.zero w1).block (infoT _) (by simp [Alu.rowL_length]) (arrT_one _) ?_)
    | (refine wpList_load_row rfl 79 _ rfl w1.heap.size rfl 79 (Alu.rowL fun i => b.getLsbD i).toArray (0, 0) _ HL.out.1.block Tryd.underlying79 rfl (infoT _) ?_))
  refine (KA.out _).mono ?_
  rintro e w2 ⟨rfl, hb⟩
  have B2 := Kp.mk (HL.out.2.trans (hb.mono HL.out.2.size)); clear hb
  go_wp2
  go_ret2
  exact ⟨rfl, B2.out⟩
set_option maxRecDepth 100000 in
set_option maxHeartbeats 4000000 in
theorem ref_do_3 (b c : BitVec 32) (w : World) :
    Calls Tryd.prog 35 #[.int .i64 3, .int .u32 (b.toNat : Int), .int .u32 (c.toNat : Int)] w fun e w' => e = .returned (.tuple #[.int .u32 ((b &&& c).toNat : Int), .int .i64 0]) ∧ Below w.heap.size w w' := by
  have hzv := zvT
  obtain ⟨s, hs⟩ : ∃ s, s = c.toNat % 32 := ⟨_, rfl⟩
  have hs1 : (c.toNat : Int) % 32 = (s : Int) := by omega
  have HS : Kp (s = c.toNat % 32) := ⟨hs⟩
  have hs32 : (s : Int) < 32 := by omega
  have hs0 : (0 : Int) ≤ (s : Int) := by omega
  clear hs
  go_enter Tryd.func35, Tryd.ntmps35
  go_wp2_with fail
  refine (ref_row b _).mono ?_
  rintro e w1 ⟨rfl, hb⟩
  have HB1 := Kp.mk hb
  clear hb
  unfold rowV arrT
  have HL := Kp.mk (row_laid HB1.out (fun i => b.getLsbD i))
  go_wp2_with (first
    | (refine wpList_store_row rfl 79 _ _ rfl w1.heap.size (Alu.rowL fun i => b.getLsbD i).toArray rfl rfl 79 _ (RowT.zero w1).block (infoT _) (by simp [Alu.rowL_length]) (arrT_one _) ?_)
    | (refine wpList_load_row rfl 79 _ rfl w1.heap.size rfl 79 (Alu.rowL fun i => b.getLsbD i).toArray (0, 0) _ HL.out.1.block Tryd.underlying79 rfl (infoT _) ?_))
  refine (ref_logic3 b c _).mono ?_
  rintro e w2 ⟨rfl, hb⟩
  have B2 := Kp.mk (HL.out.2.trans (hb.mono HL.out.2.size)); clear hb
  go_wp2
  go_ret2
  exact ⟨rfl, B2.out⟩
set_option maxRecDepth 100000 in
set_option maxHeartbeats 4000000 in
theorem ref_do_4 (b c : BitVec 32) (w : World) :
    Calls Tryd.prog 35 #[.int .i64 4, .int .u32 (b.toNat : Int), .int .u32 (c.toNat : Int)] w fun e w' => e = .returned (.tuple #[.int .u32 ((b ||| c).toNat : Int), .int .i64 0]) ∧ Below w.heap.size w w' := by
  have hzv := zvT
  obtain ⟨s, hs⟩ : ∃ s, s = c.toNat % 32 := ⟨_, rfl⟩
  have hs1 : (c.toNat : Int) % 32 = (s : Int) := by omega
  have HS : Kp (s = c.toNat % 32) := ⟨hs⟩
  have hs32 : (s : Int) < 32 := by omega
  have hs0 : (0 : Int) ≤ (s : Int) := by omega
  clear hs
  go_enter Tryd.func35, Tryd.ntmps35
  go_wp2_with fail
  refine (ref_row b _).mono ?_
  rintro e w1 ⟨rfl, hb⟩
  have HB1 := Kp.mk hb
  clear hb
  unfold rowV arrT
  have HL := Kp.mk (row_laid HB1.out (fun i => b.getLsbD i))
  go_wp2_with (first
    | (refine wpList_store_row rfl 79 _ _ rfl w1.heap.size (Alu.rowL fun i => b.getLsbD i).toArray rfl rfl 79 _ (RowT.zero w1).block (infoT _) (by simp [Alu.rowL_length]) (arrT_one _) ?_)
    | (refine wpList_load_row rfl 79 _ rfl w1.heap.size rfl 79 (Alu.rowL fun i => b.getLsbD i).toArray (0, 0) _ HL.out.1.block Tryd.underlying79 rfl (infoT _) ?_))
  refine (ref_logic4 b c _).mono ?_
  rintro e w2 ⟨rfl, hb⟩
  have B2 := Kp.mk (HL.out.2.trans (hb.mono HL.out.2.size)); clear hb
  go_wp2
  go_ret2
  exact ⟨rfl, B2.out⟩
set_option maxRecDepth 100000 in
set_option maxHeartbeats 4000000 in
theorem ref_do_5 (b c : BitVec 32) (w : World) :
    Calls Tryd.prog 35 #[.int .i64 5, .int .u32 (b.toNat : Int), .int .u32 (c.toNat : Int)] w fun e w' => e = .returned (.tuple #[.int .u32 ((b ^^^ c).toNat : Int), .int .i64 0]) ∧ Below w.heap.size w w' := by
  have hzv := zvT
  obtain ⟨s, hs⟩ : ∃ s, s = c.toNat % 32 := ⟨_, rfl⟩
  have hs1 : (c.toNat : Int) % 32 = (s : Int) := by omega
  have HS : Kp (s = c.toNat % 32) := ⟨hs⟩
  have hs32 : (s : Int) < 32 := by omega
  have hs0 : (0 : Int) ≤ (s : Int) := by omega
  clear hs
  go_enter Tryd.func35, Tryd.ntmps35
  go_wp2_with fail
  refine (ref_row b _).mono ?_
  rintro e w1 ⟨rfl, hb⟩
  have HB1 := Kp.mk hb
  clear hb
  unfold rowV arrT
  have HL := Kp.mk (row_laid HB1.out (fun i => b.getLsbD i))
  go_wp2_with (first
    | (refine wpList_store_row rfl 79 _ _ rfl w1.heap.size (Alu.rowL fun i => b.getLsbD i).toArray rfl rfl 79 _ (RowT.zero w1).block (infoT _) (by simp [Alu.rowL_length]) (arrT_one _) ?_)
    | (refine wpList_load_row rfl 79 _ rfl w1.heap.size rfl 79 (Alu.rowL fun i => b.getLsbD i).toArray (0, 0) _ HL.out.1.block Tryd.underlying79 rfl (infoT _) ?_))
  refine (ref_logic5 b c _).mono ?_
  rintro e w2 ⟨rfl, hb⟩
  have B2 := Kp.mk (HL.out.2.trans (hb.mono HL.out.2.size)); clear hb
  go_wp2
  go_ret2
  exact ⟨rfl, B2.out⟩
set_option maxRecDepth 100000 in
set_option maxHeartbeats 4000000 in
theorem ref_do_6 (b c : BitVec 32) (w : World) :
    Calls Tryd.prog 35 #[.int .i64 6, .int .u32 (b.toNat : Int), .int .u32 (c.toNat : Int)] w fun e w' => e = .returned (.tuple #[.int .u32 ((b <<< (c.toNat % 32)).toNat : Int), .int .i64 0]) ∧ Below w.heap.size w w' := by
  have hzv := zvT
  obtain ⟨s, hs⟩ : ∃ s, s = c.toNat % 32 := ⟨_, rfl⟩
  have hs1 : (c.toNat : Int) % 32 = (s : Int) := by omega
  have HS : Kp (s = c.toNat % 32) := ⟨hs⟩
  have hs32 : (s : Int) < 32 := by omega
  have hs0 : (0 : Int) ≤ (s : Int) := by omega
  obtain ⟨Z, hZ⟩ : ∃ Z, Z = b <<< (c.toNat % 32) := ⟨_, rfl⟩
  have HN : Kp (∀ i, i < 32 → Alu.moved (fun i => b.getLsbD i) (s : Int) false i = Z.getLsbD i) := ⟨fun i hi => by rw [hZ, ← hs]; exact Alu.moved_shl b s i hi⟩
  rw [← hZ]
  clear hZ
  clear hs
  go_enter Tryd.func35, Tryd.ntmps35
  go_wp2_with fail
  refine (ref_row b _).mono ?_
  rintro e w1 ⟨rfl, hb⟩
  have HB1 := Kp.mk hb
  clear hb
  unfold rowV arrT
  have HL := Kp.mk (row_laid HB1.out (fun i => b.getLsbD i))
  go_wp2_with (first
    | (refine wpList_store_row rfl 79 _ _ rfl w1.heap.size (Alu.rowL fun i => b.getLsbD i).toArray rfl rfl 79 _ (RowT.zero w1).block (infoT _) (by simp [Alu.rowL_length]) (arrT_one _) ?_)
    | (refine wpList_load_row rfl 79 _ rfl w1.heap.size rfl 79 (Alu.rowL fun i => b.getLsbD i).toArray (0, 0) _ HL.out.1.block Tryd.underlying79 rfl (infoT _) ?_))
  refine (ref_move (fun i => b.getLsbD i) (s : Int) false _ (by omega)).mono ?_
  rintro e w2 ⟨rfl, hb⟩
  have B2 := Kp.mk (HL.out.2.trans (hb.mono HL.out.2.size)); clear hb
  go_wp2_with fail
  refine (ref_number _ Z _ HN.out).mono ?_
  rintro e w3 ⟨rfl, hb⟩
  have B3 := Kp.mk (B2.out.trans (hb.mono B2.out.size)); clear hb
  go_wp2
  go_ret2
  exact ⟨rfl, B3.out⟩
set_option maxRecDepth 100000 in
set_option maxHeartbeats 4000000 in
theorem ref_do_7 (b c : BitVec 32) (w : World) :
    Calls Tryd.prog 35 #[.int .i64 7, .int .u32 (b.toNat : Int), .int .u32 (c.toNat : Int)] w fun e w' => e = .returned (.tuple #[.int .u32 ((b >>> (c.toNat % 32)).toNat : Int), .int .i64 0]) ∧ Below w.heap.size w w' := by
  have hzv := zvT
  obtain ⟨s, hs⟩ : ∃ s, s = c.toNat % 32 := ⟨_, rfl⟩
  have hs1 : (c.toNat : Int) % 32 = (s : Int) := by omega
  have HS : Kp (s = c.toNat % 32) := ⟨hs⟩
  have hs32 : (s : Int) < 32 := by omega
  have hs0 : (0 : Int) ≤ (s : Int) := by omega
  obtain ⟨Z, hZ⟩ : ∃ Z, Z = b >>> (c.toNat % 32) := ⟨_, rfl⟩
  have HN : Kp (∀ i, i < 32 → Alu.moved (fun i => b.getLsbD i) (-(s : Int)) false i = Z.getLsbD i) := ⟨fun i hi => by rw [hZ, ← hs]; exact Alu.moved_shr b s i hi⟩
  rw [← hZ]
  clear hZ
  clear hs
  go_enter Tryd.func35, Tryd.ntmps35
  go_wp2_with fail
  refine (ref_row b _).mono ?_
  rintro e w1 ⟨rfl, hb⟩
  have HB1 := Kp.mk hb
  clear hb
  unfold rowV arrT
  have HL := Kp.mk (row_laid HB1.out (fun i => b.getLsbD i))
  go_wp2_with (first
    | (refine wpList_store_row rfl 79 _ _ rfl w1.heap.size (Alu.rowL fun i => b.getLsbD i).toArray rfl rfl 79 _ (RowT.zero w1).block (infoT _) (by simp [Alu.rowL_length]) (arrT_one _) ?_)
    | (refine wpList_load_row rfl 79 _ rfl w1.heap.size rfl 79 (Alu.rowL fun i => b.getLsbD i).toArray (0, 0) _ HL.out.1.block Tryd.underlying79 rfl (infoT _) ?_))
  refine (ref_move (fun i => b.getLsbD i) (-(s : Int)) false _ (by omega)).mono ?_
  rintro e w2 ⟨rfl, hb⟩
  have B2 := Kp.mk (HL.out.2.trans (hb.mono HL.out.2.size)); clear hb
  go_wp2_with fail
  refine (ref_number _ Z _ HN.out).mono ?_
  rintro e w3 ⟨rfl, hb⟩
  have B3 := Kp.mk (B2.out.trans (hb.mono B2.out.size)); clear hb
  go_wp2
  go_ret2
  exact ⟨rfl, B3.out⟩
set_option maxRecDepth 100000 in
set_option maxHeartbeats 4000000 in
theorem ref_do_8 (b c : BitVec 32) (w : World) :
    Calls Tryd.prog 35 #[.int .i64 8, .int .u32 (b.toNat : Int), .int .u32 (c.toNat : Int)] w fun e w' => e = .returned (.tuple #[.int .u32 ((b.sshiftRight (c.toNat % 32)).toNat : Int), .int .i64 0]) ∧ Below w.heap.size w w' := by
  have hzv := zvT
  obtain ⟨s, hs⟩ : ∃ s, s = c.toNat % 32 := ⟨_, rfl⟩
  have hs1 : (c.toNat : Int) % 32 = (s : Int) := by omega
  have HS : Kp (s = c.toNat % 32) := ⟨hs⟩
  have hs32 : (s : Int) < 32 := by omega
  have hs0 : (0 : Int) ≤ (s : Int) := by omega
  obtain ⟨Z, hZ⟩ : ∃ Z, Z = b.sshiftRight (c.toNat % 32) := ⟨_, rfl⟩
  have HN : Kp (∀ i, i < 32 → Alu.moved (fun i => b.getLsbD i) (-(s : Int)) (b.getLsbD 31) i = Z.getLsbD i) := ⟨fun i hi => by rw [hZ, ← hs]; exact Alu.moved_sar b s i hi⟩
  rw [← hZ]
  clear hZ
  clear hs
  go_enter Tryd.func35, Tryd.ntmps35
  go_wp2_with fail
  refine (ref_row b _).mono ?_
  rintro e w1 ⟨rfl, hb⟩
  have HB1 := Kp.mk hb
  clear hb
  unfold rowV arrT
  have HL := Kp.mk (row_laid HB1.out (fun i => b.getLsbD i))
  have hc31 := HL.out.1.cell 31 (by omega)
  obtain ⟨fl, hfl⟩ : ∃ fl, fl = b.getLsbD 31 := ⟨_, rfl⟩
  rw [← hfl] at hc31 HN
  clear hfl
  go_wp2_with (first
    | (refine wpList_store_row rfl 79 _ _ rfl w1.heap.size (Alu.rowL fun i => b.getLsbD i).toArray rfl rfl 79 _ (RowT.zero w1).block (infoT _) (by simp [Alu.rowL_length]) (arrT_one _) ?_)
    | (refine wpList_load_row rfl 79 _ rfl w1.heap.size rfl 79 (Alu.rowL fun i => b.getLsbD i).toArray (0, 0) _ HL.out.1.block Tryd.underlying79 rfl (infoT _) ?_))
  refine (ref_move (fun i => b.getLsbD i) (-(s : Int)) fl _ (by omega)).mono ?_
  rintro e w2 ⟨rfl, hb⟩
  have B2 := Kp.mk (HL.out.2.trans (hb.mono HL.out.2.size)); clear hb
  go_wp2_with fail
  refine (ref_number _ Z _ HN.out).mono ?_
  rintro e w3 ⟨rfl, hb⟩
  have B3 := Kp.mk (B2.out.trans (hb.mono B2.out.size)); clear hb
  go_wp2
  go_ret2
  exact ⟨rfl, B3.out⟩
set_option maxRecDepth 100000 in
set_option maxHeartbeats 4000000 in
theorem ref_do_9 (b c : BitVec 32) (w : World) :
    Calls Tryd.prog 35 #[.int .i64 9, .int .u32 (b.toNat : Int), .int .u32 (c.toNat : Int)] w fun e w' => e = .returned (.tuple #[.int .u32 ((b * c).toNat : Int), .int .i64 0]) ∧ Below w.heap.size w w' := by
  have hzv := zvT
  obtain ⟨s, hs⟩ : ∃ s, s = c.toNat % 32 := ⟨_, rfl⟩
  have hs1 : (c.toNat : Int) % 32 = (s : Int) := by omega
  have HS : Kp (s = c.toNat % 32) := ⟨hs⟩
  have hs32 : (s : Int) < 32 := by omega
  have hs0 : (0 : Int) ≤ (s : Int) := by omega
  clear hs
  go_enter Tryd.func35, Tryd.ntmps35
  go_wp2_with fail
  refine (ref_row b _).mono ?_
  rintro e w1 ⟨rfl, hb⟩
  have HB1 := Kp.mk hb
  clear hb
  unfold rowV arrT
  have HL := Kp.mk (row_laid HB1.out (fun i => b.getLsbD i))
  go_wp2_with (first
    | (refine wpList_store_row rfl 79 _ _ rfl w1.heap.size (Alu.rowL fun i => b.getLsbD i).toArray rfl rfl 79 _ (RowT.zero w1).block (infoT _) (by simp [Alu.rowL_length]) (arrT_one _) ?_)
    | (refine wpList_load_row rfl 79 _ rfl w1.heap.size rfl 79 (Alu.rowL fun i => b.getLsbD i).toArray (0, 0) _ HL.out.1.block Tryd.underlying79 rfl (infoT _) ?_))
  refine (ref_mul b c _).mono ?_
  rintro e w2 ⟨⟨h, l, rfl, hl⟩, hb⟩
  have B2 := Kp.mk (HL.out.2.trans (hb.mono HL.out.2.size)); clear hb
  have HLO := Kp.mk (Alu.lo_mul hl)
  clear hl
  go_wp2
  go_ret2
  exact ⟨by rw [← HLO.out]; rfl, B2.out⟩
set_option maxRecDepth 100000 in
set_option maxHeartbeats 4000000 in
theorem ref_do_10 (b c : BitVec 32) (w : World) (hc0 : c ≠ 0#32) :
    Calls Tryd.prog 35 #[.int .i64 10, .int .u32 (b.toNat : Int), .int .u32 (c.toNat : Int)] w fun e w' => e = .returned (.tuple #[.int .u32 ((b / c).toNat : Int), .int .i64 0]) ∧ Below w.heap.size w w' := by
  have hzv := zvT
  obtain ⟨s, hs⟩ : ∃ s, s = c.toNat % 32 := ⟨_, rfl⟩
  have hs1 : (c.toNat : Int) % 32 = (s : Int) := by omega
  have HS : Kp (s = c.toNat % 32) := ⟨hs⟩
  have hs32 : (s : Int) < 32 := by omega
  have hs0 : (0 : Int) ≤ (s : Int) := by omega
  have HCN := Kp.mk hc0
  clear hc0
  clear hs
  go_enter Tryd.func35, Tryd.ntmps35
  go_wp2_with fail
  refine (ref_row b _).mono ?_
  rintro e w1 ⟨rfl, hb⟩
  have HB1 := Kp.mk hb
  clear hb
  unfold rowV arrT
  have HL := Kp.mk (row_laid HB1.out (fun i => b.getLsbD i))
  go_wp2_with (first
    | (refine wpList_store_row rfl 79 _ _ rfl w1.heap.size (Alu.rowL fun i => b.getLsbD i).toArray rfl rfl 79 _ (RowT.zero w1).block (infoT _) (by simp [Alu.rowL_length]) (arrT_one _) ?_)
    | (refine wpList_load_row rfl 79 _ rfl w1.heap.size rfl 79 (Alu.rowL fun i => b.getLsbD i).toArray (0, 0) _ HL.out.1.block Tryd.underlying79 rfl (infoT _) ?_))
  refine (ref_divide10 b c _ HCN.out).mono ?_
  rintro e w2 ⟨rfl, hb⟩
  have B2 := Kp.mk (HL.out.2.trans (hb.mono HL.out.2.size)); clear hb
  go_wp2
  go_ret2
  exact ⟨rfl, B2.out⟩
set_option maxRecDepth 100000 in
set_option maxHeartbeats 4000000 in
theorem ref_do_10_no (b c : BitVec 32) (w : World) (hc0 : c = 0#32) :
    Calls Tryd.prog 35 #[.int .i64 10, .int .u32 (b.toNat : Int), .int .u32 (c.toNat : Int)] w fun e w' => e = .returned (.tuple #[.int .u32 ((0#32).toNat : Int), .int .i64 20]) ∧ Below w.heap.size w w' := by
  have hzv := zvT
  obtain ⟨s, hs⟩ : ∃ s, s = c.toNat % 32 := ⟨_, rfl⟩
  have hs1 : (c.toNat : Int) % 32 = (s : Int) := by omega
  have HS : Kp (s = c.toNat % 32) := ⟨hs⟩
  have hs32 : (s : Int) < 32 := by omega
  have hs0 : (0 : Int) ≤ (s : Int) := by omega
  have HCN := Kp.mk hc0
  clear hc0
  clear hs
  go_enter Tryd.func35, Tryd.ntmps35
  go_wp2_with fail
  refine (ref_row b _).mono ?_
  rintro e w1 ⟨rfl, hb⟩
  have HB1 := Kp.mk hb
  clear hb
  unfold rowV arrT
  have HL := Kp.mk (row_laid HB1.out (fun i => b.getLsbD i))
  go_wp2_with (first
    | (refine wpList_store_row rfl 79 _ _ rfl w1.heap.size (Alu.rowL fun i => b.getLsbD i).toArray rfl rfl 79 _ (RowT.zero w1).block (infoT _) (by simp [Alu.rowL_length]) (arrT_one _) ?_)
    | (refine wpList_load_row rfl 79 _ rfl w1.heap.size rfl 79 (Alu.rowL fun i => b.getLsbD i).toArray (0, 0) _ HL.out.1.block Tryd.underlying79 rfl (infoT _) ?_))
  refine (ref_divide_no 10 b c _ HCN.out).mono ?_
  rintro e w2 ⟨rfl, hw⟩
  have hb : Below ((w1.alloc (.cells zT 79)).setRow w1.heap.size (Alu.rowL fun i => b.getLsbD i).toArray).heap.size ((w1.alloc (.cells zT 79)).setRow w1.heap.size (Alu.rowL fun i => b.getLsbD i).toArray) w2 := by rw [hw]; exact Below.refl _ _
  clear hw
  have B2 := Kp.mk (HL.out.2.trans (hb.mono HL.out.2.size)); clear hb
  go_wp2
  go_ret2
  exact ⟨rfl, B2.out⟩
set_option maxRecDepth 100000 in
set_option maxHeartbeats 4000000 in
theorem ref_do_11 (b c : BitVec 32) (w : World) (hc0 : c ≠ 0#32) :
    Calls Tryd.prog 35 #[.int .i64 11, .int .u32 (b.toNat : Int), .int .u32 (c.toNat : Int)] w fun e w' => e = .returned (.tuple #[.int .u32 ((BitVec.ofInt 32 (b.toInt.tdiv c.toInt)).toNat : Int), .int .i64 0]) ∧ Below w.heap.size w w' := by
  have hzv := zvT
  obtain ⟨s, hs⟩ : ∃ s, s = c.toNat % 32 := ⟨_, rfl⟩
  have hs1 : (c.toNat : Int) % 32 = (s : Int) := by omega
  have HS : Kp (s = c.toNat % 32) := ⟨hs⟩
  have hs32 : (s : Int) < 32 := by omega
  have hs0 : (0 : Int) ≤ (s : Int) := by omega
  have CD := fun w => ref_divide11 b c w hc0
  obtain ⟨z, hz⟩ : ∃ z, z = BitVec.ofInt 32 (b.toInt.tdiv c.toInt) := ⟨_, rfl⟩
  rw [← hz] at CD
  rw [← hz]
  have KD := Kp.mk CD
  clear CD hz hc0
  clear hs
  go_enter Tryd.func35, Tryd.ntmps35
  go_wp2_with fail
  refine (ref_row b _).mono ?_
  rintro e w1 ⟨rfl, hb⟩
  have HB1 := Kp.mk hb
  clear hb
  unfold rowV arrT
  have HL := Kp.mk (row_laid HB1.out (fun i => b.getLsbD i))
  go_wp2_with (first
    | (refine wpList_store_row rfl 79 _ _ rfl w1.heap.size (Alu.rowL fun i => b.getLsbD i).toArray rfl rfl 79 _ (RowT.zero w1).block (infoT _) (by simp [Alu.rowL_length]) (arrT_one _) ?_)
    | (refine wpList_load_row rfl 79 _ rfl w1.heap.size rfl 79 (Alu.rowL fun i => b.getLsbD i).toArray (0, 0) _ HL.out.1.block Tryd.underlying79 rfl (infoT _) ?_))
  refine (KD.out _).mono ?_
  rintro e w2 ⟨rfl, hb⟩
  have B2 := Kp.mk (HL.out.2.trans (hb.mono HL.out.2.size)); clear hb
  go_wp2
  go_ret2
  exact ⟨rfl, B2.out⟩
set_option maxRecDepth 100000 in
set_option maxHeartbeats 4000000 in
theorem ref_do_11_no (b c : BitVec 32) (w : World) (hc0 : c = 0#32) :
    Calls Tryd.prog 35 #[.int .i64 11, .int .u32 (b.toNat : Int), .int .u32 (c.toNat : Int)] w fun e w' => e = .returned (.tuple #[.int .u32 ((0#32).toNat : Int), .int .i64 20]) ∧ Below w.heap.size w w' := by
  have hzv := zvT
  obtain ⟨s, hs⟩ : ∃ s, s = c.toNat % 32 := ⟨_, rfl⟩
  have hs1 : (c.toNat : Int) % 32 = (s : Int) := by omega
  have HS : Kp (s = c.toNat % 32) := ⟨hs⟩
  have hs32 : (s : Int) < 32 := by omega
  have hs0 : (0 : Int) ≤ (s : Int) := by omega
  have HCN := Kp.mk hc0
  clear hc0
  clear hs
  go_enter Tryd.func35, Tryd.ntmps35
  go_wp2_with fail
  refine (ref_row b _).mono ?_
  rintro e w1 ⟨rfl, hb⟩
  have HB1 := Kp.mk hb
  clear hb
  unfold rowV arrT
  have HL := Kp.mk (row_laid HB1.out (fun i => b.getLsbD i))
  go_wp2_with (first
    | (refine wpList_store_row rfl 79 _ _ rfl w1.heap.size (Alu.rowL fun i => b.getLsbD i).toArray rfl rfl 79 _ (RowT.zero w1).block (infoT _) (by simp [Alu.rowL_length]) (arrT_one _) ?_)
    | (refine wpList_load_row rfl 79 _ rfl w1.heap.size rfl 79 (Alu.rowL fun i => b.getLsbD i).toArray (0, 0) _ HL.out.1.block Tryd.underlying79 rfl (infoT _) ?_))
  refine (ref_divide_no 11 b c _ HCN.out).mono ?_
  rintro e w2 ⟨rfl, hw⟩
  have hb : Below ((w1.alloc (.cells zT 79)).setRow w1.heap.size (Alu.rowL fun i => b.getLsbD i).toArray).heap.size ((w1.alloc (.cells zT 79)).setRow w1.heap.size (Alu.rowL fun i => b.getLsbD i).toArray) w2 := by rw [hw]; exact Below.refl _ _
  clear hw
  have B2 := Kp.mk (HL.out.2.trans (hb.mono HL.out.2.size)); clear hb
  go_wp2
  go_ret2
  exact ⟨rfl, B2.out⟩
set_option maxRecDepth 100000 in
set_option maxHeartbeats 4000000 in
theorem ref_do_12 (b c : BitVec 32) (w : World) (hc0 : c ≠ 0#32) :
    Calls Tryd.prog 35 #[.int .i64 12, .int .u32 (b.toNat : Int), .int .u32 (c.toNat : Int)] w fun e w' => e = .returned (.tuple #[.int .u32 ((b % c).toNat : Int), .int .i64 0]) ∧ Below w.heap.size w w' := by
  have hzv := zvT
  obtain ⟨s, hs⟩ : ∃ s, s = c.toNat % 32 := ⟨_, rfl⟩
  have hs1 : (c.toNat : Int) % 32 = (s : Int) := by omega
  have HS : Kp (s = c.toNat % 32) := ⟨hs⟩
  have hs32 : (s : Int) < 32 := by omega
  have hs0 : (0 : Int) ≤ (s : Int) := by omega
  have HCN := Kp.mk hc0
  clear hc0
  clear hs
  go_enter Tryd.func35, Tryd.ntmps35
  go_wp2_with fail
  refine (ref_row b _).mono ?_
  rintro e w1 ⟨rfl, hb⟩
  have HB1 := Kp.mk hb
  clear hb
  unfold rowV arrT
  have HL := Kp.mk (row_laid HB1.out (fun i => b.getLsbD i))
  go_wp2_with (first
    | (refine wpList_store_row rfl 79 _ _ rfl w1.heap.size (Alu.rowL fun i => b.getLsbD i).toArray rfl rfl 79 _ (RowT.zero w1).block (infoT _) (by simp [Alu.rowL_length]) (arrT_one _) ?_)
    | (refine wpList_load_row rfl 79 _ rfl w1.heap.size rfl 79 (Alu.rowL fun i => b.getLsbD i).toArray (0, 0) _ HL.out.1.block Tryd.underlying79 rfl (infoT _) ?_))
  refine (ref_divide12 b c _ HCN.out).mono ?_
  rintro e w2 ⟨rfl, hb⟩
  have B2 := Kp.mk (HL.out.2.trans (hb.mono HL.out.2.size)); clear hb
  go_wp2
  go_ret2
  exact ⟨rfl, B2.out⟩
set_option maxRecDepth 100000 in
set_option maxHeartbeats 4000000 in
theorem ref_do_12_no (b c : BitVec 32) (w : World) (hc0 : c = 0#32) :
    Calls Tryd.prog 35 #[.int .i64 12, .int .u32 (b.toNat : Int), .int .u32 (c.toNat : Int)] w fun e w' => e = .returned (.tuple #[.int .u32 ((0#32).toNat : Int), .int .i64 20]) ∧ Below w.heap.size w w' := by
  have hzv := zvT
  obtain ⟨s, hs⟩ : ∃ s, s = c.toNat % 32 := ⟨_, rfl⟩
  have hs1 : (c.toNat : Int) % 32 = (s : Int) := by omega
  have HS : Kp (s = c.toNat % 32) := ⟨hs⟩
  have hs32 : (s : Int) < 32 := by omega
  have hs0 : (0 : Int) ≤ (s : Int) := by omega
  have HCN := Kp.mk hc0
  clear hc0
  clear hs
  go_enter Tryd.func35, Tryd.ntmps35
  go_wp2_with fail
  refine (ref_row b _).mono ?_
  rintro e w1 ⟨rfl, hb⟩
  have HB1 := Kp.mk hb
  clear hb
  unfold rowV arrT
  have HL := Kp.mk (row_laid HB1.out (fun i => b.getLsbD i))
  go_wp2_with (first
    | (refine wpList_store_row rfl 79 _ _ rfl w1.heap.size (Alu.rowL fun i => b.getLsbD i).toArray rfl rfl 79 _ (RowT.zero w1).block (infoT _) (by simp [Alu.rowL_length]) (arrT_one _) ?_)
    | (refine wpList_load_row rfl 79 _ rfl w1.heap.size rfl 79 (Alu.rowL fun i => b.getLsbD i).toArray (0, 0) _ HL.out.1.block Tryd.underlying79 rfl (infoT _) ?_))
  refine (ref_divide_no 12 b c _ HCN.out).mono ?_
  rintro e w2 ⟨rfl, hw⟩
  have hb : Below ((w1.alloc (.cells zT 79)).setRow w1.heap.size (Alu.rowL fun i => b.getLsbD i).toArray).heap.size ((w1.alloc (.cells zT 79)).setRow w1.heap.size (Alu.rowL fun i => b.getLsbD i).toArray) w2 := by rw [hw]; exact Below.refl _ _
  clear hw
  have B2 := Kp.mk (HL.out.2.trans (hb.mono HL.out.2.size)); clear hb
  go_wp2
  go_ret2
  exact ⟨rfl, B2.out⟩
set_option maxRecDepth 100000 in
set_option maxHeartbeats 4000000 in
theorem ref_do_13 (b c : BitVec 32) (w : World) (hc0 : c ≠ 0#32) :
    Calls Tryd.prog 35 #[.int .i64 13, .int .u32 (b.toNat : Int), .int .u32 (c.toNat : Int)] w fun e w' => e = .returned (.tuple #[.int .u32 ((BitVec.ofInt 32 (b.toInt.tmod c.toInt)).toNat : Int), .int .i64 0]) ∧ Below w.heap.size w w' := by
  have hzv := zvT
  obtain ⟨s, hs⟩ : ∃ s, s = c.toNat % 32 := ⟨_, rfl⟩
  have hs1 : (c.toNat : Int) % 32 = (s : Int) := by omega
  have HS : Kp (s = c.toNat % 32) := ⟨hs⟩
  have hs32 : (s : Int) < 32 := by omega
  have hs0 : (0 : Int) ≤ (s : Int) := by omega
  have CD := fun w => ref_divide13 b c w hc0
  obtain ⟨z, hz⟩ : ∃ z, z = BitVec.ofInt 32 (b.toInt.tmod c.toInt) := ⟨_, rfl⟩
  rw [← hz] at CD
  rw [← hz]
  have KD := Kp.mk CD
  clear CD hz hc0
  clear hs
  go_enter Tryd.func35, Tryd.ntmps35
  go_wp2_with fail
  refine (ref_row b _).mono ?_
  rintro e w1 ⟨rfl, hb⟩
  have HB1 := Kp.mk hb
  clear hb
  unfold rowV arrT
  have HL := Kp.mk (row_laid HB1.out (fun i => b.getLsbD i))
  go_wp2_with (first
    | (refine wpList_store_row rfl 79 _ _ rfl w1.heap.size (Alu.rowL fun i => b.getLsbD i).toArray rfl rfl 79 _ (RowT.zero w1).block (infoT _) (by simp [Alu.rowL_length]) (arrT_one _) ?_)
    | (refine wpList_load_row rfl 79 _ rfl w1.heap.size rfl 79 (Alu.rowL fun i => b.getLsbD i).toArray (0, 0) _ HL.out.1.block Tryd.underlying79 rfl (infoT _) ?_))
  refine (KD.out _).mono ?_
  rintro e w2 ⟨rfl, hb⟩
  have B2 := Kp.mk (HL.out.2.trans (hb.mono HL.out.2.size)); clear hb
  go_wp2
  go_ret2
  exact ⟨rfl, B2.out⟩
set_option maxRecDepth 100000 in
set_option maxHeartbeats 4000000 in
theorem ref_do_13_no (b c : BitVec 32) (w : World) (hc0 : c = 0#32) :
    Calls Tryd.prog 35 #[.int .i64 13, .int .u32 (b.toNat : Int), .int .u32 (c.toNat : Int)] w fun e w' => e = .returned (.tuple #[.int .u32 ((0#32).toNat : Int), .int .i64 20]) ∧ Below w.heap.size w w' := by
  have hzv := zvT
  obtain ⟨s, hs⟩ : ∃ s, s = c.toNat % 32 := ⟨_, rfl⟩
  have hs1 : (c.toNat : Int) % 32 = (s : Int) := by omega
  have HS : Kp (s = c.toNat % 32) := ⟨hs⟩
  have hs32 : (s : Int) < 32 := by omega
  have hs0 : (0 : Int) ≤ (s : Int) := by omega
  have HCN := Kp.mk hc0
  clear hc0
  clear hs
  go_enter Tryd.func35, Tryd.ntmps35
  go_wp2_with fail
  refine (ref_row b _).mono ?_
  rintro e w1 ⟨rfl, hb⟩
  have HB1 := Kp.mk hb
  clear hb
  unfold rowV arrT
  have HL := Kp.mk (row_laid HB1.out (fun i => b.getLsbD i))
  go_wp2_with (first
    | (refine wpList_store_row rfl 79 _ _ rfl w1.heap.size (Alu.rowL fun i => b.getLsbD i).toArray rfl rfl 79 _ (RowT.zero w1).block (infoT _) (by simp [Alu.rowL_length]) (arrT_one _) ?_)
    | (refine wpList_load_row rfl 79 _ rfl w1.heap.size rfl 79 (Alu.rowL fun i => b.getLsbD i).toArray (0, 0) _ HL.out.1.block Tryd.underlying79 rfl (infoT _) ?_))
  refine (ref_divide_no 13 b c _ HCN.out).mono ?_
  rintro e w2 ⟨rfl, hw⟩
  have hb : Below ((w1.alloc (.cells zT 79)).setRow w1.heap.size (Alu.rowL fun i => b.getLsbD i).toArray).heap.size ((w1.alloc (.cells zT 79)).setRow w1.heap.size (Alu.rowL fun i => b.getLsbD i).toArray) w2 := by rw [hw]; exact Below.refl _ _
  clear hw
  have B2 := Kp.mk (HL.out.2.trans (hb.mono HL.out.2.size)); clear hb
  go_wp2
  go_ret2
  exact ⟨rfl, B2.out⟩
set_option maxRecDepth 100000 in
set_option maxHeartbeats 4000000 in
theorem ref_do_14 (b c : BitVec 32) (w : World) :
    Calls Tryd.prog 35 #[.int .i64 14, .int .u32 (b.toNat : Int), .int .u32 (c.toNat : Int)] w fun e w' => e = .returned (.tuple #[.int .u32 ((if b.toNat < c.toNat then 1#32 else 0#32).toNat : Int), .int .i64 0]) ∧ Below w.heap.size w w' := by
  have hzv := zvT
  obtain ⟨s, hs⟩ : ∃ s, s = c.toNat % 32 := ⟨_, rfl⟩
  have hs1 : (c.toNat : Int) % 32 = (s : Int) := by omega
  have HS : Kp (s = c.toNat % 32) := ⟨hs⟩
  have hs32 : (s : Int) < 32 := by omega
  have hs0 : (0 : Int) ≤ (s : Int) := by omega
  obtain ⟨t, ht⟩ : ∃ t, t = decide ((b.toNat : Int) < (c.toNat : Int)) := ⟨_, rfl⟩
  have ht1 : decide ((b.toNat : Int) < (c.toNat : Int)) = t := ht.symm
  have ht2 : decide (b.toNat < c.toNat) = t := by rw [ht]; simp
  obtain ⟨z, hz⟩ : ∃ z, z = (if b.toNat < c.toNat then 1#32 else 0#32 : BitVec 32) := ⟨_, rfl⟩
  have HT : Kp (tr t = (z.toNat : Int)) := ⟨by rw [hz, ← ht2]; by_cases h : b.toNat < c.toNat <;> simp [h, tr]⟩
  rw [← hz]
  clear ht hz
  clear hs
  go_enter Tryd.func35, Tryd.ntmps35
  go_wp2_with fail
  refine (ref_row b _).mono ?_
  rintro e w1 ⟨rfl, hb⟩
  have HB1 := Kp.mk hb
  clear hb
  unfold rowV arrT
  have HL := Kp.mk (row_laid HB1.out (fun i => b.getLsbD i))
  go_wp2_with (first
    | (refine wpList_store_row rfl 79 _ _ rfl w1.heap.size (Alu.rowL fun i => b.getLsbD i).toArray rfl rfl 79 _ (RowT.zero w1).block (infoT _) (by simp [Alu.rowL_length]) (arrT_one _) ?_)
    | (refine wpList_load_row rfl 79 _ rfl w1.heap.size rfl 79 (Alu.rowL fun i => b.getLsbD i).toArray (0, 0) _ HL.out.1.block Tryd.underlying79 rfl (infoT _) ?_))
  refine (ref_truth t _).mono ?_
  rintro e w2 ⟨rfl, hw⟩
  obtain rfl := hw.symm
  clear hw
  go_wp2
  go_ret2
  exact ⟨by rw [← HT.out]; rfl, HL.out.2⟩
set_option maxRecDepth 100000 in
set_option maxHeartbeats 4000000 in
theorem ref_do_15 (b c : BitVec 32) (w : World) :
    Calls Tryd.prog 35 #[.int .i64 15, .int .u32 (b.toNat : Int), .int .u32 (c.toNat : Int)] w fun e w' => e = .returned (.tuple #[.int .u32 ((if b.toInt < c.toInt then 1#32 else 0#32).toNat : Int), .int .i64 0]) ∧ Below w.heap.size w w' := by
  have hzv := zvT
  obtain ⟨s, hs⟩ : ∃ s, s = c.toNat % 32 := ⟨_, rfl⟩
  have hs1 : (c.toNat : Int) % 32 = (s : Int) := by omega
  have HS : Kp (s = c.toNat % 32) := ⟨hs⟩
  have hs32 : (s : Int) < 32 := by omega
  have hs0 : (0 : Int) ≤ (s : Int) := by omega
  obtain ⟨t, ht⟩ : ∃ t, t = decide (b.toInt < c.toInt) := ⟨_, rfl⟩
  have ht1 : decide (b.toInt < c.toInt) = t := ht.symm
  obtain ⟨z, hz⟩ : ∃ z, z = (if b.toInt < c.toInt then 1#32 else 0#32 : BitVec 32) := ⟨_, rfl⟩
  have HT : Kp (tr t = (z.toNat : Int)) := ⟨by rw [hz, ht]; by_cases h : b.toInt < c.toInt <;> simp [h, tr]⟩
  have SB := Kp.mk (fun w => ref_signed b w)
  have SC := Kp.mk (fun w => ref_signed c w)
  rw [← hz]
  clear ht hz
  clear hs
  go_enter Tryd.func35, Tryd.ntmps35
  go_wp2_with fail
  refine (ref_row b _).mono ?_
  rintro e w1 ⟨rfl, hb⟩
  have HB1 := Kp.mk hb
  clear hb
  unfold rowV arrT
  have HL := Kp.mk (row_laid HB1.out (fun i => b.getLsbD i))
  go_wp2_with (first
    | (refine wpList_store_row rfl 79 _ _ rfl w1.heap.size (Alu.rowL fun i => b.getLsbD i).toArray rfl rfl 79 _ (RowT.zero w1).block (infoT _) (by simp [Alu.rowL_length]) (arrT_one _) ?_)
    | (refine wpList_load_row rfl 79 _ rfl w1.heap.size rfl 79 (Alu.rowL fun i => b.getLsbD i).toArray (0, 0) _ HL.out.1.block Tryd.underlying79 rfl (infoT _) ?_))
  refine (SB.out _).mono ?_
  rintro e w4 ⟨rfl, hw⟩
  obtain rfl := hw.symm
  clear hw
  go_wp2_with fail
  refine (SC.out _).mono ?_
  rintro e w4 ⟨rfl, hw⟩
  obtain rfl := hw.symm
  clear hw
  go_wp2_with fail
  refine (ref_truth t _).mono ?_
  rintro e w2 ⟨rfl, hw⟩
  obtain rfl := hw.symm
  clear hw
  go_wp2
  go_ret2
  exact ⟨by rw [← HT.out]; rfl, HL.out.2⟩
set_option maxRecDepth 100000 in
set_option maxHeartbeats 4000000 in
theorem ref_do_no (op : Int) (b c : BitVec 32) (w : World) (hop : ¬ (1 ≤ op ∧ op ≤ 15)) :
    Calls Tryd.prog 35 #[.int .i64 op, .int .u32 (b.toNat : Int), .int .u32 (c.toNat : Int)] w fun e w' => e = .returned (.tuple #[.int .u32 0, .int .i64 7]) ∧ Below w.heap.size w w' := by
  have hzv := zvT
  obtain ⟨s, hs⟩ : ∃ s, s = c.toNat % 32 := ⟨_, rfl⟩
  have hs1 : (c.toNat : Int) % 32 = (s : Int) := by omega
  have HS : Kp (s = c.toNat % 32) := ⟨hs⟩
  have hs32 : (s : Int) < 32 := by omega
  have hs0 : (0 : Int) ≤ (s : Int) := by omega
  have n1 : (op == 1) = false := by rw [beq_eq_false_iff_ne]; omega
  have n2 : (op == 2) = false := by rw [beq_eq_false_iff_ne]; omega
  have n3 : (op == 3) = false := by rw [beq_eq_false_iff_ne]; omega
  have n4 : (op == 4) = false := by rw [beq_eq_false_iff_ne]; omega
  have n5 : (op == 5) = false := by rw [beq_eq_false_iff_ne]; omega
  have n6 : (op == 6) = false := by rw [beq_eq_false_iff_ne]; omega
  have n7 : (op == 7) = false := by rw [beq_eq_false_iff_ne]; omega
  have n8 : (op == 8) = false := by rw [beq_eq_false_iff_ne]; omega
  have n9 : (op == 9) = false := by rw [beq_eq_false_iff_ne]; omega
  have n10 : (op == 10) = false := by rw [beq_eq_false_iff_ne]; omega
  have n11 : (op == 11) = false := by rw [beq_eq_false_iff_ne]; omega
  have n12 : (op == 12) = false := by rw [beq_eq_false_iff_ne]; omega
  have n13 : (op == 13) = false := by rw [beq_eq_false_iff_ne]; omega
  have n14 : (op == 14) = false := by rw [beq_eq_false_iff_ne]; omega
  have n15 : (op == 15) = false := by rw [beq_eq_false_iff_ne]; omega
  clear hop
  clear hs
  go_enter Tryd.func35, Tryd.ntmps35
  go_wp2_with fail
  refine (ref_row b _).mono ?_
  rintro e w1 ⟨rfl, hb⟩
  have HB1 := Kp.mk hb
  clear hb
  unfold rowV arrT
  have HL := Kp.mk (row_laid HB1.out (fun i => b.getLsbD i))
  go_wp2_with (first
    | (refine wpList_store_row rfl 79 _ _ rfl w1.heap.size (Alu.rowL fun i => b.getLsbD i).toArray rfl rfl 79 _ (RowT.zero w1).block (infoT _) (by simp [Alu.rowL_length]) (arrT_one _) ?_)
    | (refine wpList_load_row rfl 79 _ rfl w1.heap.size rfl 79 (Alu.rowL fun i => b.getLsbD i).toArray (0, 0) _ HL.out.1.block Tryd.underlying79 rfl (infoT _) ?_))
  go_ret2
  exact ⟨rfl, HL.out.2⟩
end Go.Proofs.YtpihlaeioepbpaaDoor
