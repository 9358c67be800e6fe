/- 'AluCuts', walked: every Signed, Word, Sext, Field and Place. -/
import Derived.Test.YtpihlaeioepbpaaDoorCutsRef2
import Derived.Test.YtpihlaeioepbpaaDoorErrCode3
import Derived.Deep.RegionHeld3
import Derived.Deep.WholeRow
namespace Go.Proofs.YtpihlaeioepbpaaDoor
open Go Go.RowKit
set_option linter.unusedVariables false

/-- A word, a place, a number of bits, another word, a number. -/
structure CutV where
  x : BitVec 32
  lo : Int
  n : Int
  v : BitVec 32
  num : Int
/-- Its cells. -/
def CutV.row (c : CutV) : List Value := [.int .u32 (c.x.toNat : Int), .int .i64 c.lo, .int .i64 c.n, .int .u32 (c.v.toNat : Int), .int .i64 c.num]
def I64 (z : Int) : Prop := -9223372036854775808 ≤ z ∧ z ≤ 9223372036854775807
def CutV.wf (c : CutV) : Prop := I64 c.lo ∧ I64 c.n ∧ I64 c.num
/-- A slice of them that can be read. -/
structure RdC (w : World) (a : Option Addr) (n cap : Nat) (C : Nat → CutV) : Prop where
  bound : n ≤ 9223372036854775807
  wf : ∀ i, i < n → (C i).wf
  cells : 0 < n → ∃ b off, a = some ⟨b, off, none⟩ ∧ ∀ i, i < n → w.rangeAt b (off + i * 5) (C i).row
theorem range_later {w w' : World} {b o : Nat} {cs : List Value} (h : w.rangeAt b o cs) (hb : Below w.heap.size w w') : w'.rangeAt b o cs := fun j v hv => by
  have := h j v hv
  exact (hb.cell (p := ⟨b, o + j, none⟩) (World.block_lt_of_cell? w _ this)).trans this
/-- Both sides answer alike. -/
theorem cut_word (A : Nat → Addr) (k : Int) : ∃ (z : BitVec 32) (d : Nat), d ≤ 20 ∧
    (∀ w, Errs w allCodes A → Calls Tryd.prog 21 #[.int .i64 k] w fun e w' => e = .returned (.tuple #[.int .u32 (z.toNat : Int), errOf A d]) ∧ Below w.heap.size w w') ∧
    (∀ w, Calls Tryd.prog 29 #[.int .i64 k] w fun e w' => e = .returned (.tuple #[.int .u32 (z.toNat : Int), .int .i64 (d : Int)]) ∧ Below w.heap.size w w') := by
  by_cases h : k < -2147483648 ∨ 4294967295 < k
  · exact ⟨0#32, 4, by omega, fun w hE => (alu_word_no A k w h (hE.sub (by decide))).mono fun e w' h => ⟨h.1, h.2.below⟩, fun w => (ref_word_no k w h).mono fun e w' h => ⟨h.1, by rw [h.2]; exact Below.refl _ _⟩⟩
  · exact ⟨_, 0, by omega, fun w hE => (alu_word_of k _ (by omega) (by omega) rfl w).mono fun e w' h => ⟨h.1, by rw [h.2]; exact Below.refl _ _⟩, fun w => (ref_word k w (by omega) (by omega)).mono fun e w' h => ⟨h.1, by rw [h.2]; exact Below.refl _ _⟩⟩
theorem cut_sext (A : Nat → Addr) (x : BitVec 32) (n : Int) : ∃ (z : BitVec 32) (d : Nat), d ≤ 20 ∧
    (∀ w, Errs w allCodes A → Calls Tryd.prog 20 #[.int .u32 (x.toNat : Int), .int .i64 n] w fun e w' => e = .returned (.tuple #[.int .u32 (z.toNat : Int), errOf A d]) ∧ Below w.heap.size w w') ∧
    (∀ w, Calls Tryd.prog 32 #[.int .u32 (x.toNat : Int), .int .i64 n] w fun e w' => e = .returned (.tuple #[.int .u32 (z.toNat : Int), .int .i64 (d : Int)]) ∧ Below w.heap.size w w') := by
  by_cases h : n < 1 ∨ 32 < n
  · exact ⟨0#32, 12, by omega, fun w hE => (alu_sext_no A x n w h (hE.sub (by decide))).mono fun e w' h => ⟨h.1, h.2.below⟩, fun w => (ref_sext_no x n w h).mono fun e w' h => ⟨h.1, by rw [h.2]; exact Below.refl _ _⟩⟩
  · obtain ⟨k, rfl⟩ := Int.eq_ofNat_of_zero_le (by omega : 0 ≤ n)
    exact ⟨_, 0, by omega, fun w hE => (alu_sext_of x k _ (by omega) (by omega) rfl w).mono fun e w' h => ⟨h.1, by rw [h.2]; exact Below.refl _ _⟩, fun w => ref_sext x k w (by omega) (by omega)⟩
theorem cut_field (A : Nat → Addr) (x : BitVec 32) (lo n : Int) : ∃ (z : BitVec 32) (d : Nat), d ≤ 20 ∧
    (∀ w, Errs w allCodes A → Calls Tryd.prog 19 #[.int .u32 (x.toNat : Int), .int .i64 lo, .int .i64 n] w fun e w' => e = .returned (.tuple #[.int .u32 (z.toNat : Int), errOf A d]) ∧ Below w.heap.size w w') ∧
    (∀ w, Calls Tryd.prog 33 #[.int .u32 (x.toNat : Int), .int .i64 lo, .int .i64 n] w fun e w' => e = .returned (.tuple #[.int .u32 (z.toNat : Int), .int .i64 (d : Int)]) ∧ Below w.heap.size w w') := by
  by_cases h : Within lo n
  · obtain ⟨c1, c2, c3, c4⟩ := h
    obtain ⟨l, rfl⟩ := Int.eq_ofNat_of_zero_le c1
    obtain ⟨k, rfl⟩ := Int.eq_ofNat_of_zero_le (by omega : 0 ≤ n)
    exact ⟨_, 0, by omega, fun w hE => (alu_field_of x l k _ (by omega) (by omega) (by omega) rfl w).mono fun e w' h => ⟨h.1, h.2.below⟩, fun w => ref_field x l k w (by omega) (by omega) (by omega)⟩
  · exact ⟨0#32, 12, by omega, fun w hE => (alu_field_no A x lo n w h (hE.sub (by decide))).mono fun e w' h => ⟨h.1, h.2.below⟩, fun w => (ref_field_no x lo n w h).mono fun e w' h => ⟨h.1, by rw [h.2]; exact Below.refl _ _⟩⟩
theorem cut_place (A : Nat → Addr) (x : BitVec 32) (lo n : Int) (v : BitVec 32) : ∃ (z : BitVec 32) (d : Nat), d ≤ 20 ∧
    (∀ w, Errs w allCodes A → Calls Tryd.prog 18 #[.int .u32 (x.toNat : Int), .int .i64 lo, .int .i64 n, .int .u32 (v.toNat : Int)] w fun e w' => e = .returned (.tuple #[.int .u32 (z.toNat : Int), errOf A d]) ∧ Below w.heap.size w w') ∧
    (∀ w, Calls Tryd.prog 34 #[.int .u32 (x.toNat : Int), .int .i64 lo, .int .i64 n, .int .u32 (v.toNat : Int)] w fun e w' => e = .returned (.tuple #[.int .u32 (z.toNat : Int), .int .i64 (d : Int)]) ∧ Below w.heap.size w w') := by
  by_cases h : Within lo n
  · obtain ⟨c1, c2, c3, c4⟩ := h
    obtain ⟨l, rfl⟩ := Int.eq_ofNat_of_zero_le c1
    obtain ⟨k, rfl⟩ := Int.eq_ofNat_of_zero_le (by omega : 0 ≤ n)
    by_cases hv : v.toNat ≤ (Alu.onesN k).toNat
    · exact ⟨_, 0, by omega, fun w hE => (alu_place_of x l k v _ (by omega) (by omega) (by omega) hv rfl w).mono fun e w' h => ⟨h.1, h.2.below⟩, fun w => (ref_place x l k v w (by omega) (by omega) (by omega)).mono fun e w' h => ⟨h.1.1 hv, h.2⟩⟩
    · exact ⟨0#32, 4, by omega, fun w hE => (alu_place_big A x l k v w (by omega) (by omega) (by omega) hv (hE.sub (by decide))).mono fun e w' h => ⟨h.1, h.2.below⟩, fun w => (ref_place x l k v w (by omega) (by omega) (by omega)).mono fun e w' h => ⟨h.1.2 hv, h.2⟩⟩
  · exact ⟨0#32, 12, by omega, fun w hE => (alu_place_no A x lo n v w h (hE.sub (by decide))).mono fun e w' h => ⟨h.1, h.2.below⟩, fun w => (ref_place_no x lo n v w h).mono fun e w' h => ⟨h.1, by rw [h.2]; exact Below.refl _ _⟩⟩
/-- A block of one Cut of the call's own: its cells, later too. -/
theorem cut_cells {w w' : World} {g : Nat} {c : CutV} (h : w.heap[g]? = some (.cells c.row.toArray 57 (0, 0))) (hb : Below w.heap.size w w') :
    w'.cell? ⟨g, 0, none⟩ = some (.int .u32 (c.x.toNat : Int)) ∧ w'.cell? ⟨g, 1, none⟩ = some (.int .i64 c.lo) ∧ w'.cell? ⟨g, 2, none⟩ = some (.int .i64 c.n) ∧ w'.cell? ⟨g, 3, none⟩ = some (.int .u32 (c.v.toNat : Int)) ∧ w'.cell? ⟨g, 4, none⟩ = some (.int .i64 c.num) := by
  have h2 := (hb.block g (Array.getElem?_eq_some_iff.1 h).1).trans h
  exact ⟨cell_of_row _ g 0 _ _ _ h2, cell_of_row _ g 1 _ _ _ h2, cell_of_row _ g 2 _ _ _ h2, cell_of_row _ g 3 _ _ _ h2, cell_of_row _ g 4 _ _ _ h2⟩
theorem cut_one (c : CutV) : c.row.toArray.all (·.oneCell') = true := by simp [CutV.row, Value.oneCell']
theorem heldC {w w' : World} {g : Nat} {c : CutV} (h : w.heap[g]? = some (.cells c.row.toArray 57 (0, 0))) (hb : Below w.heap.size w w') : Below w.heap.size w w' ∧ w'.cell? ⟨g, 0, none⟩ = some (.int .u32 (c.x.toNat : Int)) := ⟨hb, (cut_cells h hb).1⟩
noncomputable def zCut : Array Value := #[.int .u32 0, .int .i64 0, .int .i64 0, .int .u32 0, .int .i64 0]
theorem zvCut (w : World) : (zeroValue 57).run Tryd.prog w = .ok (.agg zCut) w := by kernel_rfl
theorem infoCut : (Tryd.prog.info? 57).map (·.size) = some 5 := by kernel_rfl
set_option maxRecDepth 100000 in
set_option maxHeartbeats 4000000 in
theorem law_AluCuts (A : Nat → Addr) (a : Option Addr) (n cap : Nat) (C : Nat → CutV) (w : World) (h : RdC w a n cap C) (hE : Errs w allCodes A) (hT : TypeVar w) :
    Calls Tryd.prog 9 #[.slice a n cap] w fun e w' => e = .returned (.bool true) ∧ Below w.heap.size w w' := by
  have H0 := Kp.mk h
  have HE0 := Kp.mk hE
  have HT0 := Kp.mk hT
  have hn := h.bound
  have hzv := zvCut
  clear h hE hT
  go_enter Tryd.func9, Tryd.ntmps9
  go_wp2_with fail
  refine (alu_field_of 305419896#32 8 8 86#32 (by omega) (by omega) (by omega) (by decide) _).mono ?_
  rintro e w1 ⟨rfl, hd⟩
  have B1 := Kp.mk hd.below
  clear hd
  go_wp2
  go_loopw [5] (fun i wr => ∃ k : Nat, k ≤ n ∧ i = .int .i64 k ∧ Kp (Below w.heap.size w wr)) (fun i _ => n - (intOf i).toNat)
  case atStart => exact ⟨0, by omega, rfl, B1⟩
  case round =>
    obtain ⟨k, hk, rfl, HB⟩ := hrel
    obtain ⟨w2, rfl⟩ : ∃ w2 : World, w2 = wr := ⟨_, rfl⟩
    by_cases hlt : k < n
    · have hbt : decide ((k : Int) < n) = true := decide_eq_true (by omega)
      have hk0 : (0 : Int) ≤ (k : Int) := by omega
      have hkn : (k : Int) < (n : Int) := by omega
      obtain ⟨b, off, rfl, hc⟩ := H0.out.cells (by omega)
      have HC := Kp.mk (range_later (hc k hlt) HB.out)
      obtain ⟨c, hcc⟩ : ∃ c, c = C k := ⟨_, rfl⟩
      rw [← hcc] at HC
      have HWF : Kp c.wf := ⟨by rw [hcc]; exact H0.out.wf k hlt⟩
      clear hc hcc
      obtain ⟨z1, d1, hd1, a1, r1⟩ := cut_word A c.num
      obtain ⟨z2, d2, hd2, a2, r2⟩ := cut_sext A c.x c.n
      obtain ⟨z3, d3, hd3, a3, r3⟩ := cut_field A c.x c.lo c.n
      obtain ⟨z4, d4, hd4, a4, r4⟩ := cut_place A c.x c.lo c.n c.v
      have A1 := Kp.mk a1; have R1 := Kp.mk r1
      have A2 := Kp.mk a2; have R2 := Kp.mk r2
      have A3 := Kp.mk a3; have R3 := Kp.mk r3
      have A4 := Kp.mk a4; have R4 := Kp.mk r4
      clear a1 r1 a2 r2 a3 r3 a4 r4
      have BW := Kp.mk (below_setRow ((Below.refl w2.heap.size w2).alloc (Nat.le_refl _) (.cells zCut 57)) (Nat.le_refl _) c.row.toArray)
      have HBK : Kp (((w2.alloc (.cells zCut 57)).setRow w2.heap.size c.row.toArray).heap[w2.heap.size]? = some (.cells c.row.toArray 57 (0, 0))) := ⟨setRow_heap _ _ _ _ _ (0, 0) (heap_alloc_last w2 _)⟩
      obtain ⟨q0, q1, q2, q3, q4⟩ := cut_cells HBK.out (Below.refl _ _)
      have B3 := Kp.mk (HB.out.trans (BW.out.mono HB.out.size))
      have hz1 : ((z1.toNat : Int) != (z1.toNat : Int)) = false := by simp
      have hz2 : ((z2.toNat : Int) != (z2.toNat : Int)) = false := by simp
      have hz3 : ((z3.toNat : Int) != (z3.toNat : Int)) = false := by simp
      have hz4 : ((z4.toNat : Int) != (z4.toNat : Int)) = false := by simp
      have he1 : ((d1 : Int) != (d1 : Int)) = false := by simp
      have he2 : ((d2 : Int) != (d2 : Int)) = false := by simp
      have he3 : ((d3 : Int) != (d3 : Int)) = false := by simp
      have he4 : ((d4 : Int) != (d4 : Int)) = false := by simp
      have hss : (c.x.toInt != c.x.toInt) = false := by simp
      go_wp2_with (first
        | (refine wpList_load_mid rfl 57 _ rfl b (off + k * 5) rfl c.row _ HC.out Tryd.underlying57 rfl infoCut ?_)
        | (refine wpList_store_row rfl 57 _ _ rfl w2.heap.size c.row.toArray rfl rfl 57 zCut (heap_alloc_last w2 _) infoCut rfl (cut_one c) ?_))
      refine (R1.out _).mono ?_
      rintro e w4 ⟨rfl, hb⟩
      have B4 := Kp.mk (B3.out.trans (hb.mono B3.out.size))
      have C4 := Kp.mk (hb)
      obtain ⟨p0, p1, p2, p3, p4⟩ := cut_cells HBK.out C4.out
      clear hb q0 q1 q2 q3 q4
      go_wp2_with fail
      refine (A1.out _ (HE0.out.later B4.out)).mono ?_
      rintro e w5 ⟨rfl, hb⟩
      have B5 := Kp.mk (B4.out.trans (hb.mono B4.out.size))
      have C5 := Kp.mk (C4.out.trans (hb.mono C4.out.size))
      clear hb p0 p1 p2 p3 p4
      have HK5 := Kp.mk ((C5.out.block _ (Array.getElem?_eq_some_iff.1 HBK.out).1).trans HBK.out)
      go_wp2
      go_region_held3 (fun v => Below w5.heap.size w5 v ∧ v.cell? ⟨w2.heap.size, 0, none⟩ = some (.int .u32 (c.x.toNat : Int))) (first | assumption | exact heldC HK5.out (Drew.once w5).below | exact heldC HK5.out ((And.left ‹Below w5.heap.size w5 _ ∧ _›).trans (hb6.mono (And.left ‹Below w5.heap.size w5 _ ∧ _›).size))) (first | (go_at_call 14; refine (alu_signed _ _).mono ?_; rintro e w' ⟨rfl, rfl⟩) | (go_at_call 30; refine (ref_signed _ _).mono ?_; rintro e w' ⟨rfl, hw'⟩; obtain rfl := hw'.symm) | (go_at_call 31; refine (law_code A d1 _ hd1 (HE0.out.later (B5.out.trans ((And.left ‹Below w5.heap.size w5 _ ∧ _›).mono B5.out.size))) (HT0.out.later (B5.out.trans ((And.left ‹Below w5.heap.size w5 _ ∧ _›).mono B5.out.size)))).mono ?_; rintro e w6 ⟨rfl, hb6⟩))
      all_goals (
        have CX := Kp.mk (And.left ‹Below w5.heap.size w5 w6 ∧ _›)
        have B6 := Kp.mk (B5.out.trans (CX.out.mono B5.out.size))
        have C6 := Kp.mk (C5.out.trans (CX.out.mono C5.out.size))
        obtain ⟨p0, p1, p2, p3, p4⟩ := cut_cells HBK.out C6.out
        clear hb6
        go_wp2_with fail
        refine (R2.out _).mono ?_
        rintro e w7 ⟨rfl, hb⟩
        have B7 := Kp.mk (B6.out.trans (hb.mono B6.out.size))
        have C7 := Kp.mk (C6.out.trans (hb.mono C6.out.size))
        clear p0 p1 p2 p3 p4 hb
        obtain ⟨p0, p1, p2, p3, p4⟩ := cut_cells HBK.out C7.out
        go_wp2_with fail
        refine (A2.out _ (HE0.out.later B7.out)).mono ?_
        rintro e w8 ⟨rfl, hb⟩
        have B8 := Kp.mk (B7.out.trans (hb.mono B7.out.size))
        have C8 := Kp.mk (C7.out.trans (hb.mono C7.out.size))
        clear p0 p1 p2 p3 p4 hb
        obtain ⟨p0, p1, p2, p3, p4⟩ := cut_cells HBK.out C8.out
        go_wp2_with fail
        refine (law_code A d2 _ hd2 (HE0.out.later B8.out) (HT0.out.later B8.out)).mono ?_
        rintro e w9 ⟨rfl, hb⟩
        have B9 := Kp.mk (B8.out.trans (hb.mono B8.out.size))
        have C9 := Kp.mk (C8.out.trans (hb.mono C8.out.size))
        clear p0 p1 p2 p3 p4 hb
        obtain ⟨p0, p1, p2, p3, p4⟩ := cut_cells HBK.out C9.out
        go_wp2_with fail
        refine (R3.out _).mono ?_
        rintro e w10 ⟨rfl, hb⟩
        have B10 := Kp.mk (B9.out.trans (hb.mono B9.out.size))
        have C10 := Kp.mk (C9.out.trans (hb.mono C9.out.size))
        clear p0 p1 p2 p3 p4 hb
        obtain ⟨p0, p1, p2, p3, p4⟩ := cut_cells HBK.out C10.out
        go_wp2_with fail
        refine (A3.out _ (HE0.out.later B10.out)).mono ?_
        rintro e w11 ⟨rfl, hb⟩
        have B11 := Kp.mk (B10.out.trans (hb.mono B10.out.size))
        have C11 := Kp.mk (C10.out.trans (hb.mono C10.out.size))
        clear p0 p1 p2 p3 p4 hb
        obtain ⟨p0, p1, p2, p3, p4⟩ := cut_cells HBK.out C11.out
        go_wp2_with fail
        refine (law_code A d3 _ hd3 (HE0.out.later B11.out) (HT0.out.later B11.out)).mono ?_
        rintro e w12 ⟨rfl, hb⟩
        have B12 := Kp.mk (B11.out.trans (hb.mono B11.out.size))
        have C12 := Kp.mk (C11.out.trans (hb.mono C11.out.size))
        clear p0 p1 p2 p3 p4 hb
        obtain ⟨p0, p1, p2, p3, p4⟩ := cut_cells HBK.out C12.out
        go_wp2_with fail
        refine (R4.out _).mono ?_
        rintro e w13 ⟨rfl, hb⟩
        have B13 := Kp.mk (B12.out.trans (hb.mono B12.out.size))
        have C13 := Kp.mk (C12.out.trans (hb.mono C12.out.size))
        clear p0 p1 p2 p3 p4 hb
        obtain ⟨p0, p1, p2, p3, p4⟩ := cut_cells HBK.out C13.out
        go_wp2_with fail
        refine (A4.out _ (HE0.out.later B13.out)).mono ?_
        rintro e w14 ⟨rfl, hb⟩
        have B14 := Kp.mk (B13.out.trans (hb.mono B13.out.size))
        have C14 := Kp.mk (C13.out.trans (hb.mono C13.out.size))
        clear p0 p1 p2 p3 p4 hb
        obtain ⟨p0, p1, p2, p3, p4⟩ := cut_cells HBK.out C14.out
        go_wp2_with fail
        refine (law_code A d4 _ hd4 (HE0.out.later B14.out) (HT0.out.later B14.out)).mono ?_
        rintro e w15 ⟨rfl, hb⟩
        have B15 := Kp.mk (B14.out.trans (hb.mono B14.out.size))
        have C15 := Kp.mk (C14.out.trans (hb.mono C14.out.size))
        clear p0 p1 p2 p3 p4 hb
        obtain ⟨p0, p1, p2, p3, p4⟩ := cut_cells HBK.out C15.out
        go_wp2
        go_roundw
        case rel => exact ⟨k + 1, (by omega), (by go_num), B15⟩
        case measure => simp [intOf]; omega)
    · have : k = n := by omega
      subst this
      have hbt : decide ((k : Int) < (k : Int)) = false := decide_eq_false (by omega)
      go_wp2
      go_ret
      exact ⟨rfl, HB.out⟩
end Go.Proofs.YtpihlaeioepbpaaDoor
