/- The document's rows of bits: Row and Number, walked. -/
import Derived.Test.YtpihlaeioepbpaaDoorRowB
import Derived.Test.YtpihlaeioepbpaaDoorAluPure
namespace Go.Proofs.YtpihlaeioepbpaaDoor
open Go Go.RowKit
set_option linter.unusedVariables false

namespace Alu
theorem odd_bit (x : R) (k m : Nat) (hm : m = x.toNat / 2 ^ k) : ((m : Int) % 2 == 1) = x.getLsbD k := by
  rw [BitVec.getLsbD, Nat.testBit, Nat.shiftRight_eq_div_pow, ← hm, Nat.and_comm, Nat.and_one_is_mod]
  rcases Nat.mod_two_eq_zero_or_one m with e | e
  · have : ((m : Int) % 2 == 1) = false := by rw [beq_eq_false_iff_ne]; omega
    rw [this, e]; rfl
  · have : ((m : Int) % 2 == 1) = true := by rw [beq_iff_eq]; omega
    rw [this, e]; rfl
theorem half_bit (x : R) (k m : Nat) (hm : m = x.toNat / 2 ^ k) : m / 2 = x.toNat / 2 ^ (k + 1) := by
  rw [hm, Nat.div_div_eq_div_mul, Nat.pow_succ]
theorem top_zero (x : R) : x.toNat / 2 ^ 32 = 0 := Nat.div_eq_of_lt x.isLt
theorem double_bit (x : R) (k : Nat) : x.toNat / 2 ^ k = 2 * (x.toNat / 2 ^ (k + 1)) + (if x.getLsbD k then 1 else 0) := by
  have h := half_bit x k _ rfl
  have hb : x.getLsbD k = decide (x.toNat / 2 ^ k % 2 = 1) := by
    rw [BitVec.getLsbD, Nat.testBit, Nat.shiftRight_eq_div_pow, Nat.and_comm, Nat.and_one_is_mod]
    rcases Nat.mod_two_eq_zero_or_one (x.toNat / 2 ^ k) with e | e <;> rw [e] <;> rfl
  rw [← h, hb]
  by_cases e : x.toNat / 2 ^ k % 2 = 1
  · simp [e]; omega
  · simp [e]; omega
end Alu
/-- The row of a word, as a value. -/
def rowV (x : BitVec 32) : Value := arrT fun i => x.getLsbD i
set_option maxRecDepth 100000 in
set_option maxHeartbeats 1000000 in
theorem ref_row (x : BitVec 32) (w : World) :
    Calls Tryd.prog 58 #[.int .u32 (x.toNat : Int)] w fun e w' => e = .returned (rowV x) ∧ Below w.heap.size w w' := by
  have hzv := zvT
  have hx := Alu.lt32 x
  have hx0 : (0 : Int) ≤ (x.toNat : Int) := by omega
  go_enter Tryd.func58, Tryd.ntmps58
  go_wp2
  go_loopw [4, 5] (fun n i wr => ∃ k m : Nat, k ≤ 32 ∧ i = .int .i64 k ∧ n = .int .i64 m ∧ Kp (m = x.toNat / 2 ^ k) ∧ Kp (RowT wr 79 w.heap.size w.heap.size (fun _ => false)) ∧ Kp (RowT wr 79 w.heap.size (w.heap.size + 1) (fun i => if i < k then x.getLsbD i else false)) ∧ Kp (Below w.heap.size w wr)) (fun _ i _ => 32 - (intOf i).toNat)
  case atStart =>
    have b1 := (Below.refl w.heap.size w).alloc (Nat.le_refl _) (.cells zT 79)
    have h2 := ((RowT.zero (w.alloc (.cells zT 79))).mono b1.size).congr (f' := fun i => if i < 0 then x.getLsbD i else false) (fun i _ => by simp)
    rw [show (w.alloc (.cells zT 79)).heap.size = w.heap.size + 1 from Array.size_push _] at h2
    exact ⟨0, x.toNat, by omega, rfl, rfl, ⟨by simp⟩, ⟨(RowT.zero w).later ((Below.refl _ _).alloc (Nat.le_refl _) _)⟩, ⟨h2⟩, ⟨b1.alloc b1.size _⟩⟩
  case round =>
    clear hzv
    obtain ⟨k, m, hk, rfl, rfl, HM, HR, HS, HB⟩ := hrel
    by_cases hlt : k < 32
    · have hb : decide ((k : Int) < 32) = true := decide_eq_true (by omega)
      obtain ⟨c, hc⟩ : ∃ c, c = x.getLsbD k := ⟨_, rfl⟩
      have hodd := Alu.odd_bit x k m HM.out
      rw [← hc] at hodd
      obtain ⟨m2, hm2⟩ : ∃ m2, m2 = m / 2 := ⟨_, rfl⟩
      have hhalf : (m : Int) / 2 = (m2 : Int) := by omega
      have HM2 : Kp (m2 = x.toNat / 2 ^ (k + 1)) := ⟨by rw [hm2]; exact Alu.half_bit x k m HM.out⟩
      have hml : m < 4294967296 := by rw [HM.out]; exact Nat.lt_of_le_of_lt (Nat.div_le_self _ _) x.isLt
      have hm2l : (m2 : Int) < 4294967296 := by omega
      have hm2g : (0 : Int) ≤ (m2 : Int) := by omega
      have HC := Kp.mk hc
      have hc3 := HS.out.cell k hlt
      have hf3 := HS.out.frozen k
      clear hc hm2 hml
      go_wp2
      go_roundw
      case rel =>
        refine ⟨k + 1, m2, by omega, by go_num, rfl, HM2, ⟨HR.out.otherCell (by omega) _⟩, ⟨(HS.out.stored k c).congr (fun i hi => ?_)⟩, ⟨HB.out.setCell (p := ⟨w.heap.size + 1, k, none⟩) (Nat.le_succ _) _⟩⟩
        by_cases e : i = k
        · subst e; simp [HC.out]
        · have : (i < k + 1) ↔ (i < k) := by omega
          simp [e, this]
      case measure => simp [intOf]; omega
    · have : k = 32 := by omega
      subst this
      have HS1 : Kp (RowT wr 79 w.heap.size (w.heap.size + 1) (fun i => x.getLsbD i)) := ⟨HS.out.congr (fun i hi => by simp [hi])⟩
      go_wp2_with (first
        | (refine wpList_load_row rfl 79 _ rfl (w.heap.size + 1) rfl 79 (Alu.rowL fun i => x.getLsbD i).toArray (0, 0) _ HS1.out.block Tryd.underlying79 rfl (infoT _) ?_)
        | (refine wpList_store_row rfl 79 _ _ rfl w.heap.size (Alu.rowL fun i => x.getLsbD i).toArray rfl rfl 79 _ HR.out.block (infoT _) (by simp [Alu.rowL_length]) (arrT_one _) ?_))
      refine bodyPost_ret (results_cell_row (p := 2) (ty := 79) rfl _ _ w.heap.size 79 (Alu.rowL fun i => x.getLsbD i).toArray (0, 0) _ rfl (HR.out.all _).block Tryd.underlying79 rfl (infoT _)) rfl ?_
      exact ⟨rfl, below_setRow HB.out (Nat.le_refl _) _⟩
set_option maxRecDepth 100000 in
set_option maxHeartbeats 1000000 in
theorem ref_number (f : Nat → Bool) (x : BitVec 32) (w : World) (hf : ∀ i, i < 32 → f i = x.getLsbD i) :
    Calls Tryd.prog 59 #[arrT f] w fun e w' => e = .returned (.int .u32 (x.toNat : Int)) ∧ Below w.heap.size w w' := by
  have HF := Kp.mk hf
  have HR := Kp.mk (RowT.new w 79 f)
  have HB := Kp.mk ((Below.refl w.heap.size w).alloc (Nat.le_refl _) (.cells (Alu.rowL f).toArray 79))
  clear hf
  unfold arrT
  go_enter Tryd.func59, Tryd.ntmps59
  go_wp2
  go_loop [3, 4] (fun n i => ∃ j m : Nat, j ≤ 32 ∧ i = .int .i64 ((j : Int) - 1) ∧ n = .int .i64 m ∧ Kp (m = x.toNat / 2 ^ j)) (fun _ i => (intOf i + 1).toNat)
  case atStart => exact ⟨32, 0, by omega, by go_num, rfl, ⟨(Alu.top_zero x).symm⟩⟩
  case round =>
    obtain ⟨j, m, hj, rfl, rfl, HM⟩ := hrel
    by_cases h0 : j = 0
    · subst h0
      have hb0 : decide ((0 : Int) ≤ ((0 : Nat) : Int) - 1) = false := by decide
      have hm : m = x.toNat := by have := HM.out; simpa using this
      subst hm
      have hx := Alu.lt32 x
      have hcv : (x.toNat : Int) % 4294967296 = (x.toNat : Int) := by omega
      go_wp2
      go_ret
      exact ⟨rfl, HB.out⟩
    · obtain ⟨q, rfl⟩ : ∃ q, j = q + 1 := ⟨j - 1, by omega⟩
      have eq1 : ((q + 1 : Nat) : Int) - 1 = (q : Int) := by omega
      rw [eq1]
      have hb0 : decide ((0 : Int) ≤ (q : Int)) = true := decide_eq_true (by omega)
      have hq32 : q < 32 := by omega
      have hq0 : (0 : Int) ≤ (q : Int) := by omega
      have hqi : (q : Int) < 32 := by omega
      have hcell := HR.out.cell q hq32
      rw [HF.out q hq32] at hcell
      have hd := Alu.double_bit x q
      have hml : m ≤ 4294967296 := by rw [HM.out]; exact Nat.le_trans (Nat.div_le_self _ _) (by have := x.isLt; omega)
      have HQ := Kp.mk hq32
      rw [← HM.out] at hd
      clear h0 eq1
      cases hbit : x.getLsbD q
      · rw [hbit] at hcell hd
        obtain ⟨m2, hm2⟩ : ∃ m2, m2 = 2 * m := ⟨_, rfl⟩
        have h2 : 2 * (m : Int) = (m2 : Int) := by omega
        have HM2 : Kp (m2 = x.toNat / 2 ^ q) := ⟨by rw [hd, hm2]; simp⟩
        have HML := Kp.mk hml
        have hm2l : (m2 : Int) ≤ 8589934592 := by omega
        clear hd hbit hm2 hml
        go_wp2
        go_round
        case rel => exact ⟨q, m2, by have := HQ.out; omega, by go_num, rfl, HM2⟩
        case measure => simp [intOf] <;> omega
      · rw [hbit] at hcell hd
        obtain ⟨m2, hm2⟩ : ∃ m2, m2 = 2 * m := ⟨_, rfl⟩
        have h2 : 2 * (m : Int) = (m2 : Int) := by omega
        have HM2 : Kp (m2 + 1 = x.toNat / 2 ^ q) := ⟨by rw [hd, hm2]; simp⟩
        have hm2l : (m2 : Int) ≤ 8589934592 := by omega
        clear hd hbit hm2 hml
        go_wp2
        go_round
        case rel => exact ⟨q, m2 + 1, by have := HQ.out; omega, by go_num, by go_num, HM2⟩
        case measure => simp [intOf] <;> omega
end Go.Proofs.YtpihlaeioepbpaaDoor
