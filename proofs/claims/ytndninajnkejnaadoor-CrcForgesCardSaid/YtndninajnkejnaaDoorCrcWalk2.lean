/- The check sum, walked: a row of bytes by the table; the document's way. -/
import Derived.Test.YtndninajnkejnaaDoorCrcWalk1
namespace Go.Proofs.YtndninajnkejnaaDoor
open Go Go.RowKit
set_option linter.unusedVariables false

theorem crc_table' (w : World) :
    Calls Tryd.prog 61 #[] w fun e w' => e = .returned (.pointer (some ⟨w.heap.size, 0, none⟩)) ∧ Below w.heap.size w w' ∧ ∀ i, i < 256 → w'.cell? ⟨w.heap.size, i, none⟩ = some (.int .u32 ((Crc.steps 8 (BitVec.ofNat 32 i)).toNat : Int)) :=
  (crc_table w).mono fun e w' ⟨he, hw⟩ => ⟨he, by rw [hw]; exact (Below.refl _ _).alloc (Nat.le_refl _) _, fun i hi => by rw [hw, tab_cell w 256 i hi, if_pos hi]⟩
set_option maxRecDepth 100000 in
theorem crc_move (r : BitVec 32) (a : Option Addr) (n cap : Nat) (l : List (BitVec 8)) (w : World) (h : RdB w a n cap l) :
    Calls Tryd.prog 43 #[.int .u32 (r.toNat : Int), .slice a n cap] w fun e w' => e = .returned (.int .u32 ((Crc.run r l).toNat : Int)) ∧ Below w.heap.size w w' := by
  by_cases hn : n = 0
  · subst hn
    have hl : l = [] := List.eq_nil_of_length_eq_zero h.len
    subst hl
    have h0 : (((0 : Nat) : Int) == 0) = true := rfl
    go_enter Tryd.func43, Tryd.ntmps43
    go_wp2
    go_ret
    exact ⟨rfl, Below.refl _ _⟩
  · obtain ⟨b, off, rfl, hc⟩ := h.cells (by omega)
    have hl := h.len
    have hlen := h.le
    have hlt : b < w.heap.size := World.block_lt_of_cell? w ⟨b, off + 0, none⟩ (hc 0 (by omega))
    have h0 : ((n : Int) == 0) = false := by simp; omega
    have hpos : 0 < n := by omega
    clear h hn
    have HL := Kp.mk hl; clear hl
    have HC : Kp (∀ j, j < n → w.cell? ⟨b, off + j, none⟩ = some (.int .u8 ((l.getD j 0#8).toNat : Int))) := Kp.mk hc
    clear hc
    go_enter Tryd.func43, Tryd.ntmps43
    go_wp2_with (go_at_call 61; refine (crc_table' _).mono ?_; rintro e w1 ⟨rfl, hb, ht⟩)
    have HT : Kp (∀ i, i < 256 → w1.cell? ⟨w.heap.size, i, none⟩ = some (.int .u32 ((Crc.steps 8 (BitVec.ofNat 32 i)).toNat : Int))) := Kp.mk ht
    clear ht
    have HC' : Kp (∀ j, j < n → w1.cell? ⟨b, off + j, none⟩ = some (.int .u8 ((l.getD j 0#8).toNat : Int))) := Kp.mk (fun j hj => (hb.cell (p := ⟨b, off + j, none⟩) hlt).trans (HC.out j hj))
    clear HC
    have HB := Kp.mk hb; clear hb
    go_loop [0, 15] (fun x i => ∃ k : Nat, k ≤ n ∧ i = .int .i64 k ∧ x = .int .u32 ((Crc.run r (l.take k)).toNat : Int)) (fun _ i => n - (intOf i).toNat)
    case atStart => exact ⟨0, by omega, rfl, rfl⟩
    case round =>
      obtain ⟨k, hk, rfl, rfl⟩ := hrel
      obtain ⟨x, hx⟩ : ∃ x, x = Crc.run r (l.take k) := ⟨_, rfl⟩
      rw [← hx]
      have HX := Kp.mk hx; clear hx
      have hxl : (x.toNat : Int) < 4294967296 := by have := x.isLt; omega
      have hx0 : 0 ≤ (x.toNat : Int) := by omega
      by_cases hlt : k < n
      · have hcell := HC'.out k hlt
        obtain ⟨c, hcc⟩ : ∃ c, c = l.getD k 0#8 := ⟨_, rfl⟩
        rw [← hcc] at hcell
        have HCC := Kp.mk hcc; clear hcc
        obtain ⟨j, hj⟩ : ∃ j : BitVec 8, j = x.setWidth 8 ^^^ c := ⟨_, rfl⟩
        have hidx : bits .xor .u8 ((x.toNat : Int) % 256) (c.toNat : Int) = (j.toNat : Int) := by rw [hj]; exact Crc.idx8 x c
        have hj2 : (j.toNat : Int) < 256 := by have := j.isLt; omega
        have hct := HT.out j.toNat (by omega)
        obtain ⟨y, hy⟩ : ∃ y, y = Crc.steps 8 (BitVec.ofNat 32 j.toNat) := ⟨_, rfl⟩
        rw [← hy] at hct
        have HJ := Kp.mk hj; clear hj
        have HY := Kp.mk hy; clear hy
        go_wp2
        go_round
        case rel => exact ⟨k + 1, by omega, by go_num, by rw [HY.out, HJ.out, Crc.mv_int, Crc.run_take r l k (by rw [HL.out]; exact hlt), ← HX.out, ← HCC.out]⟩
        case measure => simp [intOf]; omega
      · have : k = n := by omega
        subst this
        go_wp2
        go_ret
        exact ⟨ret_int (by rw [HX.out, List.take_of_length_le (by rw [HL.out]; exact Nat.le_refl _)]), HB.out⟩


set_option maxRecDepth 100000 in
theorem ref_move (r : BitVec 32) (c : BitVec 8) (w : World) :
    Calls Tryd.prog 55 #[.int .u32 (r.toNat : Int), .int .u8 (c.toNat : Int)] w fun e w' => e = .returned (.int .u32 ((Crc.mv r c).toNat : Int)) ∧ w = w' := by
  obtain ⟨y, hy⟩ : ∃ y : BitVec 32, y = r ^^^ c.setWidth 32 := ⟨_, rfl⟩
  have hin : bits .xor .u32 (r.toNat : Int) (c.toNat : Int) = (y.toNat : Int) := by
    rw [hy, ← Crc.xor32, BitVec.toNat_setWidth, Nat.mod_eq_of_lt (by have := c.isLt; omega)]
  have HY := Kp.mk hy; clear hy
  have hc0 : 0 ≤ (c.toNat : Int) := by omega
  have hc1 : (c.toNat : Int) < 256 := by have := c.isLt; omega
  go_enter Tryd.func55, Tryd.ntmps55
  go_wp2
  go_loop [0, 5] (fun v i => ∃ m : Nat, m ≤ 8 ∧ i = .int .i64 m ∧ v = .int .u32 ((Crc.steps m y).toNat : Int)) (fun _ i => 8 - (intOf i).toNat)
  case atStart => exact ⟨0, by omega, rfl, rfl⟩
  case round =>
    obtain ⟨m, hm, rfl, rfl⟩ := hrel
    obtain ⟨x, hx⟩ : ∃ x, x = Crc.steps m y := ⟨_, rfl⟩
    rw [← hx]
    have HX := Kp.mk hx; clear hx
    have hx0 : 0 ≤ (x.toNat : Int) := by omega
    have hx1 : (x.toNat : Int) < 4294967296 := by have := x.isLt; omega
    by_cases hlt : m < 8
    · have hb : decide ((m : Int) < 8) = true := decide_eq_true (by omega)
      by_cases h : (bits BinOp.and .u32 (x.toNat : Int) 1 == 1) = true
      · have HE := Kp.mk (Crc.step_odd_int x h)
        go_wp2
        go_round
        case rel => exact ⟨m + 1, by omega, by go_num, by rw [HE.out, HX.out, Crc.steps_succ']⟩
        case measure => simp [intOf]; omega
      · have h : (bits BinOp.and .u32 (x.toNat : Int) 1 == 1) = false := by simpa using h
        have HE := Kp.mk (Crc.step_even_int x h)
        go_wp2
        go_round
        case rel => exact ⟨m + 1, by omega, by go_num, by rw [HE.out, HX.out, Crc.steps_succ']⟩
        case measure => simp [intOf]; omega
    · have : m = 8 := by omega
      subst this
      go_wp2
      go_ret
      exact ⟨ret_int (by rw [HX.out, HY.out]; rfl), rfl⟩

theorem ones_int (x : BitVec 32) : bits .xor .u32 (x.toNat : Int) 4294967295 = ((x ^^^ Crc.ones).toNat : Int) := by
  rw [← Crc.xor32]; rfl

set_option maxRecDepth 100000 in
theorem ref_sum (a : Option Addr) (n cap : Nat) (l : List (BitVec 8)) (w : World) (h : RdB w a n cap l) :
    Calls Tryd.prog 44 #[.slice a n cap] w fun e w' => e = .returned (.int .u32 ((Crc.sum l).toNat : Int)) ∧ w = w' := by
  have hl := h.len
  have hlen := h.le
  have hc := h.cells
  clear h
  have HL := Kp.mk hl; clear hl
  have HC : Kp (0 < n → ∃ b off, a = some ⟨b, off, none⟩ ∧ ∀ j, j < n → w.cell? ⟨b, off + j, none⟩ = some (.int .u8 ((l.getD j 0#8).toNat : Int))) := Kp.mk hc
  clear hc
  go_enter Tryd.func44, Tryd.ntmps44
  go_wp2
  go_loop [3, 4] (fun x i => ∃ k : Nat, k ≤ n ∧ i = .int .i64 k ∧ x = .int .u32 ((Crc.run Crc.ones (l.take k)).toNat : Int)) (fun _ i => n - (intOf i).toNat)
  case atStart => exact ⟨0, by omega, rfl, rfl⟩
  case round =>
    obtain ⟨k, hk, rfl, rfl⟩ := hrel
    obtain ⟨x, hx⟩ : ∃ x, x = Crc.run Crc.ones (l.take k) := ⟨_, rfl⟩
    rw [← hx]
    have HX := Kp.mk hx; clear hx
    by_cases hlt : k < n
    · obtain ⟨b, off, rfl, hc⟩ := HC.out (by omega)
      have hcell := hc k hlt
      clear hc HC
      obtain ⟨c, hcc⟩ : ∃ c, c = l.getD k 0#8 := ⟨_, rfl⟩
      rw [← hcc] at hcell
      have HCC := Kp.mk hcc; clear hcc
      go_wp2_with (go_at_call 55; refine (ref_move _ _ _).mono ?_; rintro e w' ⟨rfl, rfl⟩)
      go_round
      case rel => exact ⟨k + 1, by omega, by go_num, by rw [Crc.run_take _ l k (by rw [HL.out]; exact hlt), ← HX.out, ← HCC.out]⟩
      case measure => simp [intOf]; omega
    · have : k = n := by omega
      subst this
      have HO := Kp.mk (ones_int x)
      go_wp2
      go_ret
      exact ⟨ret_int (by rw [HO.out, HX.out, List.take_of_length_le (by rw [HL.out]; exact Nat.le_refl _)]; rfl), rfl⟩

end Go.Proofs.YtndninajnkejnaaDoor
