/- The check sum, walked: step, the table, a row of bytes. -/
import Derived.Test.YtndninajnkejnaaDoorProg
import Derived.Test.YtndninajnkejnaaDoorBase
import Derived.Test.YtndninajnkejnaaDoorCrcPure
namespace Go.Proofs.YtndninajnkejnaaDoor
open Go Go.RowKit
set_option linter.unusedVariables false

theorem crc_step (x : BitVec 32) (w : World) :
    Calls Tryd.prog 52 #[.int .u32 (x.toNat : Int)] w fun e w' => e = .returned (.int .u32 ((Crc.step x).toNat : Int)) ∧ w = w' := by
  have hx := x.isLt
  have h1 : 0 ≤ (x.toNat : Int) := by omega
  have h2 : (x.toNat : Int) < 4294967296 := by omega
  clear hx
  by_cases h : (bits BinOp.and .u32 (x.toNat : Int) 1 == 1) = true
  · have E := Crc.step_odd_int x h
    have HE := Kp.mk E; clear E
    go_enter Tryd.func52, Tryd.ntmps52
    go_wp2
    go_ret
    exact ⟨ret_int HE.out, rfl⟩
  · have h : (bits BinOp.and .u32 (x.toNat : Int) 1 == 1) = false := by simpa using h
    have E := Crc.step_even_int x h
    have HE := Kp.mk E; clear E
    go_enter Tryd.func52, Tryd.ntmps52
    go_wp2
    go_ret
    exact ⟨ret_int HE.out, rfl⟩

def z256 : Array Value := Array.replicate 256 (.int .u32 0)
theorem zv256 (w : World) : (zeroValue 84).run Tryd.prog w = .ok (.agg z256) w := by kernel_rfl
/-- The table, its first k places laid. -/
def tabRow (k : Nat) : Array Value := Array.ofFn (n := 256) fun i => Value.int .u32 (if i.val < k then ((Crc.steps 8 (BitVec.ofNat 32 i.val)).toNat : Int) else 0)
theorem tabRow_get (k i : Nat) (h : i < 256) : (tabRow k)[i]? = some (.int .u32 (if i < k then ((Crc.steps 8 (BitVec.ofNat 32 i)).toNat : Int) else 0)) := by
  unfold tabRow; simp [h]
theorem tabRow_zero : tabRow 0 = z256 := by
  apply Array.ext_getElem?
  intro i
  by_cases hi : i < 256
  · rw [tabRow_get 0 i hi, z256, Array.getElem?_replicate, if_pos hi]; simp
  · rw [Array.getElem?_eq_none (by simp [tabRow]; omega), Array.getElem?_eq_none (by simp [z256]; omega)]
theorem tabRow_set (k : Nat) (h : k < 256) : (tabRow k).setIfInBounds k (.int .u32 ((Crc.steps 8 (BitVec.ofNat 32 k)).toNat : Int)) = tabRow (k + 1) := by
  apply Array.ext_getElem?
  intro i
  rw [Array.getElem?_setIfInBounds]
  have hs : ∀ k, (tabRow k).size = 256 := fun k => by simp [tabRow]
  by_cases hi : i < 256
  · rw [tabRow_get k i hi, tabRow_get (k + 1) i hi]
    by_cases e : k = i
    · subst e; simp [hs, h]
    · simp [e]; congr 1; simp [show (i < k ↔ i < k + 1) by omega]
  · rw [Array.getElem?_eq_none (by rw [hs]; omega), Array.getElem?_eq_none (by rw [hs]; omega)]
    simp [hs]; omega
theorem tab_cell (w : World) (k i : Nat) (h : i < 256) : (w.alloc (.cells (tabRow k) 84)).cell? ⟨w.heap.size, i, none⟩ = some (.int .u32 (if i < k then ((Crc.steps 8 (BitVec.ofNat 32 i)).toNat : Int) else 0)) := by
  rw [World.cell?_alloc_at]
  · exact tabRow_get k i h
  · rfl
set_option maxRecDepth 100000 in
theorem crc_table (w : World) :
    Calls Tryd.prog 61 #[] w fun e w' => e = .returned (.pointer (some ⟨w.heap.size, 0, none⟩)) ∧ w' = w.alloc (.cells (tabRow 256) 84) := by
  have hz := zv256
  go_enter Tryd.func61, Tryd.ntmps61
  go_wp2
  go_loopw [6] (fun i wr => ∃ k : Nat, k ≤ 256 ∧ i = .int .i64 k ∧ wr = w.alloc (.cells (tabRow k) 84)) (fun i _ => 256 - (intOf i).toNat)
  case atStart => exact ⟨0, by omega, rfl, by rw [tabRow_zero]⟩
  case round =>
    obtain ⟨k, hk, rfl, rfl⟩ := hrel
    clear hz
    by_cases hlt : k < 256
    · have hcell := tab_cell w k k hlt
      have hb : decide ((k : Int) < 256) = true := decide_eq_true (by omega)
      obtain ⟨x, hx⟩ : ∃ x, x = BitVec.ofNat 32 k := ⟨_, rfl⟩
      have hxk : (k : Int) = (x.toNat : Int) := by rw [hx, BitVec.toNat_ofNat, Nat.mod_eq_of_lt (by omega)]
      have HX := Kp.mk hxk; clear hxk
      have HX0 := Kp.mk hx; clear hx
      go_wp2
      go_loop [3, 11] (fun r j => ∃ m : Nat, m ≤ 8 ∧ j = .int .i64 m ∧ r = .int .u32 ((Crc.steps m x).toNat : Int)) (fun _ j => 8 - (intOf j).toNat)
      case atStart => exact ⟨0, by omega, rfl, by rw [HX.out]; rfl⟩
      case round =>
        obtain ⟨m, hm, rfl, rfl⟩ := hrel
        by_cases hmlt : m < 8
        · go_wp2_with (go_at_call 52; refine (crc_step _ _).mono ?_; rintro e w' ⟨rfl, rfl⟩)
          go_round
          case rel => exact ⟨m + 1, by omega, by go_num, by rw [Crc.steps_succ']⟩
          case measure => simp [intOf]; omega
        · have : m = 8 := by omega
          subst this
          go_wp2
          go_roundw
          case rel => exact ⟨k + 1, by omega, by go_num, by rw [HX0.out, tabRow_set k hlt]⟩
          case measure => simp [intOf]; omega
    · have : k = 256 := by omega
      subst this
      go_wp2
      go_ret
      exact ⟨rfl, rfl⟩

end Go.Proofs.YtndninajnkejnaaDoor
