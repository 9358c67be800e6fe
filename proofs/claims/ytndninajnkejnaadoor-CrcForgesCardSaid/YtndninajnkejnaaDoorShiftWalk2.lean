/- Package crc's Shift, walked. -/
import Derived.Test.YtndninajnkejnaaDoorShiftWalk
import Derived.Lib.RabinKarpLaws
namespace Go.Proofs.YtndninajnkejnaaDoor
open Go Go.RowKit
set_option linter.unusedVariables false

theorem ret2_u32 {k : IntKind} {a b : Int} {v : Value} (h : a = b) : Ending.returned (.tuple #[.int k a, v]) = .returned (.tuple #[.int k b, v]) := by rw [h]
namespace Crc
theorem and1_odd (n : Nat) (h : n < 9223372036854775808) : (bits .and .i64 (n : Int) 1 == 1) = decide (n % 2 = 1) := by
  rw [Go.Proofs.and_one n h]
  by_cases e : n % 2 = 1
  · simp [e]
  · have : n % 2 = 0 := by omega
    simp [this]
end Crc
set_option maxRecDepth 100000 in
set_option maxHeartbeats 1000000 in
theorem crc_shift (x : BitVec 32) (n : Nat) (w : World) (hn : n < 9223372036854775808) (hT : TabAt w) :
    Calls Tryd.prog 31 #[.int .u32 (x.toNat : Int), .int .i64 (n : Int)] w fun e w' => e = .returned (.tuple #[.int .u32 ((Crc.steps (8 * n) x).toNat : Int), .nilIface]) ∧ Below w.heap.size w w' := by
  have HT := Kp.mk hT
  have hzv := zv32
  have hb0 : decide ((n : Int) < 0) = false := decide_eq_false (by omega)
  clear hT
  go_enter Tryd.func31, Tryd.ntmps31
  go_wp2
  go_loopw [7, 8, 14, 19] (fun _ _ i _ wr => ∃ k : Nat, k ≤ 32 ∧ i = .int .i64 k ∧ Kp (MatR wr w.heap.size w.heap.size (fun i => if i < k then Crc.steps 8 (1#32 <<< i) else 0#32)) ∧ Kp (Below w.heap.size w wr)) (fun _ _ i _ _ => 32 - (intOf i).toNat)
  case atStart => exact ⟨0, by omega, rfl, ⟨(MatR.fresh w).congr (fun i _ => by simp)⟩, ⟨(Below.refl _ _).alloc (Nat.le_refl _) _⟩⟩
  case round =>
    clear hzv
    obtain ⟨k, hk, rfl, HR, HB⟩ := hrel
    by_cases hlt : k < 32
    · have hb : decide ((k : Int) < 32) = true := decide_eq_true (by omega)
      obtain ⟨p, hp⟩ : ∃ p, p = 1#32 <<< k := ⟨_, rfl⟩
      have h2k := (show (2 : Int) ^ k = ((1#32 <<< k).toNat : Int) by
        rw [BitVec.toNat_shiftLeft, Nat.shiftLeft_eq]
        have h1 : 2 ^ k ≤ 2 ^ 31 := Nat.pow_le_pow_right (by omega) (by omega)
        have e0 : ((2 : Int) ^ k) = ((2 ^ k : Nat) : Int) := by simp
        rw [e0]
        have e : (1#32).toNat * 2 ^ k % 2 ^ 32 = 2 ^ k := by rw [show (1#32).toNat = 1 from rfl, Nat.one_mul]; exact Nat.mod_eq_of_lt (by omega)
        rw [e])
      rw [← hp] at h2k
      have HP := Kp.mk hp
      clear hp
      have hc3 := HR.out.cell k hlt
      have hf3 := World.ownsRow.frozenAt HR.out k
      go_wp2
      go_loop [8, 19] (fun r j => ∃ m : Nat, m ≤ 8 ∧ j = .int .i64 m ∧ r = .int .u32 ((Crc.steps m p).toNat : Int)) (fun _ j => 8 - (intOf j).toNat)
      case atStart => exact ⟨0, by omega, rfl, rfl⟩
      case round =>
        obtain ⟨m, hm, rfl, rfl⟩ := hrel
        by_cases hmlt : m < 8
        · go_wp2_with (go_at_call 52; refine (crc_step _ _).mono ?_; rintro e w' ⟨rfl, rfl⟩)
          go_round
          case rel => exact ⟨m + 1, by omega, by go_num, by rw [Crc.steps_succ']⟩
          case measure => simp [intOf]; omega
        · have : m = 8 := by omega
          subst this
          go_wp2
          go_roundw
          case rel =>
            refine ⟨k + 1, by omega, by go_num, ⟨(HR.out.stored k (Crc.steps 8 p)).congr (fun i hi => ?_)⟩, ⟨HB.out.setCell (Nat.le_refl _) _⟩⟩
            by_cases e : i = k
            · subst e; simp [HP.out]
            · have : (i < k + 1) ↔ (i < k) := by omega
              simp [e, this]
          case measure => simp [intOf]; omega
    · have : k = 32 := by omega
      subst this
      have e32 : ((32 : Nat) : Int) = 32 := rfl
      rw [e32]
      clear e32
      have HR1 : Kp (MatR wr w.heap.size w.heap.size (fun i => Crc.steps 8 (1#32 <<< i))) := ⟨HR.out.congr (fun i hi => by simp [hi])⟩
      go_wp2
      go_loopw [0, 1, 6] (fun r i m wr' => ∃ (z : BitVec 32) (k N g B : Nat), r = .int .u32 (z.toNat : Int) ∧ i = .int .i64 (k : Int) ∧ k ≤ n ∧ m = .pointer (some ⟨g, 0, none⟩) ∧ Kp (MatR wr' B g (fun i => Crc.steps N (1#32 <<< i))) ∧ Kp (Crc.steps (N * k) z = Crc.steps (8 * n) x) ∧ Kp (Below w.heap.size w wr')) (fun _ i _ _ => (intOf i).toNat)
      case atStart => exact ⟨x, n, 8, _, _, rfl, rfl, Nat.le_refl _, rfl, HR1, ⟨rfl⟩, HB⟩
      case round =>
        obtain ⟨z, k, N, g, B, rfl, rfl, hkn, rfl, HM, HI, HB'⟩ := hrel
        by_cases hk0 : k = 0
        · subst hk0
          have hb : decide ((0 : Int) < ((0 : Nat) : Int)) = false := by simp
          go_wp2
          go_ret2
          exact ⟨ret2_u32 (by have := HI.out; simp [Crc.steps] at this; rw [this]), HB'.out⟩
        · have hb : decide ((0 : Int) < (k : Int)) = true := decide_eq_true (by omega)
          have hodd := Crc.and1_odd k (by omega)
          obtain ⟨k2, hk2⟩ : ∃ k2 : Nat, k2 = k / 2 := ⟨_, rfl⟩
          have hhalf : (k : Int) / 2 = (k2 : Int) := by omega
          have hk1 : k2 < k := by omega
          have HK2 := Kp.mk hk2
          clear hk2
          by_cases ho : k % 2 = 1
          · have hob : decide (k % 2 = 1) = true := decide_eq_true ho
            rw [hob] at hodd
            have HI2 : Kp (Crc.steps ((N + N) * k2) (Crc.steps N z) = Crc.steps (8 * n) x) := ⟨by
              rw [← Crc.steps_add, ← HI.out]
              congr 1
              have : k = 2 * k2 + 1 := by have := HK2.out; omega
              conv => rhs; rw [this, Nat.mul_add, Nat.mul_one, ← Nat.mul_assoc, Nat.mul_two]
              omega⟩
            clear hob ho
            go_wp2_with fail
            refine (mat_of N B g z _ HM.out (HT.out.later HB'.out)).mono ?_
            rintro e w3 ⟨rfl, hd⟩
            have HM3 := Kp.mk (HM.out.later hd.below)
            have HB3 := Kp.mk (HB'.out.trans (hd.below.mono HB'.out.size))
            clear hd
            go_wp2_with fail
            refine (mat_squared N B g _ HM3.out (HT.out.later HB3.out)).mono ?_
            rintro e w4 ⟨rfl, hm, hbb⟩
            have HB4 := Kp.mk (HB3.out.trans (hbb.mono HB3.out.size))
            have HM4 := Kp.mk hm
            clear hm hbb
            go_wp2
            go_roundw
            case rel => exact ⟨_, k2, N + N, _, _, rfl, rfl, by omega, rfl, HM4, HI2, HB4⟩
            case measure => simp [intOf]; omega
          · have hob : decide (k % 2 = 1) = false := decide_eq_false ho
            rw [hob] at hodd
            have HI2 : Kp (Crc.steps ((N + N) * k2) z = Crc.steps (8 * n) x) := ⟨by
              rw [← HI.out]
              congr 1
              have : k = 2 * k2 := by have := HK2.out; omega
              conv => rhs; rw [this, ← Nat.mul_assoc, Nat.mul_two]⟩
            clear hob ho
            go_wp2_with fail
            refine (mat_squared N B g _ HM.out (HT.out.later HB'.out)).mono ?_
            rintro e w4 ⟨rfl, hm, hbb⟩
            have HB4 := Kp.mk (HB'.out.trans (hbb.mono HB'.out.size))
            have HM4 := Kp.mk hm
            clear hm hbb
            go_wp2
            go_roundw
            case rel => exact ⟨_, k2, N + N, _, _, rfl, rfl, by omega, rfl, HM4, HI2, HB4⟩
            case measure => simp [intOf]; omega
end Go.Proofs.YtndninajnkejnaaDoor
