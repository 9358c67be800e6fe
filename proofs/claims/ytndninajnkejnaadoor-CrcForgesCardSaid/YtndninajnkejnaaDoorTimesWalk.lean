/- The document's matrices and Shift, walked. -/
import Derived.Test.YtndninajnkejnaaDoorRow32
import Derived.Test.YtndninajnkejnaaDoorBurstPure
import Derived.Deep.RegionHeld3
import Derived.Laws.CopyOwn
namespace Go.Proofs.YtndninajnkejnaaDoor
open Go Go.RowKit
set_option linter.unusedVariables false

namespace Crc
theorem bit_one (m : R) (k : Nat) : (bits .and .u32 ((m.toNat : Int) / 2 ^ k) 1 == 1) = m.getLsbD k := by
  rw [← shr32, low1, BitVec.getLsbD_ushiftRight, Nat.add_zero]
end Crc
set_option maxRecDepth 100000 in
set_option maxHeartbeats 1000000 in
theorem ref_times (N : Nat) (x : BitVec 32) (f : Nat → BitVec 32) (w : World) (hf : ∀ i, i < 32 → f i = Crc.steps N (1#32 <<< i)) :
    Calls Tryd.prog 56 #[arrU f, .int .u32 (x.toNat : Int)] w fun e w' => e = .returned (.int .u32 ((Crc.steps N x).toNat : Int)) ∧ Below w.heap.size w w' := by
  have HF := Kp.mk hf
  have HR := Kp.mk (RowU.new w 67 f)
  have HB := Kp.mk ((Below.refl w.heap.size w).alloc (Nat.le_refl _) (.cells (Crc.rowL f).toArray 67))
  clear hf
  unfold arrU
  go_enter Tryd.func56, Tryd.ntmps56
  go_wp2
  go_loop [5, 6] (fun r i => ∃ k : Nat, k ≤ 32 ∧ i = .int .i64 k ∧ r = .int .u32 ((Crc.steps N (Crc.lowBits x k)).toNat : Int)) (fun _ i => 32 - (intOf i).toNat)
  case atStart => exact ⟨0, by omega, rfl, by rw [Crc.lowBits, Crc.steps_zero]; rfl⟩
  case round =>
    obtain ⟨k, hk, rfl, rfl⟩ := hrel
    by_cases hlt : k < 32
    · have hb : decide ((k : Int) < 32) = true := decide_eq_true (by omega)
      have hcell := HR.out.cell k hlt
      obtain ⟨c, hc⟩ : ∃ c, c = f k := ⟨_, rfl⟩
      rw [← hc] at hcell
      obtain ⟨y, hy⟩ : ∃ y, y = Crc.steps N (Crc.lowBits x k) := ⟨_, rfl⟩
      rw [← hy]
      have hbit := Crc.bit_one x k
      have HC : Kp (c = Crc.steps N (1#32 <<< k)) := ⟨by rw [hc, HF.out k hlt]⟩
      have HY := Kp.mk hy
      clear hc hy
      by_cases ho : x.getLsbD k = true
      · rw [ho] at hbit
        have hx := Crc.xor32 y c
        obtain ⟨z, hz⟩ : ∃ z, z = y ^^^ c := ⟨_, rfl⟩
        rw [← hz] at hx
        have HZ := Kp.mk hz
        clear hz
        go_wp2
        go_round
        case rel => exact ⟨k + 1, by omega, by go_num, by rw [Crc.lowBits, if_pos ho, Crc.steps_xor, ← HC.out, ← HY.out, HZ.out]⟩
        case measure => simp [intOf]; omega
      · simp only [Bool.not_eq_true] at ho
        rw [ho] at hbit
        go_wp2
        go_round
        case rel => exact ⟨k + 1, by omega, by go_num, by rw [Crc.lowBits, ho, if_neg (by simp), BitVec.xor_zero, ← HY.out]⟩
        case measure => simp [intOf]; omega
    · have : k = 32 := by omega
      subst this
      go_wp2
      go_ret
      exact ⟨ret_int (by rw [Crc.lowBits_all]), HB.out⟩
theorem zvU (w : World) : (zeroValue 67).run Tryd.prog w = .ok (.agg z32) w := by kernel_rfl
theorem RowU.zero (w : World) : RowU (w.alloc (.cells z32 67)) 67 w.heap.size w.heap.size (fun _ => 0#32) := RowU.new w _ _
theorem two_pow32 (k : Nat) (hlt : k < 32) : (2 : Int) ^ k = ((1#32 <<< k).toNat : Int) := by
  rw [BitVec.toNat_shiftLeft, Nat.shiftLeft_eq]
  have h1 : 2 ^ k ≤ 2 ^ 31 := Nat.pow_le_pow_right (by omega) (by omega)
  have e0 : ((2 : Int) ^ k) = ((2 ^ k : Nat) : Int) := by simp
  rw [e0]
  have e : (1#32).toNat * 2 ^ k % 2 ^ 32 = 2 ^ k := by rw [show (1#32).toNat = 1 from rfl, Nat.one_mul]; exact Nat.mod_eq_of_lt (by omega)
  rw [e]
theorem RowU.mono {w : World} {E : TypeId} {B B' g : Nat} {f : Nat → BitVec 32} (h : RowU w E B g f) (hB : B' ≤ B) : RowU w E B' g f := own_mono h hB
/-- What lies in a cell (a name that simp does not open). -/
def cellOr (v : World) (s j : Nat) : Value := (v.cell? ⟨s, j, none⟩).getD undef
/-- What holds through the region that squares a matrix. -/
structure HeldS (v : World) (E : TypeId) (B g s j : Nat) (w : World) (F G : Nat → BitVec 32) : Prop where
  m : RowU v E B g F
  r : ∃ G', RowU v E B s G' ∧ ∀ i, i ≠ j → G' i = G i
  b : Below B w v
  ne : g ≠ s
  bs : B ≤ s
theorem HeldS.all {v : World} {E : TypeId} {B g s j : Nat} {w : World} {F G : Nat → BitVec 32} (h : HeldS v E B g s j w F G) (c : BitVec 32) (hj : j < 32) (hc : c = F j) :
    HeldS v E B g s j w F G ∧ v.rangeAt g 0 (Crc.rowL F) ∧ v.cell? ⟨g, j, none⟩ = some (.int .u32 (c.toNat : Int)) ∧ v.cell? ⟨s, j, none⟩ = some (cellOr v s j) ∧ v.frozen? ⟨s, j, none⟩ = false := by
  obtain ⟨G', hG, _⟩ := h.r
  have hx := hG.cell j hj
  exact ⟨h, h.m.range, by rw [hc]; exact h.m.cell j hj, by rw [cellOr, hx]; rfl, hG.frozen j⟩
theorem HeldS.later {v v' : World} {E : TypeId} {B g s j : Nat} {w : World} {F G : Nat → BitVec 32} (h : HeldS v E B g s j w F G) (hb : Below v.heap.size v v') : HeldS v' E B g s j w F G := by
  obtain ⟨G', hG, hg⟩ := h.r
  exact ⟨h.m.later hb, ⟨G', hG.later hb, hg⟩, h.b.trans (hb.mono (Nat.le_of_lt (Nat.lt_of_le_of_lt h.m.lt.1 h.m.lt.2))), h.ne, h.bs⟩
theorem HeldS.stored {v : World} {E : TypeId} {B g s j : Nat} {w : World} {F G : Nat → BitVec 32} (h : HeldS v E B g s j w F G) (d : BitVec 32) : HeldS (v.setCell ⟨s, j, none⟩ (.int .u32 (d.toNat : Int))) E B g s j w F G := by
  obtain ⟨G', hG, hg⟩ := h.r
  exact ⟨h.m.otherCell h.ne _, ⟨_, hG.stored j d, fun i hi => by simp only [hi, if_false]; exact hg i hi⟩, h.b.setCell h.bs _, h.ne, h.bs⟩
set_option maxRecDepth 100000 in
set_option maxHeartbeats 1000000 in
theorem ref_shift (x : BitVec 32) (n : Nat) (w : World) (hn : n < 9223372036854775808) :
    Calls Tryd.prog 32 #[.int .u32 (x.toNat : Int), .int .i64 (n : Int)] w fun e w' => e = .returned (.tuple #[.int .u32 ((Crc.steps (8 * n) x).toNat : Int), .int .i64 0]) ∧ Below w.heap.size w w' := by
  have hb0 : decide ((n : Int) < 0) = false := decide_eq_false (by omega)
  have hzv := zvU
  go_enter Tryd.func32, Tryd.ntmps32
  go_wp2
  go_loopw [7] (fun i wr => ∃ k : Nat, k ≤ 32 ∧ i = .int .i64 k ∧ Kp (RowU wr 67 w.heap.size w.heap.size (fun i => if i < k then Crc.steps 8 (1#32 <<< i) else 0#32)) ∧ Kp (Below w.heap.size w wr)) (fun i _ => 32 - (intOf i).toNat)
  case atStart => exact ⟨0, by omega, rfl, ⟨(RowU.zero w).congr (fun i _ => by simp)⟩, ⟨(Below.refl _ _).alloc (Nat.le_refl _) _⟩⟩
  case round =>
    clear hzv
    obtain ⟨k, hk, rfl, HR, HB⟩ := hrel
    by_cases hlt : k < 32
    · have hb : decide ((k : Int) < 32) = true := decide_eq_true (by omega)
      have h2k := two_pow32 k hlt
      obtain ⟨p, hp⟩ : ∃ p, p = 1#32 <<< k := ⟨_, rfl⟩
      rw [← hp] at h2k
      have C := ref_move p 0#8
      have hmv : Crc.mv p 0#8 = Crc.steps 8 p := by unfold Crc.mv; rw [show (BitVec.setWidth 32 (0#8) : Crc.R) = 0#32 from rfl, BitVec.xor_zero]
      rw [hmv] at C
      rw [show (((0#8 : BitVec 8).toNat : Nat) : Int) = 0 from rfl] at C
      have K := Kp.mk C
      have HP := Kp.mk hp
      clear hp C hmv
      have hc3 := HR.out.cell k hlt
      have hf3 := HR.out.frozen k
      go_wp2_with fail
      refine (K.out _).mono ?_
      rintro e w' ⟨rfl, rfl⟩
      go_wp2
      go_roundw
      case rel =>
        refine ⟨k + 1, by omega, by go_num, ⟨(HR.out.stored k (Crc.steps 8 p)).congr (fun i hi => ?_)⟩, ⟨HB.out.setCell (Nat.le_refl _) _⟩⟩
        by_cases e : i = k
        · subst e; simp [HP.out]
        · have : (i < k + 1) ↔ (i < k) := by omega
          simp [e, this]
      case measure => simp [intOf]; omega
    · have : k = 32 := by omega
      subst this
      have e32 : ((32 : Nat) : Int) = 32 := rfl
      rw [e32]
      clear e32
      have HR1 : Kp (RowU wr 67 w.heap.size w.heap.size (fun i => Crc.steps 8 (1#32 <<< i))) := ⟨HR.out.congr (fun i hi => by simp [hi])⟩
      go_wp2
      go_loopw [0, 1] (fun r i wr' => ∃ (z : BitVec 32) (k N : Nat), r = .int .u32 (z.toNat : Int) ∧ i = .int .i64 (k : Int) ∧ k ≤ n ∧ Kp (RowU wr' 67 w.heap.size w.heap.size (fun i => Crc.steps N (1#32 <<< i))) ∧ Kp (Crc.steps (N * k) z = Crc.steps (8 * n) x) ∧ Kp (Below w.heap.size w wr')) (fun _ i _ => (intOf i).toNat)
      case atStart => exact ⟨x, n, 8, rfl, rfl, Nat.le_refl _, HR1, ⟨rfl⟩, HB⟩
      case round =>
        obtain ⟨z, k, N, rfl, rfl, hkn, HM, HI, HB'⟩ := hrel
        by_cases hk0 : k = 0
        · subst hk0
          have hb : decide ((0 : Int) < ((0 : Nat) : Int)) = false := by simp
          go_wp2
          go_ret2
          exact ⟨ret2_u32 (by have := HI.out; simp [Crc.steps] at this; rw [this]), HB'.out⟩
        · have hb : decide ((0 : Int) < (k : Int)) = true := decide_eq_true (by omega)
          have hbn : decide (0 < k) = true := decide_eq_true (by omega)
          have hbn2 : 0 < k := by omega
          obtain ⟨k2, hk2⟩ : ∃ k2 : Nat, k2 = k / 2 := ⟨_, rfl⟩
          have hhalf : (k : Int) / 2 = (k2 : Int) := by omega
          have hk1 : k2 < k := by omega
          have HK2 := Kp.mk hk2
          clear hk2
          by_cases ho : k % 2 = 1
          · have hob : ((k : Int) % 2 == 1) = true := by rw [beq_iff_eq]; omega
            have HI2 : Kp (Crc.steps ((N + N) * k2) (Crc.steps N z) = Crc.steps (8 * n) x) := ⟨by
              rw [← Crc.steps_add, ← HI.out]
              congr 1
              have : k = 2 * k2 + 1 := by have := HK2.out; omega
              conv => rhs; rw [this, Nat.mul_add, Nat.mul_one, ← Nat.mul_assoc, Nat.mul_two]
              omega⟩
            obtain ⟨z2, hz2⟩ : ∃ z2, z2 = Crc.steps N z := ⟨_, rfl⟩
            have C := fun w => ref_times N z (fun i => Crc.steps N (1#32 <<< i)) w (fun _ _ => rfl)
            rw [← hz2] at C HI2
            have K := Kp.mk C
            clear ho hz2 C
            go_wp2_with (refine wpList_load_row rfl 67 _ rfl w.heap.size rfl 67 (Crc.rowL fun i => Crc.steps N (1#32 <<< i)).toArray (0, 0) _ HM.out.block Tryd.underlying67 rfl (infoU _) ?_)
            refine (K.out _).mono ?_
            rintro e w3 ⟨rfl, hb3⟩
            have HM3 := Kp.mk (HM.out.later hb3)
            have HB3 := Kp.mk (HB'.out.trans (hb3.mono HB'.out.size))
            clear hb3
            go_wp2
            go_loopw [9] (fun i wr' => ∃ k : Nat, k ≤ 32 ∧ i = .int .i64 k ∧ Kp (RowU wr' 67 w.heap.size w.heap.size (fun i => Crc.steps N (1#32 <<< i))) ∧ Kp (RowU wr' 67 w.heap.size w3.heap.size (fun i => if i < k then Crc.steps (N + N) (1#32 <<< i) else 0#32)) ∧ Kp (Below w.heap.size w wr')) (fun i _ => 32 - (intOf i).toNat)
            case atStart => exact ⟨0, by omega, rfl, ⟨HM3.out.later ((Below.refl _ _).alloc (Nat.le_refl _) _)⟩, ⟨((RowU.zero w3).mono HB3.out.size).congr (fun i _ => by simp)⟩, ⟨HB3.out.alloc HB3.out.size _⟩⟩
            case round =>
              obtain ⟨j, hj, rfl, HM4, HS, HB4⟩ := hrel
              by_cases hlt : j < 32
              · have hb : decide ((j : Int) < 32) = true := decide_eq_true (by omega)
                obtain ⟨c, hc⟩ : ∃ c, c = Crc.steps N (1#32 <<< j) := ⟨_, rfl⟩
                obtain ⟨d, hd⟩ : ∃ d, d = Crc.steps N c := ⟨_, rfl⟩
                have C := fun w => ref_times N c (fun i => Crc.steps N (1#32 <<< i)) w (fun _ _ => rfl)
                rw [← hd] at C
                have K4 := Kp.mk C
                have HD : Kp (d = Crc.steps (N + N) (1#32 <<< j)) := ⟨by rw [hd, hc, Crc.steps_add]⟩
                have HC := Kp.mk hc
                clear hc hd C
                have HS0 : HeldS _ 67 w.heap.size w.heap.size w3.heap.size j w (fun i => Crc.steps N (1#32 <<< i)) (fun i => if i < j then Crc.steps (N + N) (1#32 <<< i) else 0#32) := ⟨HM4.out, ⟨_, HS.out, fun _ _ => rfl⟩, HB4.out, Nat.ne_of_lt HM3.out.lt.2, HB3.out.size⟩
                have hu67 := Tryd.underlying67
                have hi67 := infoUL (fun i => Crc.steps N (1#32 <<< i))
                have hj0 : (0 : Int) ≤ (j : Int) := by omega
                have hj1 : (j : Int) < 32 := by omega
                go_wp2
                go_region_held3 (fun v => HeldS v 67 w.heap.size w.heap.size w3.heap.size j w (fun i => Crc.steps N (1#32 <<< i)) (fun i => if i < j then Crc.steps (N + N) (1#32 <<< i) else 0#32) ∧ v.rangeAt w.heap.size 0 (Crc.rowL fun i => Crc.steps N (1#32 <<< i)) ∧ v.cell? ⟨w.heap.size, j, none⟩ = some (.int .u32 (c.toNat : Int)) ∧ v.cell? ⟨w3.heap.size, j, none⟩ = some (cellOr v w3.heap.size j) ∧ v.frozen? ⟨w3.heap.size, j, none⟩ = false) (first | exact (HS0.later (Drew.once _).below).all c hlt HC.out | exact ((And.left (by assumption) : HeldS _ 67 w.heap.size w.heap.size w3.heap.size j w _ _).later hb5).all c hlt HC.out | exact ((And.left (by assumption) : HeldS _ 67 w.heap.size w.heap.size w3.heap.size j w _ _).stored d).all c hlt HC.out) (first | (go_at_call 56; refine (K4.out _).mono ?_; rintro e w5 ⟨rfl, hb5⟩))
                all_goals (
                  have hbb := (Drew.once wr).below.trans (hb5.mono (Drew.once wr).below.size)
                  have HM6 := Kp.mk ((HM4.out.later hbb).otherCell (i := j) HS0.ne (.int .u32 (d.toNat : Int)))
                  have HS6 := Kp.mk ((HS.out.later hbb).stored j d)
                  have HB6 := Kp.mk ((HB4.out.trans (hbb.mono HB4.out.size)).setCell (p := ⟨w3.heap.size, j, none⟩) HB3.out.size (.int .u32 (d.toNat : Int)))
                  clear hbb hb5 HS0
                  clear hu67 hi67
                  go_wp2
                  go_roundw
                  case rel =>
                    refine ⟨j + 1, (by omega), (by go_num), HM6, ⟨HS6.out.congr (fun i hi => ?_)⟩, HB6⟩
                    by_cases e : i = j
                    · subst e; simp [HD.out]
                    · have : (i < j + 1) ↔ (i < j) := by omega
                      simp [e, this]
                  case measure => simp [intOf]; omega)
              · have : j = 32 := by omega
                subst this
                have e32 : ((32 : Nat) : Int) = 32 := rfl
                rw [e32]
                clear e32
                have HS1 : Kp (RowU _ 67 w.heap.size w3.heap.size (fun i => Crc.steps (N + N) (1#32 <<< i))) := ⟨HS.out.congr (fun i hi => by simp [hi])⟩
                go_wp2_with (first
                  | (refine wpList_load_row rfl 67 _ rfl w3.heap.size rfl 67 (Crc.rowL fun i => Crc.steps (N + N) (1#32 <<< i)).toArray (0, 0) _ HS1.out.block Tryd.underlying67 rfl (infoU _) ?_)
                  | (refine wpList_store_row rfl 67 _ _ rfl w.heap.size (Crc.rowL fun i => Crc.steps (N + N) (1#32 <<< i)).toArray rfl rfl 67 _ HM4.out.block (infoU _) (by simp [Crc.rowL_length]) (arrU_one _) ?_))
                go_roundw
                case rel => exact ⟨z2, k2, N + N, rfl, rfl, (by omega), ⟨HM4.out.all _⟩, HI2, ⟨below_setRow HB4.out (Nat.le_refl _) _⟩⟩
                case measure => simp [intOf]; omega
          · have hob : ((k : Int) % 2 == 1) = false := by rw [beq_eq_false_iff_ne]; omega
            have HI2 : Kp (Crc.steps ((N + N) * k2) z = Crc.steps (8 * n) x) := ⟨by
              rw [← HI.out]
              congr 1
              have : k = 2 * k2 := by have := HK2.out; omega
              conv => rhs; rw [this, ← Nat.mul_assoc, Nat.mul_two]⟩
            obtain ⟨w3, rfl⟩ : ∃ w3 : World, w3 = wr := ⟨_, rfl⟩
            have HM3 := HM
            have HB3 := HB'
            clear ho
            go_wp2
            go_loopw [9] (fun i wr' => ∃ k : Nat, k ≤ 32 ∧ i = .int .i64 k ∧ Kp (RowU wr' 67 w.heap.size w.heap.size (fun i => Crc.steps N (1#32 <<< i))) ∧ Kp (RowU wr' 67 w.heap.size w3.heap.size (fun i => if i < k then Crc.steps (N + N) (1#32 <<< i) else 0#32)) ∧ Kp (Below w.heap.size w wr')) (fun i _ => 32 - (intOf i).toNat)
            case atStart => exact ⟨0, by omega, rfl, ⟨HM3.out.later ((Below.refl _ _).alloc (Nat.le_refl _) _)⟩, ⟨((RowU.zero w3).mono HB3.out.size).congr (fun i _ => by simp)⟩, ⟨HB3.out.alloc HB3.out.size _⟩⟩
            case round =>
              obtain ⟨j, hj, rfl, HM4, HS, HB4⟩ := hrel
              by_cases hlt : j < 32
              · have hb : decide ((j : Int) < 32) = true := decide_eq_true (by omega)
                obtain ⟨c, hc⟩ : ∃ c, c = Crc.steps N (1#32 <<< j) := ⟨_, rfl⟩
                obtain ⟨d, hd⟩ : ∃ d, d = Crc.steps N c := ⟨_, rfl⟩
                have C := fun w => ref_times N c (fun i => Crc.steps N (1#32 <<< i)) w (fun _ _ => rfl)
                rw [← hd] at C
                have K4 := Kp.mk C
                have HD : Kp (d = Crc.steps (N + N) (1#32 <<< j)) := ⟨by rw [hd, hc, Crc.steps_add]⟩
                have HC := Kp.mk hc
                clear hc hd C
                have HS0 : HeldS _ 67 w.heap.size w.heap.size w3.heap.size j w (fun i => Crc.steps N (1#32 <<< i)) (fun i => if i < j then Crc.steps (N + N) (1#32 <<< i) else 0#32) := ⟨HM4.out, ⟨_, HS.out, fun _ _ => rfl⟩, HB4.out, Nat.ne_of_lt HM3.out.lt.2, HB3.out.size⟩
                have hu67 := Tryd.underlying67
                have hi67 := infoUL (fun i => Crc.steps N (1#32 <<< i))
                have hj0 : (0 : Int) ≤ (j : Int) := by omega
                have hj1 : (j : Int) < 32 := by omega
                go_wp2
                go_region_held3 (fun v => HeldS v 67 w.heap.size w.heap.size w3.heap.size j w (fun i => Crc.steps N (1#32 <<< i)) (fun i => if i < j then Crc.steps (N + N) (1#32 <<< i) else 0#32) ∧ v.rangeAt w.heap.size 0 (Crc.rowL fun i => Crc.steps N (1#32 <<< i)) ∧ v.cell? ⟨w.heap.size, j, none⟩ = some (.int .u32 (c.toNat : Int)) ∧ v.cell? ⟨w3.heap.size, j, none⟩ = some (cellOr v w3.heap.size j) ∧ v.frozen? ⟨w3.heap.size, j, none⟩ = false) (first | exact (HS0.later (Drew.once _).below).all c hlt HC.out | exact ((And.left (by assumption) : HeldS _ 67 w.heap.size w.heap.size w3.heap.size j w _ _).later hb5).all c hlt HC.out | exact ((And.left (by assumption) : HeldS _ 67 w.heap.size w.heap.size w3.heap.size j w _ _).stored d).all c hlt HC.out) (first | (go_at_call 56; refine (K4.out _).mono ?_; rintro e w5 ⟨rfl, hb5⟩))
                all_goals (
                  have hbb := (Drew.once wr).below.trans (hb5.mono (Drew.once wr).below.size)
                  have HM6 := Kp.mk ((HM4.out.later hbb).otherCell (i := j) HS0.ne (.int .u32 (d.toNat : Int)))
                  have HS6 := Kp.mk ((HS.out.later hbb).stored j d)
                  have HB6 := Kp.mk ((HB4.out.trans (hbb.mono HB4.out.size)).setCell (p := ⟨w3.heap.size, j, none⟩) HB3.out.size (.int .u32 (d.toNat : Int)))
                  clear hbb hb5 HS0
                  clear hu67 hi67
                  go_wp2
                  go_roundw
                  case rel =>
                    refine ⟨j + 1, (by omega), (by go_num), HM6, ⟨HS6.out.congr (fun i hi => ?_)⟩, HB6⟩
                    by_cases e : i = j
                    · subst e; simp [HD.out]
                    · have : (i < j + 1) ↔ (i < j) := by omega
                      simp [e, this]
                  case measure => simp [intOf]; omega)
              · have : j = 32 := by omega
                subst this
                have e32 : ((32 : Nat) : Int) = 32 := rfl
                rw [e32]
                clear e32
                have HS1 : Kp (RowU _ 67 w.heap.size w3.heap.size (fun i => Crc.steps (N + N) (1#32 <<< i))) := ⟨HS.out.congr (fun i hi => by simp [hi])⟩
                go_wp2_with (first
                  | (refine wpList_load_row rfl 67 _ rfl w3.heap.size rfl 67 (Crc.rowL fun i => Crc.steps (N + N) (1#32 <<< i)).toArray (0, 0) _ HS1.out.block Tryd.underlying67 rfl (infoU _) ?_)
                  | (refine wpList_store_row rfl 67 _ _ rfl w.heap.size (Crc.rowL fun i => Crc.steps (N + N) (1#32 <<< i)).toArray rfl rfl 67 _ HM4.out.block (infoU _) (by simp [Crc.rowL_length]) (arrU_one _) ?_))
                go_roundw
                case rel => exact ⟨z, k2, N + N, rfl, rfl, (by omega), ⟨HM4.out.all _⟩, HI2, ⟨below_setRow HB4.out (Nat.le_refl _) _⟩⟩
                case measure => simp [intOf]; omega
set_option maxRecDepth 100000 in
theorem ref_join (x y : BitVec 32) (n : Nat) (w : World) (hn : n < 9223372036854775808) :
    Calls Tryd.prog 33 #[.int .u32 (x.toNat : Int), .int .u32 (y.toNat : Int), .int .i64 (n : Int)] w fun e w' => e = .returned (.tuple #[.int .u32 ((Crc.steps (8 * n) x ^^^ y).toNat : Int), .int .i64 0]) ∧ Below w.heap.size w w' := by
  have C := ref_shift x n w hn
  obtain ⟨a, ha⟩ : ∃ a, a = Crc.steps (8 * n) x := ⟨_, rfl⟩
  rw [← ha] at C ⊢
  have K := Kp.mk C
  have hx := Crc.xor32 a y
  obtain ⟨z, hz⟩ : ∃ z, z = a ^^^ y := ⟨_, rfl⟩
  rw [← hz] at hx ⊢
  clear C ha hz
  go_enter Tryd.func33, Tryd.ntmps33
  go_wp2_with fail
  refine K.out.mono ?_
  rintro e w1 ⟨rfl, hb⟩
  have B := Kp.mk hb
  clear hb
  go_wp2
  go_ret2
  exact ⟨rfl, B.out⟩
theorem ref_shift_neg (x : BitVec 32) (n : Int) (w : World) (hn : n < 0) :
    Calls Tryd.prog 32 #[.int .u32 (x.toNat : Int), .int .i64 n] w fun e w' => e = .returned (.tuple #[.int .u32 0, .int .i64 12]) ∧ w' = w := by
  have hb0 : decide (n < 0) = true := decide_eq_true hn
  go_enter Tryd.func32, Tryd.ntmps32
  go_wp2
  go_ret2
  exact ⟨rfl, rfl⟩
theorem ref_join_neg (x y : BitVec 32) (n : Int) (w : World) (hn : n < 0) :
    Calls Tryd.prog 33 #[.int .u32 (x.toNat : Int), .int .u32 (y.toNat : Int), .int .i64 n] w fun e w' => e = .returned (.tuple #[.int .u32 0, .int .i64 12]) ∧ w' = w := by
  have K := Kp.mk (ref_shift_neg x n w hn)
  go_enter Tryd.func33, Tryd.ntmps33
  go_wp2_with fail
  refine K.out.mono ?_
  rintro e w1 ⟨rfl, rfl⟩
  go_wp2
  go_ret2
  exact ⟨rfl, rfl⟩
end Go.Proofs.YtndninajnkejnaaDoor
