/- The document's DivWide and Rotate: walked. -/
import Derived.Test.YtpihlaeioepbpaaDoorWidesRef3
import Derived.Test.YtpihlaeioepbpaaDoorCutsAlu
import Derived.Test.YtpihlaeioepbpaaDoorAluWide
namespace Go.Proofs.YtpihlaeioepbpaaDoor
open Go Go.RowKit
set_option linter.unusedVariables false

set_option maxRecDepth 100000 in
theorem alu_div_big (A : Nat → Addr) (h l c : BitVec 32) (w : World) (hE : Errs w [4] A) (hc : c ≠ 0#32) (hh : c.toNat ≤ h.toNat) :
    Calls Tryd.prog 27 #[.int .u32 (h.toNat : Int), .int .u32 (l.toNat : Int), .int .u32 (c.toNat : Int)] w fun e w' => e = .returned (.tuple #[.int .u32 0, .int .u32 0, errv (A 4)]) ∧ Drew w w' := by
  have E4 := hE.cell 4 (by simp)
  simp only [errVar] at E4
  have hz : ((c.toNat : Int) == 0) = false := by
    rw [beq_eq_false_iff_ne]; intro e; exact hc (BitVec.eq_of_toNat_eq (by show c.toNat = 0; omega))
  have hb : decide ((c.toNat : Int) ≤ (h.toNat : Int)) = true := decide_eq_true (by omega)
  have hbn : decide (c.toNat ≤ h.toNat) = true := decide_eq_true hh
  clear hc hE hh
  go_enter Tryd.func27, Tryd.ntmps27
  go_wp2
  go_region
  all_goals (go_wp2; go_ret3; exact ⟨rfl, Drew.once _⟩)
set_option maxRecDepth 100000 in
theorem ref_div_zero (h l c : BitVec 32) (w : World) (hc : c = 0#32) :
    Calls Tryd.prog 41 #[.int .u32 (h.toNat : Int), .int .u32 (l.toNat : Int), .int .u32 (c.toNat : Int)] w fun e w' => e = .returned (.tuple #[.int .u32 0, .int .u32 0, .int .i64 20]) ∧ w' = w := by
  have hz : ((c.toNat : Int) == 0) = true := by rw [hc]; rfl
  clear hc
  go_enter Tryd.func41, Tryd.ntmps41
  go_wp2
  go_ret3
  exact ⟨rfl, rfl⟩
set_option maxRecDepth 100000 in
theorem ref_div_big (h l c : BitVec 32) (w : World) (hc : c ≠ 0#32) (hh : c.toNat ≤ h.toNat) :
    Calls Tryd.prog 41 #[.int .u32 (h.toNat : Int), .int .u32 (l.toNat : Int), .int .u32 (c.toNat : Int)] w fun e w' => e = .returned (.tuple #[.int .u32 0, .int .u32 0, .int .i64 4]) ∧ w' = w := by
  have hz : ((c.toNat : Int) == 0) = false := by
    rw [beq_eq_false_iff_ne]; intro e; exact hc (BitVec.eq_of_toNat_eq (by show c.toNat = 0; omega))
  have hb : decide ((c.toNat : Int) ≤ (h.toNat : Int)) = true := decide_eq_true (by omega)
  have hbn : decide (c.toNat ≤ h.toNat) = true := decide_eq_true hh
  clear hc hh
  go_enter Tryd.func41, Tryd.ntmps41
  go_wp2
  go_ret3
  exact ⟨rfl, rfl⟩
set_option maxRecDepth 100000 in
set_option maxHeartbeats 4000000 in
theorem ref_div (h l c : BitVec 32) (w : World) (hc : h.toNat < c.toNat) :
    Calls Tryd.prog 41 #[.int .u32 (h.toNat : Int), .int .u32 (l.toNat : Int), .int .u32 (c.toNat : Int)] w fun e w' => (∃ q r : BitVec 32, e = .returned (.tuple #[.int .u32 (q.toNat : Int), .int .u32 (r.toNat : Int), .int .i64 0]) ∧ q.toNat * c.toNat + r.toNat = h.toNat * 4294967296 + l.toNat ∧ r.toNat < c.toNat) ∧ Below w.heap.size w w' := by
  have hzv := zvT
  have HC := Kp.mk hc
  have hcl : (c.toNat : Int) < 4294967296 := by have := c.isLt; omega
  have hcp : (1 : Int) ≤ (c.toNat : Int) := by omega
  have hz : ((c.toNat : Int) == 0) = false := by rw [beq_eq_false_iff_ne]; omega
  have hb : decide ((c.toNat : Int) ≤ (h.toNat : Int)) = false := decide_eq_false (by omega)
  have hbn : decide (c.toNat ≤ h.toNat) = false := decide_eq_false (by omega)
  have hhl : (h.toNat : Int) < 4294967296 := by have := h.isLt; omega
  have hh0 : (0 : Int) ≤ (h.toNat : Int) := by omega
  clear hc
  go_enter Tryd.func41, Tryd.ntmps41
  go_wp2_with fail
  refine (ref_row l _).mono ?_
  rintro e w1 ⟨rfl, hb⟩
  have HB1 := Kp.mk hb; clear hb
  unfold rowV arrT
  have HL := Kp.mk (row_laid HB1.out (fun i => l.getLsbD i))
  go_wp2_with (refine wpList_store_row rfl 79 _ _ rfl w1.heap.size (Alu.rowL fun i => l.getLsbD i).toArray rfl rfl 79 _ (RowT.zero w1).block (infoT _) (by simp [Alu.rowL_length]) (arrT_one _) ?_)
  go_loop [9, 11, 12] (fun x9 x11 x12 => ∃ (j r q : Nat), j ≤ 32 ∧ x12 = .int .i64 ((j : Int) - 1) ∧ x9 = .int .i64 r ∧ x11 = .int .i64 q ∧ Kp (q * c.toNat + r = Alu.topV h.toNat l j ∧ r < c.toNat)) (fun _ _ x12 => (intOf x12 + 1).toNat)
  case atStart => exact ⟨32, h.toNat, 0, by omega, by go_num, rfl, rfl, ⟨by rw [Alu.topV_start]; omega, HC.out⟩⟩
  case round =>
    clear hzv
    obtain ⟨j, r, q, hj, rfl, rfl, rfl, HI⟩ := hrel
    have hql : q < 4294967296 := by
      have := Alu.quot_lt h.toNat c.toNat q r l j hj HC.out HI.out.1
      have h2 : 2 ^ (32 - j) ≤ 2 ^ 32 := Nat.pow_le_pow_right (by omega) (by omega)
      omega
    have hrl : r < 4294967296 := by have := HI.out.2; have := c.isLt; omega
    by_cases h0 : j = 0
    · subst h0
      have hb0 : decide ((0 : Int) ≤ ((0 : Nat) : Int) - 1) = false := by decide
      have hq1 : (q : Int) % 4294967296 = (q : Int) := by omega
      have hr1 : (r : Int) % 4294967296 = (r : Int) := by omega
      have hq2 : (q : Int) < 4294967296 := by omega
      have hr2 : (r : Int) < 4294967296 := by omega
      have HQ : Kp ((BitVec.ofNat 32 q).toNat = q ∧ (BitVec.ofNat 32 r).toNat = r) := ⟨by rw [BitVec.toNat_ofNat, BitVec.toNat_ofNat]; omega⟩
      clear hql hrl
      go_wp2
      go_ret3
      refine ⟨⟨BitVec.ofNat 32 q, BitVec.ofNat 32 r, by rw [HQ.out.1, HQ.out.2]; rfl, by rw [HQ.out.1, HQ.out.2, ← Alu.topV_end]; exact HI.out.1, by rw [HQ.out.2]; exact HI.out.2⟩, HL.out.2⟩
    · obtain ⟨p, rfl⟩ : ∃ p, j = p + 1 := ⟨j - 1, by omega⟩
      have eq1 : ((p + 1 : Nat) : Int) - 1 = (p : Int) := by omega
      rw [eq1]
      have hb0 : decide ((0 : Int) ≤ (p : Int)) = true := decide_eq_true (by omega)
      have hp0 : (0 : Int) ≤ (p : Int) := by omega
      have hpi : (p : Int) < 32 := by omega
      have hp32 : p < 32 := by omega
      have HP := Kp.mk hp32
      have hcell := HL.out.1.cell p hp32
      obtain ⟨d, hd⟩ : ∃ d, d = l.getLsbD p := ⟨_, rfl⟩
      rw [← hd] at hcell
      have hst := Alu.topV_step h.toNat l p hp32
      rw [← hd] at hst
      obtain ⟨m, hm⟩ : ∃ m, m = 2 * r + (if d then 1 else 0) := ⟨_, rfl⟩
      have HV : Kp (2 * q * c.toNat + m = Alu.topV h.toNat l p) := ⟨by
        rw [hst, ← HI.out.1, hm, Nat.mul_assoc, Nat.mul_add]; omega⟩
      have HM : Kp (m < 2 * c.toNat) := ⟨by have := HI.out.2; rw [hm]; cases d <;> simp <;> omega⟩
      obtain ⟨r2, hr2⟩ : ∃ r2, r2 = 2 * r := ⟨_, rfl⟩
      have e1 : 2 * (r : Int) = (r2 : Int) := by omega
      have er : (r2 : Int) < 8589934592 := by omega
      obtain ⟨q2, hq2⟩ : ∃ q2, q2 = 2 * q := ⟨_, rfl⟩
      have e2 : 2 * (q : Int) = (q2 : Int) := by omega
      have eq : (q2 : Int) < 8589934592 := by omega
      rw [← hq2] at HV
      have hmr : m = r2 + (if d then 1 else 0) := by rw [hm, hr2]
      have hgo : ∀ m' : Nat, m' = m → (c.toNat ≤ m' → Kp ((q2 + 1) * c.toNat + (m' - c.toNat) = Alu.topV h.toNat l p ∧ m' - c.toNat < c.toNat)) ∧ (¬ c.toNat ≤ m' → Kp (q2 * c.toNat + m' = Alu.topV h.toNat l p ∧ m' < c.toNat)) := fun m' hm' => by
        subst hm'
        refine ⟨fun h => ⟨?_, ?_⟩, fun h => ⟨HV.out, by omega⟩⟩
        · rw [← HV.out, Nat.add_mul, Nat.one_mul]; omega
        · have := HM.out; omega
      have HGO := Kp.mk hgo
      clear hst hd h0 eq1 hm hr2 hq2 hql hrl hgo
      cases d with
      | false =>
        have hm0 : r2 = m := by simpa using hmr.symm
        subst hm0
        clear hmr
        by_cases hcm : c.toNat ≤ r2
        · have t1 : decide ((c.toNat : Int) ≤ (r2 : Int)) = true := decide_eq_true (by omega)
          have t2 : decide (c.toNat ≤ r2) = true := decide_eq_true hcm
          have HN := (HGO.out r2 rfl).1 hcm
          obtain ⟨z, hz⟩ : ∃ z, z = r2 - c.toNat := ⟨_, rfl⟩
          have e3 : (r2 : Int) - (c.toNat : Int) = (z : Int) := by omega
          rw [← hz] at HN
          clear hz hcm HGO
          go_wp2
          go_round
          case rel => exact ⟨p, z, q2 + 1, by have := HP.out; omega, by go_num, rfl, by go_num, HN⟩
          case measure => simp [intOf] <;> omega
        · have t1 : decide ((c.toNat : Int) ≤ (r2 : Int)) = false := decide_eq_false (by omega)
          have t2 : decide (c.toNat ≤ r2) = false := decide_eq_false hcm
          have HN := (HGO.out r2 rfl).2 hcm
          clear hcm HGO
          go_wp2
          go_round
          case rel => exact ⟨p, r2, q2, by have := HP.out; omega, by go_num, rfl, rfl, HN⟩
          case measure => simp [intOf] <;> omega
      | true =>
        have hm0 : m = r2 + 1 := by simpa using hmr
        subst hm0
        clear hmr
        obtain ⟨s, hs⟩ : ∃ s, s = r2 + 1 := ⟨_, rfl⟩
        have e0 : (r2 : Int) + 1 = (s : Int) := by omega
        by_cases hcm : c.toNat ≤ s
        · have t1 : decide ((c.toNat : Int) ≤ (s : Int)) = true := decide_eq_true (by omega)
          have t2 : decide (c.toNat ≤ s) = true := decide_eq_true hcm
          have HN := (HGO.out s hs).1 hcm
          obtain ⟨z, hz⟩ : ∃ z, z = s - c.toNat := ⟨_, rfl⟩
          have e3 : (s : Int) - (c.toNat : Int) = (z : Int) := by omega
          rw [← hz] at HN
          clear hz hcm HGO hs
          go_wp2
          go_round
          case rel => exact ⟨p, z, q2 + 1, by have := HP.out; omega, by go_num, rfl, by go_num, HN⟩
          case measure => simp [intOf] <;> omega
        · have t1 : decide ((c.toNat : Int) ≤ (s : Int)) = false := decide_eq_false (by omega)
          have t2 : decide (c.toNat ≤ s) = false := decide_eq_false hcm
          have HN := (HGO.out s hs).2 hcm
          clear hcm HGO hs
          go_wp2
          go_round
          case rel => exact ⟨p, s, q2, by have := HP.out; omega, by go_num, rfl, rfl, HN⟩
          case measure => simp [intOf] <;> omega
end Go.Proofs.YtpihlaeioepbpaaDoor
