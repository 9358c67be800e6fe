
/- ferryref04.Encode, walked. -/
import Derived.Test.YtadikbmbadldpaaGreatDoorRefIsa2
namespace Go.Proofs.YtadikbmbadldpaaGreatDoor
open Go Go.RowKit
set_option linter.unusedVariables false

set_option maxRecDepth 100000 in
set_option maxHeartbeats 4000000 in
theorem ref_encode (op f : Nat) (hf : formAt (op : Int) = f) (h1 : 1 ≤ f) (hop : op < 256) (a b c : Nat) (ha : a < 16) (hb : b < 16) (hc : c < 16) (imm : Int) (hlo : bLo (usI f) (usS f) ≤ imm) (hhi : imm ≤ bHi (usI f) (usS f)) (w : World) :
    Calls Tryz.prog 78 #[.agg (insA op a b c imm)] w fun e w' => e = .returned (.tuple #[.int .u32 ((bif fitsW f a b c then wordN op a b c imm else 0 : Nat) : Int), .int .i64 (codeIf (fitsW f a b c))]) ∧ Below w.heap.size w w' := by
  obtain ⟨w1, e1⟩ : ∃ w1, w1 = w.alloc (.cells (insA op a b c imm) 67) := ⟨_, rfl⟩
  obtain ⟨B, hB⟩ : ∃ B, B = w.heap.size := ⟨_, rfl⟩
  have b1 : Below B w w1 := by rw [e1, hB]; exact below_alloc _ _
  have V1 : Kp (Blk w1 B (insA op a b c imm) 67) := ⟨by rw [e1, hB]; exact Blk.new _ _ _⟩
  have s1 : w1.heap.size = B + 1 := by rw [e1, hB]; simp
  have KF := Kp.mk (ref_check op f hf h1 a b c ha hb hc imm hlo hhi w1)
  obtain ⟨t, hft⟩ : ∃ t, t = fitsW f a b c := ⟨_, rfl⟩
  rw [← hft] at KF ⊢
  have hlo2 : -32768 ≤ imm := by
    refine Int.le_trans ?_ hlo
    cases usI f <;> cases usS f <;> decide
  have hhi2 : imm ≤ 65535 := by
    refine Int.le_trans hhi ?_
    cases usI f <;> cases usS f <;> decide
  have E1 := Kp.mk e1
  have S1 := Kp.mk s1
  have B1 := Kp.mk b1
  have HBq := Kp.mk hB
  have hcl : t = true → c = 0 ∨ imm = 0 := fun e => by
    rw [hft] at e
    unfold fitsW at e
    simp only [Bool.and_eq_true, Bool.or_eq_true, decide_eq_true_eq] at e
    rcases e.2 with h | h
    · exact .inl h
    · right
      have hu : usI f = false := by unfold usI; unfold usC at h; rw [h]; rfl
      rw [hu] at hlo hhi
      exact Int.le_antisymm hhi hlo
  have hneg : imm < 0 → (c = 0 ∨ imm = 0) → c = 0 := fun h h' => by omega
  clear e1 s1 b1 hB hf h1 hlo hhi hft
  cases t
  · clear hcl hneg
    have KF2 : Kp (Calls Tryz.prog 90 #[.agg (insA op a b c imm)] w1 fun e w' => e = .returned (.int .i64 4) ∧ Below w1.heap.size w1 w') := ⟨KF.out⟩
    show Calls _ _ _ _ fun e w' => e = .returned (.tuple #[.int .u32 0, .int .i64 4]) ∧ _
    clear KF
    go_enter Tryz.func78, Tryz.ntmps78
    go_wp2_with fail
    rw [← E1.out]
    refine KF2.out.mono ?_
    rintro e w2 ⟨rfl, hw2⟩
    have HW2 := Kp.mk hw2
    clear hw2 KF2
    go_wp2_with fail
    go_ret2
    exact ⟨rfl, by rw [← HBq.out]; exact B1.out.trans (HW2.out.mono (by have := S1.out; omega))⟩
  · have HCL := Kp.mk (hcl rfl)
    clear hcl
    have KF2 : Kp (Calls Tryz.prog 90 #[.agg (insA op a b c imm)] w1 fun e w' => e = .returned (.int .i64 0) ∧ Below w1.heap.size w1 w') := ⟨KF.out⟩
    show Calls _ _ _ _ fun e w' => e = .returned (.tuple #[.int .u32 (wordN op a b c imm : Nat), .int .i64 0]) ∧ _
    obtain ⟨N, hN⟩ : ∃ N, N = wordN op a b c imm := ⟨_, rfl⟩
    obtain ⟨S, hS⟩ : ∃ S : Int, S = (op : Int) * 16777216 + (a : Int) * 1048576 + (b : Int) * 65536 + (c : Int) * 4096 := ⟨_, rfl⟩
    have hNS : imm < 0 → S + 65536 + imm = (N : Int) := fun h => by
      rw [hN, hS]; unfold wordN; omega
    have hNS2 : ¬ imm < 0 → S + imm = (N : Int) := fun h => by
      rw [hN, hS]; unfold wordN; omega
    have hN32 : N < 4294967296 := by
      have := HCL.out
      rw [hN]; unfold wordN; omega
    have hS0 : 0 ≤ S := by omega
    have hS1 : S < 4294967296 := by omega
    have HSS := Kp.mk hS.symm
    have hp1 : (op : Int) * 16777216 + (a : Int) * 1048576 + (b : Int) * 65536 + (c : Int) * 4096 = S := hS.symm
    rw [← hN]
    clear KF hN hS hneg
    by_cases hm : imm < 0
    · have t1 : decide (imm < 0) = true := decide_eq_true hm
      have hr := hNS hm
      clear hNS hNS2
      go_enter Tryz.func78, Tryz.ntmps78
      go_wp2_with fail
      rw [← E1.out]
      refine KF2.out.mono ?_
      rintro e w2 ⟨rfl, hw2⟩
      have HW2 := Kp.mk hw2
      have VI := Kp.mk (V1.out.later hw2)
      have x0 := VI.out.cell 0 _ rfl
      have x1 := VI.out.cell 1 _ rfl
      have x2 := VI.out.cell 2 _ rfl
      have x3 := VI.out.cell 3 _ rfl
      have x4' := VI.out.cell 4 _ rfl
      rw [HBq.out] at x0 x1 x2 x3 x4'
      clear hw2 KF2
      go_wp2_with fail
      go_ret2
      exact ⟨by first | rfl | (simp only [hr]; rfl) | (rw [hr]; rfl), by rw [← HBq.out]; exact B1.out.trans (HW2.out.mono (by have := S1.out; omega))⟩
    · have t1 : decide (imm < 0) = false := decide_eq_false hm
      have hr := hNS2 hm
      clear hNS hNS2
      go_enter Tryz.func78, Tryz.ntmps78
      go_wp2_with fail
      rw [← E1.out]
      refine KF2.out.mono ?_
      rintro e w2 ⟨rfl, hw2⟩
      have HW2 := Kp.mk hw2
      have VI := Kp.mk (V1.out.later hw2)
      have x0 := VI.out.cell 0 _ rfl
      have x1 := VI.out.cell 1 _ rfl
      have x2 := VI.out.cell 2 _ rfl
      have x3 := VI.out.cell 3 _ rfl
      have x4' := VI.out.cell 4 _ rfl
      rw [HBq.out] at x0 x1 x2 x3 x4'
      clear hw2 KF2
      go_wp2_with fail
      go_ret2
      exact ⟨by first | rfl | (simp only [hr]; rfl) | (rw [hr]; rfl), by rw [← HBq.out]; exact B1.out.trans (HW2.out.mono (by have := S1.out; omega))⟩
end Go.Proofs.YtadikbmbadldpaaGreatDoor
