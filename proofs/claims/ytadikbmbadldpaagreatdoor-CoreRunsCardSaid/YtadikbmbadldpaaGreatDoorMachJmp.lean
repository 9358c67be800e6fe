
/- The program's machine: jump, walked (printed by gen_mach.py). -/
import Derived.Test.YtadikbmbadldpaaGreatDoorMachCmp
namespace Go.Proofs.YtadikbmbadldpaaGreatDoor
open Go Go.RowKit
set_option linter.unusedVariables false

set_option maxRecDepth 100000 in
set_option maxHeartbeats 8000000 in
theorem core_jump (A : Nat → Addr) {W0 : BaseW} {w : World} {b : Nat} {v : Value} {n : Nat} {P : Nat → PageV} {q : ProcV} (h : St W0 w b v n P q) (hE : Errs W0.w [7, 20] A) (op : Int) (h1 : 48 ≤ op) (h20 : op ≤ 55) (a d c : Nat) (ha : a < 16) (hd : d < 16) (hc : c < 16) (imm : Int) (nx : BitVec 32) :
    Calls Tryz.prog 25 #[.pointer (some ⟨b, 0, none⟩), .agg (insA op a d c imm), .int .u32 (nx.toNat : Int)] w fun e w' => e = .returned (.int .u32 ((jmpV q (insP op a d c imm) nx).1.toNat : Int)) ∧ St W0 w' b v n P (jmpV q (insP op a d c imm) nx).2 := by
  obtain ⟨x, hx⟩ : ∃ x, x = BitVec.ofInt 32 imm := ⟨_, rfl⟩
  have px : imm % (4294967296 : Int) = (x.toNat : Int) := by rw [hx]; exact u32_of_imm imm
  obtain ⟨x4, hx4⟩ : ∃ x4, x4 = 4#32 * x := ⟨_, rfl⟩
  have px4 : (4 : Int) * (x.toNat : Int) % (4294967296 : Int) = (x4.toNat : Int) := by rw [hx4]; exact u32_mul4 x
  obtain ⟨fr, hfr⟩ : ∃ fr, fr = nx + x4 := ⟨_, rfl⟩
  have pfr : ((nx.toNat : Int) + x4.toNat) % (4294967296 : Int) = (fr.toNat : Int) := by rw [hfr]; exact u32_add nx x4
  have hlt := h.mach.lt
  have ca := h.mach.reg a ha
  have cd := h.mach.reg d hd
  obtain ⟨ya, hya⟩ : ∃ y, y = q.r a := ⟨_, rfl⟩
  obtain ⟨yd, hyd⟩ : ∃ y, y = q.r d := ⟨_, rfl⟩
  rw [← hyd] at cd
  rw [← hya] at ca
  obtain ⟨s, hs⟩ : ∃ s, s = yd + x := ⟨_, rfl⟩
  have ps : ((yd.toNat : Int) + x.toNat) % (4294967296 : Int) = (s.toNat : Int) := by rw [hs]; exact u32_add yd x
  have t1 : (d : Int) < 16 := by omega
  have t2 : (0 : Int) ≤ (d : Int) := by omega
  have t3 : (a : Int) < 16 := by omega
  have t4 : (0 : Int) ≤ (a : Int) := by omega
  have KS := Kp.mk (fun (y : BitVec 32) w' (hw : Below w.heap.size w w') => core_set (h.later hw) a ha y)
  have KT := Kp.mk (fun w' (hw : Below w.heap.size w w') => alu_test A op ya yd w' (((hE.later h.below).later hw).sub (by intro c hc; simp at hc ⊢; omega)))
  have HN := Kp.mk h
  have HC : Kp (jmpV q (insP op a d c imm) nx = if op = 54 then (fr, q.set a nx) else if op = 55 then (s, q) else (if (Alu.test op ya yd).1 then fr else nx, q)) := ⟨by rw [hfr, hx4, hs, hya, hyd, hx]; rfl⟩
  obtain ⟨r, hr⟩ : ∃ r, r = jmpV q (insP op a d c imm) nx := ⟨_, rfl⟩
  rw [← hr]
  rw [← hr] at HC
  clear h hE ha hd hc hx hya hyd hr hfr hx4 hs
  by_cases e54 : op = 54
  · subst e54
    have hr : r = (fr, q.set a nx) := HC.out
    subst hr
    clear HC h1 h20 KT
    go_enter Tryz.func25, Tryz.ntmps25
    go_wp2_with (first
      | (go_at_call 46; (with_reducible refine (KS.out _ _ (below_alloc _ _)).mono ?_); rintro e w2 ⟨rfl, hw2⟩; have HW2 := Kp.mk hw2; clear hw2))
    go_ret
    exact ⟨by first | rfl | exact ret_int pfr | exact ret_int ps, HW2.out⟩
  by_cases e55 : op = 55
  · subst e55
    have hr : r = (s, q) := HC.out
    subst hr
    clear HC h1 h20 KT KS
    go_enter Tryz.func25, Tryz.ntmps25
    go_wp2_with fail
    go_quiet (fail)
    go_wp2_with fail
    go_ret
    exact ⟨by first | rfl | exact ret_int pfr | exact ret_int ps, HN.out.later (below_drewN (below_alloc _ _) _)⟩
  have g54 : (op == 54) = false := by rw [beq_eq_false_iff_ne]; exact e54
  have g55 : (op == 55) = false := by rw [beq_eq_false_iff_ne]; exact e55
  have ht2 : (Alu.test op ya yd).2 = 0 := by
    have : op = 48 ∨ op = 49 ∨ op = 50 ∨ op = 51 ∨ op = 52 ∨ op = 53 := by omega
    rcases this with rfl | rfl | rfl | rfl | rfl | rfl <;> rfl
  obtain ⟨t, ht⟩ : ∃ t, t = (Alu.test op ya yd).1 := ⟨_, rfl⟩
  have hr : r = (if t then fr else nx, q) := by rw [HC.out, if_neg e54, if_neg e55, ht]
  have KT2 : Kp (∀ w', Below w.heap.size w w' → Calls Tryz.prog 47 #[.int .i64 op, .int .u32 (ya.toNat : Int), .int .u32 (yd.toNat : Int)] w' fun e w'' => e = .returned (.tuple #[.bool t, .nilIface]) ∧ Drew w' w'') := ⟨fun w' hw => by
    have := KT.out w' hw
    rw [← ht, errVal_no ht2] at this
    exact this⟩
  clear HC h1 h20 KT KS e54 e55 ht ht2
  cases t
  · have hr : r = (nx, q) := hr
    subst hr
    go_enter Tryz.func25, Tryz.ntmps25
    go_wp2_with fail
    go_quiet ((go_at_call 47; exact (KT2.out _ (below_drewN (below_alloc _ _) _)).mono (fun e w'' h => ⟨h.1, by obtain ⟨m, hm⟩ := h.2; exact ⟨_, by rw [hm, World.drewN_drewN]⟩⟩)))
    go_wp2_with fail
    go_ret
    exact ⟨by first | rfl | exact ret_int pfr | exact ret_int ps, HN.out.later (below_drewN (below_alloc _ _) _)⟩
  · have hr : r = (fr, q) := hr
    subst hr
    go_enter Tryz.func25, Tryz.ntmps25
    go_wp2_with fail
    go_quiet ((go_at_call 47; exact (KT2.out _ (below_drewN (below_alloc _ _) _)).mono (fun e w'' h => ⟨h.1, by obtain ⟨m, hm⟩ := h.2; exact ⟨_, by rw [hm, World.drewN_drewN]⟩⟩)))
    go_wp2_with fail
    go_ret
    exact ⟨by first | rfl | exact ret_int pfr | exact ret_int ps, HN.out.later (below_drewN (below_alloc _ _) _)⟩
end Go.Proofs.YtadikbmbadldpaaGreatDoor
