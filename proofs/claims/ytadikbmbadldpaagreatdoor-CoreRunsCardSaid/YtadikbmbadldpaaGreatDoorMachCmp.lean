
/- The program's machine: set, width, compute, jump, walked (printed by gen_mach.py). -/
import Derived.Test.YtadikbmbadldpaaGreatDoorMach
import Derived.Test.YtadikbmbadldpaaGreatDoorAluTest
import Derived.Deep.QuietTactic
namespace Go.Proofs.YtadikbmbadldpaaGreatDoor
open Go Go.RowKit
set_option linter.unusedVariables false

theorem below_drewN {B : Nat} {a b : World} (h : Below B a b) (n : Nat) : Below B a (b.drewN n) := by
  induction n with
  | zero => exact h
  | succ n ih => rw [← World.drew_drewN]; exact ih.drew
set_option maxRecDepth 100000 in
theorem core_set {W0 : BaseW} {w : World} {b : Nat} {v : Value} {n : Nat} {P : Nat → PageV} {q : ProcV} (h : St W0 w b v n P q) (k : Nat) (hk : k < 16) (x : BitVec 32) :
    Calls Tryz.prog 46 #[.pointer (some ⟨b, 0, none⟩), .int .i64 (k : Int), .int .u32 (x.toNat : Int)] w fun e w' => e = .returned (.tuple #[]) ∧ St W0 w' b v n P (q.set k x) := by
  unfold ProcV.set
  by_cases hz : k = 0
  · rw [if_pos hz]
    have t0 : ((k : Int) != 0) = false := by rw [hz]; rfl
    have H := Kp.mk h
    clear h hz hk
    go_enter Tryz.func46, Tryz.ntmps46
    go_wp2
    go_end0
    exact ⟨rfl, H.out⟩
  · rw [if_neg hz]
    have t0 : ((k : Int) != 0) = true := by simp; omega
    have t1 : (k : Int) < 16 := by omega
    have t2 : (0 : Int) ≤ (k : Int) := by omega
    have c0 := h.mach.reg k hk
    have f0 := h.mach.free (1 + k)
    have H := Kp.mk (h.put k x hk)
    clear h hz hk
    go_enter Tryz.func46, Tryz.ntmps46
    go_wp2
    go_end0
    exact ⟨rfl, H.out⟩
set_option maxRecDepth 100000 in
theorem core_width (op : Int) (h1 : 32 ≤ op) (h2 : op ≤ 37) (w : World) : Calls Tryz.prog 49 #[.int .i64 op] w fun e w' => e = .returned (.int .i64 (widthN op : Nat)) ∧ w' = w := by
  have h : op = 32 ∨ op = 33 ∨ op = 34 ∨ op = 35 ∨ op = 36 ∨ op = 37 := by omega
  rcases h with rfl | rfl | rfl | rfl | rfl | rfl
  all_goals
    clear h1 h2
    go_enter Tryz.func49, Tryz.ntmps49
    go_wp2
    go_ret
    exact ⟨rfl, rfl⟩
theorem u32_of_imm (imm : Int) : imm % (4294967296 : Int) = ((BitVec.ofInt 32 imm).toNat : Int) := Alu.toNat_ofInt imm
theorem u32_add (a b : BitVec 32) : ((a.toNat : Int) + b.toNat) % (4294967296 : Int) = ((a + b).toNat : Int) := Alu.add_int a b
theorem u32_shl16 (x : BitVec 32) : (x.toNat : Int) * (65536 : Int) % (4294967296 : Int) = ((x <<< 16).toNat : Int) := by
  have := Alu.shl_int x 16
  rw [show ((2 : Int) ^ 16) = (65536 : Int) by decide] at this
  exact this
theorem u32_mul4 (x : BitVec 32) : (4 : Int) * (x.toNat : Int) % (4294967296 : Int) = ((4#32 * x).toNat : Int) := by
  rw [BitVec.toNat_mul]
  simp
abbrev insP (op : Int) (a b c : Nat) (imm : Int) : InsV := ⟨op, a, b, c, imm⟩
theorem errVal_no {A : Nat → Addr} {z : Nat} (h : z = 0) : errVal A z = .nilIface := by rw [h]; rfl
theorem errVal_yes {A : Nat → Addr} {z : Nat} (h : z ≠ 0) : ∃ a, errVal A z = .iface 199 (.pointer (some a)) := by
  cases z with
  | zero => exact absurd rfl h
  | succ z => exact ⟨A (z + 1), rfl⟩
set_option maxRecDepth 100000 in
set_option maxHeartbeats 8000000 in
theorem core_compute (A : Nat → Addr) {W0 : BaseW} {w : World} {b : Nat} {v : Value} {n : Nat} {P : Nat → PageV} {q : ProcV} (h : St W0 w b v n P q) (hE : Errs W0.w [7, 20] A) (op : Int) (h1 : 1 ≤ op) (h20 : op ≤ 20) (a d c : Nat) (ha : a < 16) (hd : d < 16) (hc : c < 16) (imm : Int) :
    Calls Tryz.prog 27 #[.pointer (some ⟨b, 0, none⟩), .agg (insA op a d c imm)] w fun e w' => e = .returned (.int .i64 ((cmpV q (insP op a d c imm)).1 : Nat)) ∧ St W0 w' b v n P (cmpV q (insP op a d c imm)).2 := by
  obtain ⟨x, hx⟩ : ∃ x, x = BitVec.ofInt 32 imm := ⟨_, rfl⟩
  have px : imm % (4294967296 : Int) = (x.toNat : Int) := by rw [hx]; exact u32_of_imm imm
  obtain ⟨xl, hxl⟩ : ∃ xl, xl = x <<< 16 := ⟨_, rfl⟩
  have px2 := u32_shl16 x
  rw [← hxl] at px2
  have hlt := h.mach.lt
  have cd := h.mach.reg d hd
  have cc := h.mach.reg c hc
  obtain ⟨yd, hyd⟩ : ∃ y, y = q.r d := ⟨_, rfl⟩
  obtain ⟨yc, hyc⟩ : ∃ y, y = q.r c := ⟨_, rfl⟩
  rw [← hyd] at cd
  rw [← hyc] at cc
  have t1 : (d : Int) < 16 := by omega
  have t2 : (0 : Int) ≤ (d : Int) := by omega
  have t3 : (c : Int) < 16 := by omega
  have t4 : (0 : Int) ≤ (c : Int) := by omega
  have KS := Kp.mk (fun (y : BitVec 32) w' (hw : Below w.heap.size w w') => core_set (h.later hw) a ha y)
  have KD := Kp.mk (fun (o : Int) (y z : BitVec 32) w' (hw : Below w.heap.size w w') => alu_do A o y z w' ((hE.later h.below).later hw))
  have HN := Kp.mk h
  have HC : Kp (cmpV q (insP op a d c imm) = if op = 20 then (0, q.set a xl) else (if (if op = 16 then Alu.do_ 1 yd x else if op = 17 then Alu.do_ 3 yd x else if op = 18 then Alu.do_ 4 yd x else if op = 19 then Alu.do_ 5 yd x else Alu.do_ op yd yc).2 = 0 then (0, q.set a (if op = 16 then Alu.do_ 1 yd x else if op = 17 then Alu.do_ 3 yd x else if op = 18 then Alu.do_ 4 yd x else if op = 19 then Alu.do_ 5 yd x else Alu.do_ op yd yc).1) else (7, q))) := ⟨by rw [hyd, hyc, hxl, hx]; rfl⟩
  obtain ⟨r, hr⟩ : ∃ r, r = cmpV q (insP op a d c imm) := ⟨_, rfl⟩
  rw [← hr]
  rw [← hr] at HC
  clear h hE ha hd hc hx hyd hyc hr hxl
  by_cases e20 : op = 20
  · subst e20
    have hr : r = (0, q.set a xl) := HC.out
    subst hr
    clear HC KD h1 h20
    go_enter Tryz.func27, Tryz.ntmps27
    go_wp2_with fail
    go_quiet (fail)
    go_wp2_with fail
    rw [px2]
    with_reducible refine (KS.out xl _ (below_drewN (below_alloc _ _) _)).mono ?_
    rintro e w2 ⟨rfl, hw2⟩
    have HW2 := Kp.mk hw2
    clear hw2
    go_wp2_with fail
    go_ret
    exact ⟨rfl, HW2.out⟩
  by_cases e16 : op = 16
  · subst e16
    obtain ⟨z, hz⟩ : ∃ z, z = Alu.do_ 1 yd x := ⟨_, rfl⟩
    have hr : r = (0, q.set a z.1) := by rw [HC.out, hz]; rfl
    have KD2 : Kp (∀ w', Below w.heap.size w w' → Calls Tryz.prog 51 #[.int .i64 1, .int .u32 (yd.toNat : Int), .int .u32 (x.toNat : Int)] w' fun e w'' => e = .returned (.tuple #[.int .u32 (z.1.toNat : Int), .nilIface]) ∧ Drew w' w'') := ⟨fun w' hw => by rw [hz]; exact KD.out 1 yd x w' hw⟩
    subst hr
    clear HC KD h1 h20 hz
    go_enter Tryz.func27, Tryz.ntmps27
    go_wp2_with fail
    go_quiet (fail)
    go_wp2_with fail
    go_quiet (fail)
    go_wp2_with (first
      | (go_at_call 51; (with_reducible refine (KD2.out _ (below_drewN (below_drewN (below_alloc _ _) _) _)).mono ?_); rintro e w2 ⟨rfl, m, rfl⟩)
      | (go_at_call 51; (with_reducible refine (KD2.out _ (below_drewN (below_alloc _ _) _)).mono ?_); rintro e w2 ⟨rfl, m, rfl⟩)
      | (go_at_call 46; (with_reducible refine (KS.out _ _ (below_drewN (below_drewN (below_drewN (below_alloc _ _) _) _) _)).mono ?_); rintro e w3 ⟨rfl, hw2⟩; have HW2 := Kp.mk hw2; clear hw2)
      | (go_at_call 46; (with_reducible refine (KS.out _ _ (below_drewN (below_drewN (below_alloc _ _) _) _)).mono ?_); rintro e w3 ⟨rfl, hw2⟩; have HW2 := Kp.mk hw2; clear hw2)
      | (go_at_call 46; (with_reducible refine (KS.out _ _ (below_drewN (below_alloc _ _) _)).mono ?_); rintro e w3 ⟨rfl, hw2⟩; have HW2 := Kp.mk hw2; clear hw2))
    go_ret
    exact ⟨rfl, HW2.out⟩
  by_cases e17 : op = 17
  · subst e17
    obtain ⟨z, hz⟩ : ∃ z, z = Alu.do_ 3 yd x := ⟨_, rfl⟩
    have hr : r = (0, q.set a z.1) := by rw [HC.out, hz]; rfl
    have KD2 : Kp (∀ w', Below w.heap.size w w' → Calls Tryz.prog 51 #[.int .i64 3, .int .u32 (yd.toNat : Int), .int .u32 (x.toNat : Int)] w' fun e w'' => e = .returned (.tuple #[.int .u32 (z.1.toNat : Int), .nilIface]) ∧ Drew w' w'') := ⟨fun w' hw => by rw [hz]; exact KD.out 3 yd x w' hw⟩
    subst hr
    clear HC KD h1 h20 hz
    go_enter Tryz.func27, Tryz.ntmps27
    go_wp2_with fail
    go_quiet (fail)
    go_wp2_with fail
    go_quiet (fail)
    go_wp2_with (first
      | (go_at_call 51; (with_reducible refine (KD2.out _ (below_drewN (below_drewN (below_alloc _ _) _) _)).mono ?_); rintro e w2 ⟨rfl, m, rfl⟩)
      | (go_at_call 51; (with_reducible refine (KD2.out _ (below_drewN (below_alloc _ _) _)).mono ?_); rintro e w2 ⟨rfl, m, rfl⟩)
      | (go_at_call 46; (with_reducible refine (KS.out _ _ (below_drewN (below_drewN (below_drewN (below_alloc _ _) _) _) _)).mono ?_); rintro e w3 ⟨rfl, hw2⟩; have HW2 := Kp.mk hw2; clear hw2)
      | (go_at_call 46; (with_reducible refine (KS.out _ _ (below_drewN (below_drewN (below_alloc _ _) _) _)).mono ?_); rintro e w3 ⟨rfl, hw2⟩; have HW2 := Kp.mk hw2; clear hw2)
      | (go_at_call 46; (with_reducible refine (KS.out _ _ (below_drewN (below_alloc _ _) _)).mono ?_); rintro e w3 ⟨rfl, hw2⟩; have HW2 := Kp.mk hw2; clear hw2))
    go_ret
    exact ⟨rfl, HW2.out⟩
  by_cases e18 : op = 18
  · subst e18
    obtain ⟨z, hz⟩ : ∃ z, z = Alu.do_ 4 yd x := ⟨_, rfl⟩
    have hr : r = (0, q.set a z.1) := by rw [HC.out, hz]; rfl
    have KD2 : Kp (∀ w', Below w.heap.size w w' → Calls Tryz.prog 51 #[.int .i64 4, .int .u32 (yd.toNat : Int), .int .u32 (x.toNat : Int)] w' fun e w'' => e = .returned (.tuple #[.int .u32 (z.1.toNat : Int), .nilIface]) ∧ Drew w' w'') := ⟨fun w' hw => by rw [hz]; exact KD.out 4 yd x w' hw⟩
    subst hr
    clear HC KD h1 h20 hz
    go_enter Tryz.func27, Tryz.ntmps27
    go_wp2_with fail
    go_quiet (fail)
    go_wp2_with fail
    go_quiet (fail)
    go_wp2_with (first
      | (go_at_call 51; (with_reducible refine (KD2.out _ (below_drewN (below_drewN (below_alloc _ _) _) _)).mono ?_); rintro e w2 ⟨rfl, m, rfl⟩)
      | (go_at_call 51; (with_reducible refine (KD2.out _ (below_drewN (below_alloc _ _) _)).mono ?_); rintro e w2 ⟨rfl, m, rfl⟩)
      | (go_at_call 46; (with_reducible refine (KS.out _ _ (below_drewN (below_drewN (below_drewN (below_alloc _ _) _) _) _)).mono ?_); rintro e w3 ⟨rfl, hw2⟩; have HW2 := Kp.mk hw2; clear hw2)
      | (go_at_call 46; (with_reducible refine (KS.out _ _ (below_drewN (below_drewN (below_alloc _ _) _) _)).mono ?_); rintro e w3 ⟨rfl, hw2⟩; have HW2 := Kp.mk hw2; clear hw2)
      | (go_at_call 46; (with_reducible refine (KS.out _ _ (below_drewN (below_alloc _ _) _)).mono ?_); rintro e w3 ⟨rfl, hw2⟩; have HW2 := Kp.mk hw2; clear hw2))
    go_ret
    exact ⟨rfl, HW2.out⟩
  by_cases e19 : op = 19
  · subst e19
    obtain ⟨z, hz⟩ : ∃ z, z = Alu.do_ 5 yd x := ⟨_, rfl⟩
    have hr : r = (0, q.set a z.1) := by rw [HC.out, hz]; rfl
    have KD2 : Kp (∀ w', Below w.heap.size w w' → Calls Tryz.prog 51 #[.int .i64 5, .int .u32 (yd.toNat : Int), .int .u32 (x.toNat : Int)] w' fun e w'' => e = .returned (.tuple #[.int .u32 (z.1.toNat : Int), .nilIface]) ∧ Drew w' w'') := ⟨fun w' hw => by rw [hz]; exact KD.out 5 yd x w' hw⟩
    subst hr
    clear HC KD h1 h20 hz
    go_enter Tryz.func27, Tryz.ntmps27
    go_wp2_with fail
    go_quiet (fail)
    go_wp2_with fail
    go_quiet (fail)
    go_wp2_with (first
      | (go_at_call 51; (with_reducible refine (KD2.out _ (below_drewN (below_drewN (below_alloc _ _) _) _)).mono ?_); rintro e w2 ⟨rfl, m, rfl⟩)
      | (go_at_call 51; (with_reducible refine (KD2.out _ (below_drewN (below_alloc _ _) _)).mono ?_); rintro e w2 ⟨rfl, m, rfl⟩)
      | (go_at_call 46; (with_reducible refine (KS.out _ _ (below_drewN (below_drewN (below_drewN (below_alloc _ _) _) _) _)).mono ?_); rintro e w3 ⟨rfl, hw2⟩; have HW2 := Kp.mk hw2; clear hw2)
      | (go_at_call 46; (with_reducible refine (KS.out _ _ (below_drewN (below_drewN (below_alloc _ _) _) _)).mono ?_); rintro e w3 ⟨rfl, hw2⟩; have HW2 := Kp.mk hw2; clear hw2)
      | (go_at_call 46; (with_reducible refine (KS.out _ _ (below_drewN (below_alloc _ _) _)).mono ?_); rintro e w3 ⟨rfl, hw2⟩; have HW2 := Kp.mk hw2; clear hw2))
    go_ret
    exact ⟨rfl, HW2.out⟩
  obtain ⟨z, hz⟩ : ∃ z, z = Alu.do_ op yd yc := ⟨_, rfl⟩
  have hr : r = if z.2 = 0 then (0, q.set a z.1) else (7, q) := by rw [HC.out, if_neg e20, if_neg e16, if_neg e17, if_neg e18, if_neg e19, hz]
  have g20 : (op == 20) = false := by rw [beq_eq_false_iff_ne]; exact e20
  have g16 : (op == 16) = false := by rw [beq_eq_false_iff_ne]; exact e16
  have g17 : (op == 17) = false := by rw [beq_eq_false_iff_ne]; exact e17
  have g18 : (op == 18) = false := by rw [beq_eq_false_iff_ne]; exact e18
  have g19 : (op == 19) = false := by rw [beq_eq_false_iff_ne]; exact e19
  clear HC e20 e16 e17 e18 e19
  by_cases hz0 : z.2 = 0
  · rw [if_pos hz0] at hr
    have KD2 : Kp (∀ w', Below w.heap.size w w' → Calls Tryz.prog 51 #[.int .i64 op, .int .u32 (yd.toNat : Int), .int .u32 (yc.toNat : Int)] w' fun e w'' => e = .returned (.tuple #[.int .u32 (z.1.toNat : Int), .nilIface]) ∧ Drew w' w'') := ⟨fun w' hw => by
      have := KD.out op yd yc w' hw
      rw [← hz, errVal_no hz0] at this
      exact this⟩
    subst hr
    clear KD h1 h20 hz hz0
    go_enter Tryz.func27, Tryz.ntmps27
    go_wp2_with fail
    go_quiet (fail)
    go_wp2_with (first
      | (go_at_call 51; (with_reducible refine (KD2.out _ (below_drewN (below_alloc _ _) _)).mono ?_); rintro e w2 ⟨rfl, m, rfl⟩)
      | (go_at_call 46; (with_reducible refine (KS.out _ _ (below_drewN (below_drewN (below_alloc _ _) _) _)).mono ?_); rintro e w3 ⟨rfl, hw2⟩; have HW2 := Kp.mk hw2; clear hw2)
      | (go_at_call 46; (with_reducible refine (KS.out _ _ (below_drewN (below_alloc _ _) _)).mono ?_); rintro e w3 ⟨rfl, hw2⟩; have HW2 := Kp.mk hw2; clear hw2))
    go_ret
    exact ⟨rfl, HW2.out⟩
  · rw [if_neg hz0] at hr
    obtain ⟨ea, hea⟩ := errVal_yes (A := A) hz0
    have KD2 : Kp (∀ w', Below w.heap.size w w' → Calls Tryz.prog 51 #[.int .i64 op, .int .u32 (yd.toNat : Int), .int .u32 (yc.toNat : Int)] w' fun e w'' => e = .returned (.tuple #[.int .u32 (z.1.toNat : Int), .iface 199 (.pointer (some ea))]) ∧ Drew w' w'') := ⟨fun w' hw => by
      have := KD.out op yd yc w' hw
      rw [← hz, hea] at this
      exact this⟩
    subst hr
    clear KD h1 h20 hz hz0 hea KS
    go_enter Tryz.func27, Tryz.ntmps27
    go_wp2_with fail
    go_quiet (fail)
    go_wp2_with (first
      | (go_at_call 51; (with_reducible refine (KD2.out _ (below_drewN (below_alloc _ _) _)).mono ?_); rintro e w2 ⟨rfl, m, rfl⟩))
    go_ret
    exact ⟨rfl, HN.out.later (by first | exact below_drewN (below_drewN (below_alloc _ _) _) _ | exact below_drewN (below_alloc _ _) _)⟩
end Go.Proofs.YtadikbmbadldpaaGreatDoor
