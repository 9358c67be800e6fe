
/- isa.form, bounds, fits, Check, Encode, walked. -/
import Derived.Test.YtadikbmbadldpaaGreatDoorIsaForm
import Derived.Test.YtadikbmbadldpaaGreatDoorLaid
namespace Go.Proofs.YtadikbmbadldpaaGreatDoor
open Go Go.RowKit
set_option linter.unusedVariables false

/-- What a form uses. -/
def usA (f : Nat) : Bool := !(decide (f = 6)) && !(decide (f = 7))
def usB (f : Nat) : Bool := decide (f = 1) || decide (f = 2) || decide (f = 3) || decide (f = 6)
def usC (f : Nat) : Bool := decide (f = 1)
def usI (f : Nat) : Bool := !(decide (f = 1))
def usS (f : Nat) : Bool := decide (f = 2) || decide (f = 5) || decide (f = 6)
abbrev useA (a b c i s : Bool) : Array Value := #[.bool a, .bool b, .bool c, .bool i, .bool s]
theorem useSize (a b c i s : Bool) : (Tryz.prog.info? 145).map (·.size) = some (useA a b c i s).size := by kernel_rfl
theorem form_cases {f : Nat} (h1 : 1 ≤ f) (h7 : f ≤ 7) : f = 1 ∨ f = 2 ∨ f = 3 ∨ f = 4 ∨ f = 5 ∨ f = 6 ∨ f = 7 := by omega
set_option maxRecDepth 100000 in
set_option maxHeartbeats 4000000 in
theorem isa_form (f : Nat) (h1 : 1 ≤ f) (h7 : f ≤ 7) (w : World) :
    Calls Tryz.prog 72 #[.int .i64 (f : Int)] w fun e w' => e = .returned (.agg (useA (usA f) (usB f) (usC f) (usI f) (usS f))) ∧ Below w.heap.size w w' := by
  rcases form_cases h1 h7 with rfl | rfl | rfl | rfl | rfl | rfl | rfl
  all_goals
    clear h1 h7
    show Calls Tryz.prog 72 #[.int .i64 _] w _
    go_enter Tryz.func72, Tryz.ntmps72
    go_wp2
    refine bodyPost_ret (res1 rfl _ rfl (Blk.new w (useA _ _ _ _ _) _) _ Tryz.underlying145 (useSize _ _ _ _ _)) rfl ⟨rfl, below_alloc _ _⟩
def bLo (i s : Bool) : Int := bif !i then 0 else bif s then -32768 else 0
def bHi (i s : Bool) : Int := bif !i then 0 else bif s then 32767 else 65535
set_option maxRecDepth 100000 in
set_option maxHeartbeats 4000000 in
theorem isa_bounds (a b c i s : Bool) (w : World) :
    Calls Tryz.prog 93 #[.agg (useA a b c i s)] w fun e w' => e = .returned (.tuple #[.int .i64 (bLo i s), .int .i64 (bHi i s)]) ∧ Below w.heap.size w w' := by
  cases i <;> cases s
  all_goals
    go_enter Tryz.func93, Tryz.ntmps93
    go_wp2
    go_ret2
    exact ⟨rfl, below_alloc _ _⟩
set_option maxRecDepth 100000 in
set_option maxHeartbeats 4000000 in
theorem isa_fits (n : Nat) (hn : n < 16) (u : Bool) (w : World) :
    Calls Tryz.prog 94 #[.int .i64 (n : Int), .bool u] w fun e w' => e = .returned (.bool (decide (n = 0) || u)) ∧ w' = w := by
  by_cases h0 : n = 0
  · subst h0
    show Calls Tryz.prog 94 #[.int .i64 0, .bool u] w _
    clear hn
    go_enter Tryz.func94, Tryz.ntmps94
    go_wp2
    go_ret
    exact ⟨rfl, rfl⟩
  · rw [decide_eq_false h0, Bool.false_or]
    have t0 : ((n : Int) == 0) = false := by rw [beq_eq_false_iff_ne]; omega
    have t1 : decide ((n : Int) ≥ 0) = true := decide_eq_true (by omega)
    have t2 : decide ((n : Int) ≤ 15) = true := decide_eq_true (by omega)
    clear hn h0
    cases u
    all_goals
      go_enter Tryz.func94, Tryz.ntmps94
      go_wp2
      go_ret
      exact ⟨rfl, rfl⟩
/-- Does a field that is not used hold something? -/
def fitsW (f a b c : Nat) : Bool := (decide (a = 0) || usA f) && (decide (b = 0) || usB f) && (decide (c = 0) || usC f)
abbrev errIf (A : Nat → Addr) (t : Bool) : Value := bif t then .nilIface else errv (A 4)
theorem insSize (op a b c imm : Int) : (Tryz.prog.info? 67).map (·.size) = some (insA op a b c imm).size := by kernel_rfl
set_option maxRecDepth 100000 in
set_option maxHeartbeats 4000000 in
theorem isa_check (A : Nat → Addr) (op : Int) (f : Nat) (hf : formAt op = f) (h1 : 1 ≤ f) (a b c : Nat) (ha : a < 16) (hb : b < 16) (hc : c < 16) (imm : Int) (hlo : bLo (usI f) (usS f) ≤ imm) (hhi : imm ≤ bHi (usI f) (usS f)) (w : World) (ht : BlankT w) (hE : Errs w [4, 7] A) :
    Calls Tryz.prog 88 #[.agg (insA op a b c imm)] w fun e w' => e = .returned (errIf A (fitsW f a b c)) ∧ Below w.heap.size w w' := by
  have hf7 : f ≤ 7 := hf ▸ form_le op
  obtain ⟨w1, e1⟩ : ∃ w1, w1 = w.alloc (.cells (insA op a b c imm) 67) := ⟨_, rfl⟩
  obtain ⟨B, hB⟩ : ∃ B, B = w.heap.size := ⟨_, rfl⟩
  have b1 : Below B w w1 := by rw [e1, hB]; exact below_alloc _ _
  have V1 : Kp (Blk w1 B (insA op a b c imm) 67) := ⟨by rw [e1, hB]; exact Blk.new _ _ _⟩
  have s1 : w1.heap.size = B + 1 := by rw [e1, hB]; simp
  have KF := Kp.mk (isa_Form op w1 (ht.later (hB ▸ b1)))
  rw [hf] at KF
  have KU := Kp.mk (fun v => isa_form f h1 hf7 v)
  have KB := Kp.mk (fun v => isa_bounds (usA f) (usB f) (usC f) (usI f) (usS f) v)
  have KA := Kp.mk (fun v => isa_fits a ha (usA f) v)
  have KAb := Kp.mk (fun v => isa_fits b hb (usB f) v)
  have KAc := Kp.mk (fun v => isa_fits c hc (usC f) v)
  have hcell : w1.cell? ⟨4, 0, none⟩ = some (errv (A 4)) := (hE.later (hB ▸ b1)).cell 4 (by decide)
  have HC4 := Kp.mk hcell
  have t0 : ((f : Int) == 0) = false := by rw [beq_eq_false_iff_ne]; omega
  unfold fitsW
  obtain ⟨ua, hua⟩ : ∃ x, x = usA f := ⟨_, rfl⟩
  obtain ⟨ub, hub⟩ : ∃ x, x = usB f := ⟨_, rfl⟩
  obtain ⟨uc, huc⟩ : ∃ x, x = usC f := ⟨_, rfl⟩
  obtain ⟨ui, hui⟩ : ∃ x, x = usI f := ⟨_, rfl⟩
  obtain ⟨us, hus⟩ : ∃ x, x = usS f := ⟨_, rfl⟩
  rw [← hua, ← hub, ← huc, ← hui, ← hus] at KU KB
  rw [← hua] at KA ⊢
  rw [← hub] at KAb ⊢
  rw [← huc] at KAc ⊢
  rw [← hui, ← hus] at hlo hhi
  obtain ⟨lo, hlo'⟩ : ∃ x, x = bLo ui us := ⟨_, rfl⟩
  obtain ⟨hi, hhi'⟩ : ∃ x, x = bHi ui us := ⟨_, rfl⟩
  rw [← hlo', ← hhi'] at KB
  rw [← hlo'] at hlo
  rw [← hhi'] at hhi
  have t1 : decide (imm < lo) = false := decide_eq_false (by omega)
  have t2 : decide (imm > hi) = false := decide_eq_false (by omega)
  obtain ⟨fa, hfa⟩ : ∃ x, x = (decide (a = 0) || ua) := ⟨_, rfl⟩
  obtain ⟨fb, hfb⟩ : ∃ x, x = (decide (b = 0) || ub) := ⟨_, rfl⟩
  obtain ⟨fc, hfc⟩ : ∃ x, x = (decide (c = 0) || uc) := ⟨_, rfl⟩
  rw [← hfa] at KA ⊢
  rw [← hfb] at KAb ⊢
  rw [← hfc] at KAc ⊢
  obtain ⟨r, hr⟩ : ∃ r, r = errIf A (fa && fb && fc) := ⟨_, rfl⟩
  rw [← hr]
  have E1 := Kp.mk e1
  have S1 := Kp.mk s1
  have B1 := Kp.mk b1
  have HBq := Kp.mk hB
  obtain ⟨x4, hx4⟩ : ∃ x, x = errv (A 4) := ⟨_, rfl⟩
  obtain ⟨ai, hai⟩ : ∃ x : Int, x = (a : Int) := ⟨_, rfl⟩
  obtain ⟨bi, hbi⟩ : ∃ x : Int, x = (b : Int) := ⟨_, rfl⟩
  obtain ⟨ci, hci⟩ : ∃ x : Int, x = (c : Int) := ⟨_, rfl⟩
  rw [← hai] at KA V1 E1 ⊢
  rw [← hbi] at KAb V1 E1 ⊢
  rw [← hci] at KAc V1 E1 ⊢
  rw [← hx4] at HC4
  have HR := Kp.mk hr
  have HX4 := Kp.mk hx4
  clear hr hx4
  clear ht hE hcell e1 s1 b1 hB hf h1 hf7 hlo hhi hlo' hhi' ha hb hc hua hub huc hui hus hfa hfb hfc hai hbi hci
  go_enter Tryz.func88, Tryz.ntmps88
  go_wp2_with fail
  rw [← HBq.out, ← E1.out]
  have c0 := V1.out.cell 0 _ rfl
  clear c0
  refine KF.out.mono ?_
  rintro e w2 ⟨rfl, hw2⟩
  have HW2 := Kp.mk hw2
  clear hw2 KF
  go_wp2_with fail
  refine (KU.out _).mono ?_
  rintro e w3 ⟨rfl, hw3⟩
  obtain ⟨w4, e4⟩ : ∃ w4, w4 = w3.alloc (.cells (useA ua ub uc ui us) 145) := ⟨_, rfl⟩
  obtain ⟨g, hg⟩ : ∃ g, g = w3.heap.size := ⟨_, rfl⟩
  have V4 : Kp (Blk w4 g (useA ua ub uc ui us) 145) := ⟨by rw [e4, hg]; exact Blk.new _ _ _⟩
  have b4 : Below w3.heap.size w3 w4 := by rw [e4]; exact below_alloc _ _
  have HW4 : Kp (Below w1.heap.size w1 w4) := ⟨HW2.out.trans ((hw3.mono HW2.out.size).trans (b4.mono (Nat.le_trans HW2.out.size hw3.size)))⟩
  have E4 := Kp.mk e4
  have HG := Kp.mk hg
  clear hw3 e4 hg b4 HW2 KU
  go_wp2_with fail
  rw [← HG.out, ← E4.out]
  refine (KB.out _).mono ?_
  rintro e w5 ⟨rfl, hw5⟩
  have V5 := Kp.mk (V4.out.later hw5)
  have b15 : Below w1.heap.size w1 w5 := HW4.out.trans (hw5.mono HW4.out.size)
  have VI := Kp.mk (V1.out.later b15)
  have HW5 : Kp (Below B w w5) := ⟨B1.out.trans (b15.mono (by have := S1.out; omega))⟩
  have x0 := VI.out.cell 0 _ rfl
  have x1 := VI.out.cell 1 _ rfl
  have x2 := VI.out.cell 2 _ rfl
  have x3 := VI.out.cell 3 _ rfl
  have x4' := VI.out.cell 4 _ rfl
  have y0 := V5.out.cell 0 _ rfl
  have y1 := V5.out.cell 1 _ rfl
  have y2 := V5.out.cell 2 _ rfl
  have z4 := (b15.cell (p := ⟨4, 0, none⟩) (World.block_lt_of_cell? w1 _ HC4.out)).trans HC4.out
  clear hw5 b15 HW4 V4 V1 VI V5 KB HC4
  cases fa
  · go_wp2_with (first
      | (with_reducible refine (KA.out _).mono ?_; rintro e w6 ⟨rfl, hw6⟩; obtain rfl := hw6.symm; clear hw6))
    go_ret
    exact ⟨by rw [HR.out, HX4.out]; rfl, by rw [← HBq.out]; exact HW5.out⟩
  cases fb
  · go_wp2_with (first
      | (with_reducible refine (KA.out _).mono ?_; rintro e w6 ⟨rfl, hw6⟩; obtain rfl := hw6.symm; clear hw6)
      | (with_reducible refine (KAb.out _).mono ?_; rintro e w6 ⟨rfl, hw6⟩; obtain rfl := hw6.symm; clear hw6))
    go_ret
    exact ⟨by rw [HR.out, HX4.out]; rfl, by rw [← HBq.out]; exact HW5.out⟩
  cases fc
  · go_wp2_with (first
      | (with_reducible refine (KA.out _).mono ?_; rintro e w6 ⟨rfl, hw6⟩; obtain rfl := hw6.symm; clear hw6)
      | (with_reducible refine (KAb.out _).mono ?_; rintro e w6 ⟨rfl, hw6⟩; obtain rfl := hw6.symm; clear hw6)
      | (with_reducible refine (KAc.out _).mono ?_; rintro e w6 ⟨rfl, hw6⟩; obtain rfl := hw6.symm; clear hw6))
    go_ret
    exact ⟨by rw [HR.out, HX4.out]; rfl, by rw [← HBq.out]; exact HW5.out⟩
  · go_wp2_with (first
      | (with_reducible refine (KA.out _).mono ?_; rintro e w6 ⟨rfl, hw6⟩; obtain rfl := hw6.symm; clear hw6)
      | (with_reducible refine (KAb.out _).mono ?_; rintro e w6 ⟨rfl, hw6⟩; obtain rfl := hw6.symm; clear hw6)
      | (with_reducible refine (KAc.out _).mono ?_; rintro e w6 ⟨rfl, hw6⟩; obtain rfl := hw6.symm; clear hw6))
    go_ret
    exact ⟨by rw [HR.out]; rfl, by rw [← HBq.out]; exact HW5.out⟩
end Go.Proofs.YtadikbmbadldpaaGreatDoor
