
/- Package alu, walked: Do, divide, Test, Signed. -/
import Derived.Test.YtadikbmbadldpaaGreatDoorLaid
import Derived.Test.YtadikbmbadldpaaGreatDoorAluPure
import Derived.Test.YtadikbmbadldpaaGreatDoorDrew
import Derived.RegionTactic
import Derived.ChangeAlike
namespace Go.Proofs.YtadikbmbadldpaaGreatDoor
open Go Go.RowKit
set_option linter.unusedVariables false

theorem ret2_int {k : IntKind} {a b : Int} {v v' : Value} (h : a = b) (hv : v = v') : Ending.returned (.tuple #[.int k a, v]) = .returned (.tuple #[.int k b, v']) := by rw [h, hv]
theorem ret2_bool {a b : Bool} {v v' : Value} (h : a = b) (hv : v = v') : Ending.returned (.tuple #[.bool a, v]) = .returned (.tuple #[.bool b, v']) := by rw [h, hv]
/-- An error as a code tells it: 0 is none. -/
def errVal (A : Nat → Addr) : Nat → Value
  | 0 => .nilIface
  | c + 1 => errv (A (c + 1))

/-- 1 or 0. -/
def tr (t : Bool) : Int := if t then 1 else 0
theorem alu_truth (t : Bool) (w : World) :
    Calls Tryz.prog 74 #[.bool t] w fun e w' => e = .returned (.int .u32 (tr t)) ∧ w = w' := by
  cases t
  · go_enter Tryz.func74, Tryz.ntmps74
    go_wp2
    go_ret
    exact ⟨rfl, rfl⟩
  · go_enter Tryz.func74, Tryz.ntmps74
    go_wp2
    go_ret
    exact ⟨rfl, rfl⟩
theorem alu_signed (x : BitVec 32) (w : World) :
    Calls Tryz.prog 89 #[.int .u32 (x.toNat : Int)] w fun e w' => e = .returned (.int .i64 x.toInt) ∧ w = w' := by
  obtain ⟨z, hz⟩ : ∃ z, z = x.toInt := ⟨_, rfl⟩
  have hw := Alu.wrap_int x
  have h1 := Alu.toInt_lo x
  have h2 := Alu.toInt_hi x
  rw [← hz] at *
  have HZ := Kp.mk hz; clear hz
  go_enter Tryz.func89, Tryz.ntmps89
  go_wp2
  go_ret
  exact ⟨rfl, rfl⟩

set_option maxRecDepth 100000 in
theorem alu_divide_10_no (A : Nat → Addr) (b : BitVec 32) (w : World) (h : Errs w [20] A) :
    Calls Tryz.prog 75 #[.int .i64 10, .int .u32 (b.toNat : Int), .int .u32 (((0#32 : BitVec 32).toNat : Nat) : Int)] w fun e w' => e = .returned (.tuple #[.int .u32 (((0#32 : BitVec 32).toNat : Nat) : Int), errv (A 20)]) ∧ Drew w w' := by
  have HE := h.cell 20 (by simp)
  have HE' : w.cell? ⟨19, 0, none⟩ = some (errv (A 20)) := HE
  clear h HE
  have h0 : (((0#32 : BitVec 32).toNat : Int) == 0) = true := rfl
  go_enter Tryz.func75, Tryz.ntmps75
  go_wp2
  go_region
  all_goals (go_wp2; go_ret2; exact ⟨rfl, Drew.once _⟩)
set_option maxRecDepth 100000 in
theorem alu_divide_10_ok (b c : BitVec 32) (w : World) (hc : ¬ c = 0#32) :
    Calls Tryz.prog 75 #[.int .i64 10, .int .u32 (b.toNat : Int), .int .u32 (c.toNat : Int)] w fun e w' => e = .returned (.tuple #[.int .u32 ((Alu.do_ 10 b c).1.toNat : Int), .nilIface]) ∧ w = w' := by
  have hz : ((c.toNat : Int) == 0) = false := by rw [Alu.zero_int]; simp [hc]
  have h1 := Alu.pos_of_ne c hc
  have b0 := Alu.ge0 b
  have b1 := Alu.lt32 b
  have c1 := Alu.lt32 c
  have hfin : ((Alu.do_ 10 b c).1.toNat : Int) = ((b / c).toNat : Int) := by simp [Alu.do_, hc]
  have HF := Kp.mk hfin; have HU := Kp.mk (Alu.udiv_int b c)
  clear hc hfin
  go_enter Tryz.func75, Tryz.ntmps75
  go_wp2
  go_ret2
  exact ⟨by rw [HF.out]; exact ret2_int HU.out rfl, rfl⟩
set_option maxRecDepth 100000 in
theorem alu_divide_11_no (A : Nat → Addr) (b : BitVec 32) (w : World) (h : Errs w [20] A) :
    Calls Tryz.prog 75 #[.int .i64 11, .int .u32 (b.toNat : Int), .int .u32 (((0#32 : BitVec 32).toNat : Nat) : Int)] w fun e w' => e = .returned (.tuple #[.int .u32 (((0#32 : BitVec 32).toNat : Nat) : Int), errv (A 20)]) ∧ Drew w w' := by
  have HE := h.cell 20 (by simp)
  have HE' : w.cell? ⟨19, 0, none⟩ = some (errv (A 20)) := HE
  clear h HE
  have h0 : (((0#32 : BitVec 32).toNat : Int) == 0) = true := rfl
  go_enter Tryz.func75, Tryz.ntmps75
  go_wp2
  go_region
  all_goals (go_wp2; go_ret2; exact ⟨rfl, Drew.once _⟩)
set_option maxRecDepth 100000 in
theorem alu_divide_11_ok (b c : BitVec 32) (w : World) (hc : ¬ c = 0#32) :
    Calls Tryz.prog 75 #[.int .i64 11, .int .u32 (b.toNat : Int), .int .u32 (c.toNat : Int)] w fun e w' => e = .returned (.tuple #[.int .u32 ((Alu.do_ 11 b c).1.toNat : Int), .nilIface]) ∧ w = w' := by
  have hz : ((c.toNat : Int) == 0) = false := by rw [Alu.zero_int]; simp [hc]
  have h1 := Alu.pos_of_ne c hc
  have b0 := Alu.ge0 b
  have b1 := Alu.lt32 b
  have c1 := Alu.lt32 c
  obtain ⟨x, hx⟩ : ∃ x, x = b.toInt := ⟨_, rfl⟩
  obtain ⟨y, hy⟩ : ∃ y, y = c.toInt := ⟨_, rfl⟩
  have hfin : ((Alu.do_ 11 b c).1.toNat : Int) = ((BitVec.ofInt 32 (x.tdiv y)).toNat : Int) := by simp [Alu.do_, hc, hx, hy]
  have x1 : -2147483648 ≤ x := by rw [hx]; exact Alu.toInt_lo b
  have x2 : x < 2147483648 := by rw [hx]; exact Alu.toInt_hi b
  have y1 : -2147483648 ≤ y := by rw [hy]; exact Alu.toInt_lo c
  have y2 : y < 2147483648 := by rw [hy]; exact Alu.toInt_hi c
  have y0 : (y == 0) = false := by rw [hy]; simpa using Alu.toInt_ne c hc
  have yne : ¬ y = 0 := by simpa using y0
  have HF := Kp.mk hfin
  have C1 := fun w => alu_signed b w
  have C2 := fun w => alu_signed c w
  rw [← hx] at C1
  rw [← hy] at C2
  have K1 := Kp.mk C1
  have K2 := Kp.mk C2
  have HU := Kp.mk (Alu.toNat_ofInt (x.tdiv y))
  have HQ := Kp.mk (Alu.ttdiv_range x y x1 x2 yne)
  clear hc hfin hx hy C1 C2
  go_enter Tryz.func75, Tryz.ntmps75
  go_wp2_with fail
  refine (K1.out _).mono ?_
  rintro e w' ⟨rfl, rfl⟩
  go_wp2_with fail
  refine (K2.out _).mono ?_
  rintro e w' ⟨rfl, rfl⟩
  go_wp2
  go_ret2
  exact ⟨by rw [HF.out]; exact ret2_int (by rw [← HU.out]; exact Alu.wrap64_mod _ HQ.out) rfl, rfl⟩
set_option maxRecDepth 100000 in
theorem alu_divide_12_no (A : Nat → Addr) (b : BitVec 32) (w : World) (h : Errs w [20] A) :
    Calls Tryz.prog 75 #[.int .i64 12, .int .u32 (b.toNat : Int), .int .u32 (((0#32 : BitVec 32).toNat : Nat) : Int)] w fun e w' => e = .returned (.tuple #[.int .u32 (((0#32 : BitVec 32).toNat : Nat) : Int), errv (A 20)]) ∧ Drew w w' := by
  have HE := h.cell 20 (by simp)
  have HE' : w.cell? ⟨19, 0, none⟩ = some (errv (A 20)) := HE
  clear h HE
  have h0 : (((0#32 : BitVec 32).toNat : Int) == 0) = true := rfl
  go_enter Tryz.func75, Tryz.ntmps75
  go_wp2
  go_region
  all_goals (go_wp2; go_ret2; exact ⟨rfl, Drew.once _⟩)
set_option maxRecDepth 100000 in
theorem alu_divide_12_ok (b c : BitVec 32) (w : World) (hc : ¬ c = 0#32) :
    Calls Tryz.prog 75 #[.int .i64 12, .int .u32 (b.toNat : Int), .int .u32 (c.toNat : Int)] w fun e w' => e = .returned (.tuple #[.int .u32 ((Alu.do_ 12 b c).1.toNat : Int), .nilIface]) ∧ w = w' := by
  have hz : ((c.toNat : Int) == 0) = false := by rw [Alu.zero_int]; simp [hc]
  have h1 := Alu.pos_of_ne c hc
  have b0 := Alu.ge0 b
  have b1 := Alu.lt32 b
  have c1 := Alu.lt32 c
  have hfin : ((Alu.do_ 12 b c).1.toNat : Int) = ((b % c).toNat : Int) := by simp [Alu.do_, hc]
  have HF := Kp.mk hfin; have HU := Kp.mk (Alu.umod_int b c)
  clear hc hfin
  go_enter Tryz.func75, Tryz.ntmps75
  go_wp2
  go_ret2
  exact ⟨by rw [HF.out]; exact ret2_int HU.out rfl, rfl⟩
set_option maxRecDepth 100000 in
theorem alu_divide_13_no (A : Nat → Addr) (b : BitVec 32) (w : World) (h : Errs w [20] A) :
    Calls Tryz.prog 75 #[.int .i64 13, .int .u32 (b.toNat : Int), .int .u32 (((0#32 : BitVec 32).toNat : Nat) : Int)] w fun e w' => e = .returned (.tuple #[.int .u32 (((0#32 : BitVec 32).toNat : Nat) : Int), errv (A 20)]) ∧ Drew w w' := by
  have HE := h.cell 20 (by simp)
  have HE' : w.cell? ⟨19, 0, none⟩ = some (errv (A 20)) := HE
  clear h HE
  have h0 : (((0#32 : BitVec 32).toNat : Int) == 0) = true := rfl
  go_enter Tryz.func75, Tryz.ntmps75
  go_wp2
  go_region
  all_goals (go_wp2; go_ret2; exact ⟨rfl, Drew.once _⟩)
set_option maxRecDepth 100000 in
theorem alu_divide_13_ok (b c : BitVec 32) (w : World) (hc : ¬ c = 0#32) :
    Calls Tryz.prog 75 #[.int .i64 13, .int .u32 (b.toNat : Int), .int .u32 (c.toNat : Int)] w fun e w' => e = .returned (.tuple #[.int .u32 ((Alu.do_ 13 b c).1.toNat : Int), .nilIface]) ∧ w = w' := by
  have hz : ((c.toNat : Int) == 0) = false := by rw [Alu.zero_int]; simp [hc]
  have h1 := Alu.pos_of_ne c hc
  have b0 := Alu.ge0 b
  have b1 := Alu.lt32 b
  have c1 := Alu.lt32 c
  obtain ⟨x, hx⟩ : ∃ x, x = b.toInt := ⟨_, rfl⟩
  obtain ⟨y, hy⟩ : ∃ y, y = c.toInt := ⟨_, rfl⟩
  have hfin : ((Alu.do_ 13 b c).1.toNat : Int) = ((BitVec.ofInt 32 (x.tmod y)).toNat : Int) := by simp [Alu.do_, hc, hx, hy]
  have x1 : -2147483648 ≤ x := by rw [hx]; exact Alu.toInt_lo b
  have x2 : x < 2147483648 := by rw [hx]; exact Alu.toInt_hi b
  have y1 : -2147483648 ≤ y := by rw [hy]; exact Alu.toInt_lo c
  have y2 : y < 2147483648 := by rw [hy]; exact Alu.toInt_hi c
  have y0 : (y == 0) = false := by rw [hy]; simpa using Alu.toInt_ne c hc
  have yne : ¬ y = 0 := by simpa using y0
  have HF := Kp.mk hfin
  have C1 := fun w => alu_signed b w
  have C2 := fun w => alu_signed c w
  rw [← hx] at C1
  rw [← hy] at C2
  have K1 := Kp.mk C1
  have K2 := Kp.mk C2
  have HU := Kp.mk (Alu.toNat_ofInt (x.tmod y))
  have HQ := Kp.mk (Alu.ttmod_range x y x1 x2 yne)
  clear hc hfin hx hy C1 C2
  go_enter Tryz.func75, Tryz.ntmps75
  go_wp2_with fail
  refine (K1.out _).mono ?_
  rintro e w' ⟨rfl, rfl⟩
  go_wp2_with fail
  refine (K2.out _).mono ?_
  rintro e w' ⟨rfl, rfl⟩
  go_wp2
  go_ret2
  exact ⟨by rw [HF.out]; exact ret2_int (HU.out) rfl, rfl⟩
set_option maxRecDepth 100000 in
theorem alu_do_1 (b c : BitVec 32) (w : World) :
    Calls Tryz.prog 51 #[.int .i64 1, .int .u32 (b.toNat : Int), .int .u32 (c.toNat : Int)] w fun e w' => e = .returned (.tuple #[.int .u32 ((Alu.do_ 1 b c).1.toNat : Int), .nilIface]) ∧ w = w' := by
  have b0 := Alu.ge0 b
  have b1 := Alu.lt32 b
  have c0 := Alu.ge0 c
  have c1 := Alu.lt32 c
  have HU := Kp.mk (Alu.add_int b c)
  go_enter Tryz.func51, Tryz.ntmps51
  go_wp2
  go_ret2
  exact ⟨ret2_int HU.out rfl, rfl⟩
set_option maxRecDepth 100000 in
theorem alu_do_2 (b c : BitVec 32) (w : World) :
    Calls Tryz.prog 51 #[.int .i64 2, .int .u32 (b.toNat : Int), .int .u32 (c.toNat : Int)] w fun e w' => e = .returned (.tuple #[.int .u32 ((Alu.do_ 2 b c).1.toNat : Int), .nilIface]) ∧ w = w' := by
  have b0 := Alu.ge0 b
  have b1 := Alu.lt32 b
  have c0 := Alu.ge0 c
  have c1 := Alu.lt32 c
  have HU := Kp.mk (Alu.sub_int b c)
  go_enter Tryz.func51, Tryz.ntmps51
  go_wp2
  go_ret2
  exact ⟨ret2_int HU.out rfl, rfl⟩
set_option maxRecDepth 100000 in
theorem alu_do_3 (b c : BitVec 32) (w : World) :
    Calls Tryz.prog 51 #[.int .i64 3, .int .u32 (b.toNat : Int), .int .u32 (c.toNat : Int)] w fun e w' => e = .returned (.tuple #[.int .u32 ((Alu.do_ 3 b c).1.toNat : Int), .nilIface]) ∧ w = w' := by
  have b0 := Alu.ge0 b
  have b1 := Alu.lt32 b
  have c0 := Alu.ge0 c
  have c1 := Alu.lt32 c
  have HU := Kp.mk (Alu.and_int b c)
  go_enter Tryz.func51, Tryz.ntmps51
  go_wp2
  go_ret2
  exact ⟨ret2_int HU.out rfl, rfl⟩
set_option maxRecDepth 100000 in
theorem alu_do_4 (b c : BitVec 32) (w : World) :
    Calls Tryz.prog 51 #[.int .i64 4, .int .u32 (b.toNat : Int), .int .u32 (c.toNat : Int)] w fun e w' => e = .returned (.tuple #[.int .u32 ((Alu.do_ 4 b c).1.toNat : Int), .nilIface]) ∧ w = w' := by
  have b0 := Alu.ge0 b
  have b1 := Alu.lt32 b
  have c0 := Alu.ge0 c
  have c1 := Alu.lt32 c
  have HU := Kp.mk (Alu.or_int b c)
  go_enter Tryz.func51, Tryz.ntmps51
  go_wp2
  go_ret2
  exact ⟨ret2_int HU.out rfl, rfl⟩
set_option maxRecDepth 100000 in
theorem alu_do_5 (b c : BitVec 32) (w : World) :
    Calls Tryz.prog 51 #[.int .i64 5, .int .u32 (b.toNat : Int), .int .u32 (c.toNat : Int)] w fun e w' => e = .returned (.tuple #[.int .u32 ((Alu.do_ 5 b c).1.toNat : Int), .nilIface]) ∧ w = w' := by
  have b0 := Alu.ge0 b
  have b1 := Alu.lt32 b
  have c0 := Alu.ge0 c
  have c1 := Alu.lt32 c
  have HU := Kp.mk (Alu.xor_int b c)
  go_enter Tryz.func51, Tryz.ntmps51
  go_wp2
  go_ret2
  exact ⟨ret2_int HU.out rfl, rfl⟩
set_option maxRecDepth 100000 in
theorem alu_do_6 (b c : BitVec 32) (w : World) :
    Calls Tryz.prog 51 #[.int .i64 6, .int .u32 (b.toNat : Int), .int .u32 (c.toNat : Int)] w fun e w' => e = .returned (.tuple #[.int .u32 ((Alu.do_ 6 b c).1.toNat : Int), .nilIface]) ∧ w = w' := by
  have b0 := Alu.ge0 b
  have b1 := Alu.lt32 b
  have c0 := Alu.ge0 c
  have c1 := Alu.lt32 c
  have HU := Kp.mk (Alu.shl_int b (c.toNat % 32))
  go_enter Tryz.func51, Tryz.ntmps51
  go_wp2
  go_ret2
  exact ⟨ret2_int HU.out rfl, rfl⟩
set_option maxRecDepth 100000 in
theorem alu_do_7 (b c : BitVec 32) (w : World) :
    Calls Tryz.prog 51 #[.int .i64 7, .int .u32 (b.toNat : Int), .int .u32 (c.toNat : Int)] w fun e w' => e = .returned (.tuple #[.int .u32 ((Alu.do_ 7 b c).1.toNat : Int), .nilIface]) ∧ w = w' := by
  have b0 := Alu.ge0 b
  have b1 := Alu.lt32 b
  have c0 := Alu.ge0 c
  have c1 := Alu.lt32 c
  have HU := Kp.mk (Alu.shr_int b (c.toNat % 32))
  go_enter Tryz.func51, Tryz.ntmps51
  go_wp2
  go_ret2
  exact ⟨ret2_int HU.out rfl, rfl⟩
set_option maxRecDepth 100000 in
theorem alu_do_8 (b c : BitVec 32) (w : World) :
    Calls Tryz.prog 51 #[.int .i64 8, .int .u32 (b.toNat : Int), .int .u32 (c.toNat : Int)] w fun e w' => e = .returned (.tuple #[.int .u32 ((Alu.do_ 8 b c).1.toNat : Int), .nilIface]) ∧ w = w' := by
  have b0 := Alu.ge0 b
  have b1 := Alu.lt32 b
  have c0 := Alu.ge0 c
  have c1 := Alu.lt32 c
  have HU := Kp.mk (Alu.sar_int b (c.toNat % 32))
  go_enter Tryz.func51, Tryz.ntmps51
  go_wp2
  go_ret2
  exact ⟨ret2_int HU.out rfl, rfl⟩
set_option maxRecDepth 100000 in
theorem alu_do_9 (b c : BitVec 32) (w : World) :
    Calls Tryz.prog 51 #[.int .i64 9, .int .u32 (b.toNat : Int), .int .u32 (c.toNat : Int)] w fun e w' => e = .returned (.tuple #[.int .u32 ((Alu.do_ 9 b c).1.toNat : Int), .nilIface]) ∧ w = w' := by
  have b0 := Alu.ge0 b
  have b1 := Alu.lt32 b
  have c0 := Alu.ge0 c
  have c1 := Alu.lt32 c
  have HU := Kp.mk (Alu.mul_int b c)
  go_enter Tryz.func51, Tryz.ntmps51
  go_wp2
  go_ret2
  exact ⟨ret2_int HU.out rfl, rfl⟩
set_option maxRecDepth 100000 in
theorem alu_do_10 (b c : BitVec 32) (w : World) (hc : ¬ c = 0#32) :
    Calls Tryz.prog 51 #[.int .i64 10, .int .u32 (b.toNat : Int), .int .u32 (c.toNat : Int)] w fun e w' => e = .returned (.tuple #[.int .u32 ((Alu.do_ 10 b c).1.toNat : Int), .nilIface]) ∧ w = w' := by
  have K := Kp.mk (alu_divide_10_ok b c w hc)
  clear hc
  obtain ⟨x, hx⟩ : ∃ x, x = Alu.do_ 10 b c := ⟨_, rfl⟩
  rw [← hx] at K ⊢
  have HX := Kp.mk hx; clear hx
  go_enter Tryz.func51, Tryz.ntmps51
  go_wp2_with (go_at_call 75; refine K.out.mono ?_; rintro e w' ⟨rfl, rfl⟩)
  go_ret2
  exact ⟨rfl, rfl⟩
set_option maxRecDepth 100000 in
theorem alu_do_10_no (A : Nat → Addr) (b : BitVec 32) (w : World) (h : Errs w [20] A) :
    Calls Tryz.prog 51 #[.int .i64 10, .int .u32 (b.toNat : Int), .int .u32 (((0#32 : BitVec 32).toNat : Nat) : Int)] w fun e w' => e = .returned (.tuple #[.int .u32 (((0#32 : BitVec 32).toNat : Nat) : Int), errv (A 20)]) ∧ Drew w w' := by
  have K := Kp.mk (alu_divide_10_no A b w h)
  clear h
  go_enter Tryz.func51, Tryz.ntmps51
  go_wp2_with (go_at_call 75; refine K.out.mono ?_; rintro e w' ⟨rfl, n, rfl⟩)
  go_ret2
  exact ⟨rfl, n, rfl⟩
set_option maxRecDepth 100000 in
theorem alu_do_11 (b c : BitVec 32) (w : World) (hc : ¬ c = 0#32) :
    Calls Tryz.prog 51 #[.int .i64 11, .int .u32 (b.toNat : Int), .int .u32 (c.toNat : Int)] w fun e w' => e = .returned (.tuple #[.int .u32 ((Alu.do_ 11 b c).1.toNat : Int), .nilIface]) ∧ w = w' := by
  have K := Kp.mk (alu_divide_11_ok b c w hc)
  clear hc
  obtain ⟨x, hx⟩ : ∃ x, x = Alu.do_ 11 b c := ⟨_, rfl⟩
  rw [← hx] at K ⊢
  have HX := Kp.mk hx; clear hx
  go_enter Tryz.func51, Tryz.ntmps51
  go_wp2_with (go_at_call 75; refine K.out.mono ?_; rintro e w' ⟨rfl, rfl⟩)
  go_ret2
  exact ⟨rfl, rfl⟩
set_option maxRecDepth 100000 in
theorem alu_do_11_no (A : Nat → Addr) (b : BitVec 32) (w : World) (h : Errs w [20] A) :
    Calls Tryz.prog 51 #[.int .i64 11, .int .u32 (b.toNat : Int), .int .u32 (((0#32 : BitVec 32).toNat : Nat) : Int)] w fun e w' => e = .returned (.tuple #[.int .u32 (((0#32 : BitVec 32).toNat : Nat) : Int), errv (A 20)]) ∧ Drew w w' := by
  have K := Kp.mk (alu_divide_11_no A b w h)
  clear h
  go_enter Tryz.func51, Tryz.ntmps51
  go_wp2_with (go_at_call 75; refine K.out.mono ?_; rintro e w' ⟨rfl, n, rfl⟩)
  go_ret2
  exact ⟨rfl, n, rfl⟩
set_option maxRecDepth 100000 in
theorem alu_do_12 (b c : BitVec 32) (w : World) (hc : ¬ c = 0#32) :
    Calls Tryz.prog 51 #[.int .i64 12, .int .u32 (b.toNat : Int), .int .u32 (c.toNat : Int)] w fun e w' => e = .returned (.tuple #[.int .u32 ((Alu.do_ 12 b c).1.toNat : Int), .nilIface]) ∧ w = w' := by
  have K := Kp.mk (alu_divide_12_ok b c w hc)
  clear hc
  obtain ⟨x, hx⟩ : ∃ x, x = Alu.do_ 12 b c := ⟨_, rfl⟩
  rw [← hx] at K ⊢
  have HX := Kp.mk hx; clear hx
  go_enter Tryz.func51, Tryz.ntmps51
  go_wp2_with (go_at_call 75; refine K.out.mono ?_; rintro e w' ⟨rfl, rfl⟩)
  go_ret2
  exact ⟨rfl, rfl⟩
set_option maxRecDepth 100000 in
theorem alu_do_12_no (A : Nat → Addr) (b : BitVec 32) (w : World) (h : Errs w [20] A) :
    Calls Tryz.prog 51 #[.int .i64 12, .int .u32 (b.toNat : Int), .int .u32 (((0#32 : BitVec 32).toNat : Nat) : Int)] w fun e w' => e = .returned (.tuple #[.int .u32 (((0#32 : BitVec 32).toNat : Nat) : Int), errv (A 20)]) ∧ Drew w w' := by
  have K := Kp.mk (alu_divide_12_no A b w h)
  clear h
  go_enter Tryz.func51, Tryz.ntmps51
  go_wp2_with (go_at_call 75; refine K.out.mono ?_; rintro e w' ⟨rfl, n, rfl⟩)
  go_ret2
  exact ⟨rfl, n, rfl⟩
set_option maxRecDepth 100000 in
theorem alu_do_13 (b c : BitVec 32) (w : World) (hc : ¬ c = 0#32) :
    Calls Tryz.prog 51 #[.int .i64 13, .int .u32 (b.toNat : Int), .int .u32 (c.toNat : Int)] w fun e w' => e = .returned (.tuple #[.int .u32 ((Alu.do_ 13 b c).1.toNat : Int), .nilIface]) ∧ w = w' := by
  have K := Kp.mk (alu_divide_13_ok b c w hc)
  clear hc
  obtain ⟨x, hx⟩ : ∃ x, x = Alu.do_ 13 b c := ⟨_, rfl⟩
  rw [← hx] at K ⊢
  have HX := Kp.mk hx; clear hx
  go_enter Tryz.func51, Tryz.ntmps51
  go_wp2_with (go_at_call 75; refine K.out.mono ?_; rintro e w' ⟨rfl, rfl⟩)
  go_ret2
  exact ⟨rfl, rfl⟩
set_option maxRecDepth 100000 in
theorem alu_do_13_no (A : Nat → Addr) (b : BitVec 32) (w : World) (h : Errs w [20] A) :
    Calls Tryz.prog 51 #[.int .i64 13, .int .u32 (b.toNat : Int), .int .u32 (((0#32 : BitVec 32).toNat : Nat) : Int)] w fun e w' => e = .returned (.tuple #[.int .u32 (((0#32 : BitVec 32).toNat : Nat) : Int), errv (A 20)]) ∧ Drew w w' := by
  have K := Kp.mk (alu_divide_13_no A b w h)
  clear h
  go_enter Tryz.func51, Tryz.ntmps51
  go_wp2_with (go_at_call 75; refine K.out.mono ?_; rintro e w' ⟨rfl, n, rfl⟩)
  go_ret2
  exact ⟨rfl, n, rfl⟩
set_option maxRecDepth 100000 in
theorem alu_do_14 (b c : BitVec 32) (w : World) :
    Calls Tryz.prog 51 #[.int .i64 14, .int .u32 (b.toNat : Int), .int .u32 (c.toNat : Int)] w fun e w' => e = .returned (.tuple #[.int .u32 ((Alu.do_ 14 b c).1.toNat : Int), .nilIface]) ∧ w = w' := by
  have b0 := Alu.ge0 b
  have b1 := Alu.lt32 b
  have c0 := Alu.ge0 c
  have c1 := Alu.lt32 c
  have hfin : ((Alu.do_ 14 b c).1.toNat : Int) = tr (decide (b.toNat < c.toNat)) := by
    simp only [Alu.do_]
    by_cases h : b.toNat < c.toNat
    · simp [h, tr]
    · simp [h, tr]
  have HF := Kp.mk hfin
  clear hfin
  go_enter Tryz.func51, Tryz.ntmps51
  go_wp2_with (go_at_call 74; refine (alu_truth _ _).mono ?_; rintro e w' ⟨rfl, rfl⟩)
  go_ret2
  exact ⟨by rw [HF.out]; rfl, rfl⟩
set_option maxRecDepth 100000 in
theorem alu_do_15 (b c : BitVec 32) (w : World) :
    Calls Tryz.prog 51 #[.int .i64 15, .int .u32 (b.toNat : Int), .int .u32 (c.toNat : Int)] w fun e w' => e = .returned (.tuple #[.int .u32 ((Alu.do_ 15 b c).1.toNat : Int), .nilIface]) ∧ w = w' := by
  have b0 := Alu.ge0 b
  have b1 := Alu.lt32 b
  have c0 := Alu.ge0 c
  have c1 := Alu.lt32 c
  have hw1 := Alu.wrap_int b
  have hw2 := Alu.wrap_int c
  obtain ⟨x, hx⟩ : ∃ x, x = b.toInt := ⟨_, rfl⟩
  obtain ⟨y, hy⟩ : ∃ y, y = c.toInt := ⟨_, rfl⟩
  rw [← hx] at hw1
  rw [← hy] at hw2
  have hfin : ((Alu.do_ 15 b c).1.toNat : Int) = tr (decide (x < y)) := by
    simp only [Alu.do_]
    rw [hx, hy]; by_cases h : b.toInt < c.toInt
    · simp [h, tr]
    · simp [h, tr]
  have HF := Kp.mk hfin
  clear hfin hx hy
  go_enter Tryz.func51, Tryz.ntmps51
  go_wp2_with (go_at_call 74; refine (alu_truth _ _).mono ?_; rintro e w' ⟨rfl, rfl⟩)
  go_ret2
  exact ⟨by rw [HF.out]; rfl, rfl⟩
set_option maxRecDepth 100000 in
theorem alu_do_no (A : Nat → Addr) (op : Int) (b c : BitVec 32) (w : World) (h : Errs w [7, 20] A) (hop : ¬ (1 ≤ op ∧ op ≤ 15)) :
    Calls Tryz.prog 51 #[.int .i64 op, .int .u32 (b.toNat : Int), .int .u32 (c.toNat : Int)] w fun e w' => e = .returned (.tuple #[.int .u32 ((Alu.do_ op b c).1.toNat : Int), errVal A (Alu.do_ op b c).2]) ∧ Drew w w' := by
  have hfin : Alu.do_ op b c = (0#32, 7) := by
    unfold Alu.do_
    rw [if_neg (by omega), if_neg (by omega), if_neg (by omega), if_neg (by omega), if_neg (by omega), if_neg (by omega), if_neg (by omega), if_neg (by omega), if_neg (by omega), if_neg (by omega), if_neg (by omega), if_neg (by omega), if_neg (by omega), if_neg (by omega), if_neg (by omega)]
  rw [hfin]
  have HE' : w.cell? ⟨7, 0, none⟩ = some (errv (A 7)) := h.cell 7 (by simp)
  have n1 : (op == 1) = false := by rw [beq_eq_false_iff_ne]; omega
  have n2 : (op == 2) = false := by rw [beq_eq_false_iff_ne]; omega
  have n3 : (op == 3) = false := by rw [beq_eq_false_iff_ne]; omega
  have n4 : (op == 4) = false := by rw [beq_eq_false_iff_ne]; omega
  have n5 : (op == 5) = false := by rw [beq_eq_false_iff_ne]; omega
  have n6 : (op == 6) = false := by rw [beq_eq_false_iff_ne]; omega
  have n7 : (op == 7) = false := by rw [beq_eq_false_iff_ne]; omega
  have n8 : (op == 8) = false := by rw [beq_eq_false_iff_ne]; omega
  have n9 : (op == 9) = false := by rw [beq_eq_false_iff_ne]; omega
  have n10 : (op == 10) = false := by rw [beq_eq_false_iff_ne]; omega
  have n11 : (op == 11) = false := by rw [beq_eq_false_iff_ne]; omega
  have n12 : (op == 12) = false := by rw [beq_eq_false_iff_ne]; omega
  have n13 : (op == 13) = false := by rw [beq_eq_false_iff_ne]; omega
  have n14 : (op == 14) = false := by rw [beq_eq_false_iff_ne]; omega
  have n15 : (op == 15) = false := by rw [beq_eq_false_iff_ne]; omega
  clear h hfin hop
  go_enter Tryz.func51, Tryz.ntmps51
  go_wp2
  go_region
  all_goals (go_wp2; go_ret2; exact ⟨rfl, Drew.once _⟩)
theorem alu_op_cases {op : Int} (hop : 1 ≤ op ∧ op ≤ 15) : op = 1 ∨ op = 2 ∨ op = 3 ∨ op = 4 ∨ op = 5 ∨ op = 6 ∨ op = 7 ∨ op = 8 ∨ op = 9 ∨ op = 10 ∨ op = 11 ∨ op = 12 ∨ op = 13 ∨ op = 14 ∨ op = 15 := by omega
/-- What isn't refused. -/
theorem alu_do_ok (op : Int) (b c : BitVec 32) (w : World) (hop : 1 ≤ op ∧ op ≤ 15) (hc : 10 ≤ op → op ≤ 13 → ¬ c = 0#32) :
    Calls Tryz.prog 51 #[.int .i64 op, .int .u32 (b.toNat : Int), .int .u32 (c.toNat : Int)] w fun e w' => e = .returned (.tuple #[.int .u32 ((Alu.do_ op b c).1.toNat : Int), .nilIface]) ∧ w = w' := by
  rcases alu_op_cases hop with rfl | rfl | rfl | rfl | rfl | rfl | rfl | rfl | rfl | rfl | rfl | rfl | rfl | rfl | rfl
  · exact alu_do_1 b c w
  · exact alu_do_2 b c w
  · exact alu_do_3 b c w
  · exact alu_do_4 b c w
  · exact alu_do_5 b c w
  · exact alu_do_6 b c w
  · exact alu_do_7 b c w
  · exact alu_do_8 b c w
  · exact alu_do_9 b c w
  · exact alu_do_10 b c w (hc (by omega) (by omega))
  · exact alu_do_11 b c w (hc (by omega) (by omega))
  · exact alu_do_12 b c w (hc (by omega) (by omega))
  · exact alu_do_13 b c w (hc (by omega) (by omega))
  · exact alu_do_14 b c w
  · exact alu_do_15 b c w
theorem alu_do (A : Nat → Addr) (op : Int) (b c : BitVec 32) (w : World) (h : Errs w [7, 20] A) :
    Calls Tryz.prog 51 #[.int .i64 op, .int .u32 (b.toNat : Int), .int .u32 (c.toNat : Int)] w fun e w' => e = .returned (.tuple #[.int .u32 ((Alu.do_ op b c).1.toNat : Int), errVal A (Alu.do_ op b c).2]) ∧ Drew w w' := by
  by_cases hop : 1 ≤ op ∧ op ≤ 15
  · by_cases hc : 10 ≤ op ∧ op ≤ 13 ∧ c = 0#32
    · obtain ⟨h1, h2, rfl⟩ := hc
      have : op = 10 ∨ op = 11 ∨ op = 12 ∨ op = 13 := by omega
      rcases this with rfl | rfl | rfl | rfl
      · exact alu_do_10_no A b w (h.sub (by simp))
      · exact alu_do_11_no A b w (h.sub (by simp))
      · exact alu_do_12_no A b w (h.sub (by simp))
      · exact alu_do_13_no A b w (h.sub (by simp))
    · have h0 : (Alu.do_ op b c).2 = 0 := by
        have hc' : 10 ≤ op → op ≤ 13 → ¬ c = 0#32 := fun h1 h2 h3 => hc ⟨h1, h2, h3⟩
        rcases alu_op_cases hop with rfl | rfl | rfl | rfl | rfl | rfl | rfl | rfl | rfl | rfl | rfl | rfl | rfl | rfl | rfl <;> first | rfl | (have := hc' (by omega) (by omega); simp [Alu.do_, this])
      rw [h0]
      exact (alu_do_ok op b c w hop (fun h1 h2 h3 => hc ⟨h1, h2, h3⟩)).mono fun e w' ⟨he, hw⟩ => ⟨he, by rw [hw]; exact Drew.refl _⟩
  · exact alu_do_no A op b c w h hop
end Go.Proofs.YtadikbmbadldpaaGreatDoor
