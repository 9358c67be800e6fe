/- The check sum as plain mathematics: registers of 32 bits, no program in sight. -/
import Derived.WalkKit
import Derived.Laws.BitsAllLaws
namespace Go.Proofs.YtndninajnkejnaaDoor
namespace Crc
open Go

abbrev R := BitVec 32
abbrev B := BitVec 8
def poly : R := 3988292384#32
def step (x : R) : R := if x.getLsbD 0 then (x >>> 1) ^^^ poly else x >>> 1
def steps : Nat → R → R
  | 0, x => x
  | n + 1, x => steps n (step x)
def mv (r : R) (c : B) : R := steps 8 (r ^^^ c.setWidth 32)
def run (r : R) (l : List B) : R := l.foldl mv r
def ones : R := 4294967295#32
def sum (l : List B) : R := run ones l ^^^ ones
def more (s : R) (l : List B) : R := run (s ^^^ ones) l ^^^ ones

theorem steps_succ' (n : Nat) (x : R) : steps (n + 1) x = step (steps n x) := by
  induction n generalizing x with
  | zero => rfl
  | succ n ih => rw [steps, ih]; rfl
theorem steps_add (m n : Nat) (x : R) : steps (m + n) x = steps n (steps m x) := by
  induction m generalizing x with
  | zero => simp [steps]
  | succ m ih => rw [Nat.succ_add, steps, ih, steps]
theorem xlc {n : Nat} (a b c : BitVec n) : a ^^^ (b ^^^ c) = b ^^^ (a ^^^ c) := by
  rw [← BitVec.xor_assoc, BitVec.xor_comm a b, BitVec.xor_assoc]
theorem xxc {n : Nat} (a b : BitVec n) : a ^^^ (a ^^^ b) = b := by
  rw [← BitVec.xor_assoc, BitVec.xor_self, BitVec.zero_xor]
theorem step_xor (a b : R) : step (a ^^^ b) = step a ^^^ step b := by
  unfold step
  rw [BitVec.getLsbD_xor, BitVec.ushiftRight_xor_distrib]
  cases a.getLsbD 0 <;> cases b.getLsbD 0 <;> simp [BitVec.xor_comm, xlc, xxc]
theorem steps_xor (n : Nat) (a b : R) : steps n (a ^^^ b) = steps n a ^^^ steps n b := by
  induction n generalizing a b with
  | zero => rfl
  | succ n ih => rw [steps, step_xor, ih]; rfl
theorem step_zero : step 0#32 = 0#32 := by decide
theorem steps_zero (n : Nat) : steps n 0#32 = 0#32 := by
  induction n with
  | zero => rfl
  | succ n ih => rw [steps, step_zero, ih]
/-- A number whose low bit is 0 is halved. -/
theorem step_even (x : R) (h : x.getLsbD 0 = false) : step x = x >>> 1 := by unfold step; rw [h]; rfl
theorem step_odd (x : R) (h : x.getLsbD 0 = true) : step x = (x >>> 1) ^^^ poly := by unfold step; rw [h]; rfl
/-- Bits that lie high enough are moved down. -/
theorem steps_high (n : Nat) (x : R) (h : ∀ i, i < n → x.getLsbD i = false) : steps n x = x >>> n := by
  induction n generalizing x with
  | zero => simp [steps]
  | succ n ih =>
    rw [steps, step_even x (h 0 (by omega)), ih]
    · rw [← BitVec.shiftRight_add, Nat.add_comm]
    · intro i hi
      rw [BitVec.getLsbD_ushiftRight]
      exact h _ (by omega)
/-- The table's way of taking a byte. -/
theorem mv_table (r : R) (c : B) : steps 8 (((r.setWidth 8) ^^^ c).setWidth 32) ^^^ r >>> 8 = mv r c := by
  have e : r ^^^ c.setWidth 32 = ((r.setWidth 8) ^^^ c).setWidth 32 ^^^ ((r >>> 8) <<< 8) := by
    apply BitVec.eq_of_getLsbD_eq
    intro i hi
    simp only [BitVec.getLsbD_xor, BitVec.getLsbD_setWidth, BitVec.getLsbD_shiftLeft, BitVec.getLsbD_ushiftRight, hi, decide_true, Bool.true_and]
    by_cases h8 : i < 8
    · simp [h8]
    · have : c.getLsbD i = false := BitVec.getLsbD_of_ge _ _ (by omega)
      simp [h8, this, Nat.add_sub_cancel' (Nat.le_of_not_lt h8)]
  unfold mv
  rw [e, steps_xor]
  congr 1
  rw [steps_high 8 ((r >>> 8) <<< 8)]
  · apply BitVec.eq_of_getLsbD_eq
    intro i hi
    simp only [BitVec.getLsbD_ushiftRight, BitVec.getLsbD_shiftLeft]
    by_cases h : 8 + i < 32
    · simp [h]
    · have e : r.getLsbD (8 + i) = false := BitVec.getLsbD_of_ge _ _ (by omega)
      rw [e]; simp [h]
  · intro i hi
    simp [BitVec.getLsbD_shiftLeft, hi]

theorem run_nil (r : R) : run r [] = r := rfl
theorem run_cons (r : R) (c : B) (l : List B) : run r (c :: l) = run (mv r c) l := rfl
theorem run_append (r : R) (l m : List B) : run r (l ++ m) = run (run r l) m := by simp [run, List.foldl_append]
theorem run_snoc (r : R) (l : List B) (c : B) : run r (l ++ [c]) = mv (run r l) c := by simp [run, List.foldl_append]
theorem take_snoc {α : Type} (l : List α) (d : α) (k : Nat) (h : k < l.length) : l.take (k + 1) = l.take k ++ [l.getD k d] := by
  rw [List.take_succ_eq_append_getElem h]; simp [List.getD_eq_getElem?_getD, h]
theorem run_take (r : R) (l : List B) (k : Nat) (h : k < l.length) : run r (l.take (k + 1)) = mv (run r (l.take k)) (l.getD k 0#8) := by
  rw [take_snoc l 0#8 k h, run_snoc]
theorem mv_xor (r s : R) (c d : B) : mv (r ^^^ s) (c ^^^ d) = mv r c ^^^ mv s d := by
  unfold mv
  rw [← steps_xor]
  congr 1
  rw [BitVec.setWidth_xor, BitVec.xor_assoc, BitVec.xor_assoc, xlc s]
theorem run_xor (l m : List B) (h : l.length = m.length) : ∀ r s : R, run (r ^^^ s) (List.zipWith (· ^^^ ·) l m) = run r l ^^^ run s m := by
  induction l generalizing m with
  | nil => intro r s; cases m with
    | nil => rfl
    | cons d m => simp at h
  | cons c l ih => intro r s; cases m with
    | nil => simp at h
    | cons d m => simp only [List.zipWith_cons_cons, run_cons]; rw [mv_xor]; exact ih m (by simpa using h) _ _

/-! ### Spelling: the machine's whole numbers -/
theorem xor32 (a b : R) : bits .xor .u32 (a.toNat : Int) (b.toNat : Int) = ((a ^^^ b).toNat : Int) := by
  rw [u32_xor_nat _ _ a.isLt b.isLt, BitVec.toNat_xor]
theorem and32 (a b : R) : bits .and .u32 (a.toNat : Int) (b.toNat : Int) = ((a &&& b).toNat : Int) := by
  rw [u32_and_nat _ _ a.isLt b.isLt, BitVec.toNat_and]
theorem or32 (a b : R) : bits .or .u32 (a.toNat : Int) (b.toNat : Int) = ((a ||| b).toNat : Int) := by
  rw [u32_or_nat _ _ a.isLt b.isLt, BitVec.toNat_or]
theorem xor8 (a b : B) : bits .xor .u8 (a.toNat : Int) (b.toNat : Int) = ((a ^^^ b).toNat : Int) := by
  rw [u8_xor_nat _ _ a.isLt b.isLt, BitVec.toNat_xor]
theorem shr32 (a : R) (n : Nat) : ((a >>> n).toNat : Int) = (a.toNat : Int) / 2 ^ n := by
  rw [BitVec.toNat_ushiftRight, Nat.shiftRight_eq_div_pow]; simp
theorem low1 (a : R) : (bits .and .u32 (a.toNat : Int) 1 == 1) = a.getLsbD 0 := by
  have h := and32 a 1#32
  have e : ((1#32).toNat : Int) = 1 := rfl
  rw [e] at h
  rw [h]
  have g : (a &&& 1#32).toNat = a.toNat % 2 := by
    rw [BitVec.toNat_and]; exact Nat.and_one_is_mod _
  rw [g]
  have k : a.getLsbD 0 = decide (a.toNat % 2 = 1) := by
    rw [BitVec.getLsbD, Nat.testBit_zero]
  rw [k]
  by_cases c : a.toNat % 2 = 1
  · simp [c]
  · have : a.toNat % 2 = 0 := by omega
    simp [this]
theorem step_odd_int (x : R) (h : (bits .and .u32 (x.toNat : Int) 1 == 1) = true) : bits .xor .u32 ((x.toNat : Int) / 2) 3988292384 = ((step x).toNat : Int) := by
  rw [low1] at h
  have e := shr32 x 1
  have p := xor32 (x >>> 1) poly
  rw [e] at p
  rw [show ((poly.toNat : Nat) : Int) = 3988292384 from rfl] at p
  rw [show (2 : Int) ^ 1 = 2 from rfl] at p
  rw [p, step_odd x h]
theorem step_even_int (x : R) (h : (bits .and .u32 (x.toNat : Int) 1 == 1) = false) : (x.toNat : Int) / 2 = ((step x).toNat : Int) := by
  rw [low1] at h
  have e := shr32 x 1
  rw [show (2 : Int) ^ 1 = 2 from rfl] at e
  rw [← e, step_even x h]
theorem idx8 (x : R) (c : B) : bits .xor .u8 ((x.toNat : Int) % 256) (c.toNat : Int) = (((x.setWidth 8 ^^^ c).toNat : Nat) : Int) := by
  rw [← xor8, BitVec.toNat_setWidth]
  rfl
theorem mv_int (x : R) (c : B) : bits .xor .u32 ((steps 8 (BitVec.ofNat 32 (x.setWidth 8 ^^^ c).toNat)).toNat : Int) ((x.toNat : Int) / 256) = ((mv x c).toNat : Int) := by
  have h := shr32 x 8
  rw [show (2 : Int) ^ 8 = 256 from rfl] at h
  rw [← h, xor32, ← mv_table x c]
  congr 4
  apply BitVec.eq_of_toNat_eq
  simp
end Crc
end Go.Proofs.YtndninajnkejnaaDoor
