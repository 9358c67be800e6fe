/- The sum of two pieces: no program in sight. -/
import Derived.Test.YtndninajnkejnaaDoorCrcPure
namespace Go.Proofs.YtndninajnkejnaaDoor
namespace Crc
open Go

theorem run_zeros (r : R) (n : Nat) : run r (List.replicate n 0#8) = steps (8 * n) r := by
  induction n generalizing r with
  | zero => rfl
  | succ n ih =>
    rw [List.replicate_succ, run_cons, ih]
    have e : mv r 0#8 = steps 8 r := by
      unfold mv
      rw [show (BitVec.setWidth 32 (0#8) : R) = 0#32 from rfl, BitVec.xor_zero]
    rw [e, ← steps_add]
    congr 1
    omega
theorem zip_zeros (l : List B) : List.zipWith (· ^^^ ·) (List.replicate l.length 0#8) l = l := by
  induction l with
  | nil => rfl
  | cons c l ih => rw [List.length_cons, List.replicate_succ, List.zipWith_cons_cons, ih, BitVec.zero_xor]
/-- The join of two sums. -/
theorem join_sum (a b : List B) : steps (8 * b.length) (sum a) ^^^ sum b = sum (a ++ b) := by
  have h := run_xor (List.replicate b.length 0#8) b (by simp) (sum a) ones
  rw [zip_zeros, run_zeros] at h
  have e : sum a ^^^ ones = run ones a := by unfold sum; rw [BitVec.xor_assoc, BitVec.xor_self, BitVec.xor_zero]
  rw [e] at h
  unfold sum at h ⊢
  rw [run_append, h, ← BitVec.xor_assoc]
theorem more_sum (a b : List B) : more (sum a) b = sum (a ++ b) := by
  unfold more sum
  rw [BitVec.xor_assoc, BitVec.xor_self, BitVec.xor_zero, run_append]
theorem more_zero (a : List B) : more 0#32 a = sum a := by
  unfold more sum; rw [BitVec.zero_xor]
theorem more_nil (s : R) : more s [] = s := by
  unfold more; rw [run_nil, BitVec.xor_assoc, BitVec.xor_self, BitVec.xor_zero]
end Crc
end Go.Proofs.YtndninajnkejnaaDoor
