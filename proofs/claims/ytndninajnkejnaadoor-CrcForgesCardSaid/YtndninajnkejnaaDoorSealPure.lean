/- Sealed bytes have one sum, whatever the bytes: no program in sight. -/
import Derived.Test.YtndninajnkejnaaDoorCrcPure
import Derived.Test.YtndninajnkejnaaDoorBurstPure
import Derived.Test.YtndninajnkejnaaDoorSealWalk
namespace Go.Proofs.YtndninajnkejnaaDoor
namespace Crc
open Go

theorem steps_shl (n : Nat) (c : B) (hn : n ≤ 24) : steps n (c.setWidth 32 <<< n) = c.setWidth 32 := by
  rw [steps_high]
  · apply BitVec.eq_of_getLsbD_eq
    intro i hi
    simp only [BitVec.getLsbD_ushiftRight, BitVec.getLsbD_shiftLeft, BitVec.getLsbD_setWidth]
    by_cases h8 : i < 8
    · simp [hi]; intro _; omega
    · have : c.getLsbD i = false := BitVec.getLsbD_of_ge _ _ (by omega)
      simp [this]
  · intro i hi
    simp [BitVec.getLsbD_shiftLeft, hi]
theorem mv_steps (n : Nat) (y : R) (c : B) (hn : n ≤ 24) : mv (steps n y) c = steps (n + 8) (y ^^^ (c.setWidth 32 <<< n)) := by
  unfold mv
  rw [steps_add, steps_xor n, steps_shl n c hn]
def word (a b c d : B) : R := a.setWidth 32 ^^^ (b.setWidth 32 <<< 8) ^^^ (c.setWidth 32 <<< 16) ^^^ (d.setWidth 32 <<< 24)
theorem run_four (r : R) (a b c d : B) : run r [a, b, c, d] = steps 32 (r ^^^ word a b c d) := by
  show mv (mv (mv (mv r a) b) c) d = _
  have e : r = steps 0 r := rfl
  rw [e, mv_steps 0 _ _ (by omega), mv_steps (0 + 8) _ _ (by omega), mv_steps (0 + 8 + 8) _ _ (by omega), mv_steps (0 + 8 + 8 + 8) _ _ (by omega)]
  unfold word
  simp only [steps, BitVec.shiftLeft_zero, Nat.zero_add, Nat.reduceAdd, BitVec.xor_assoc]
theorem word_laid (s : R) : word (s.setWidth 8) ((s >>> 8).setWidth 8) ((s >>> 16).setWidth 8) ((s >>> 24).setWidth 8) = s := by
  apply BitVec.eq_of_getLsbD_eq
  intro i hi
  unfold word
  simp only [BitVec.getLsbD_xor, BitVec.getLsbD_setWidth, BitVec.getLsbD_shiftLeft, BitVec.getLsbD_ushiftRight, hi, decide_true, Bool.true_and]
  by_cases h1 : i < 8
  · simp [h1, show i < 16 by omega, show i < 24 by omega]
  · by_cases h2 : i < 16
    · have e : 8 + (i - 8) = i := by omega
      simp [h1, h2, show i < 24 by omega, e, show i - 8 < 8 by omega, hi, show i - 8 < 32 by omega]
    · by_cases h3 : i < 24
      · have e : 16 + (i - 16) = i := by omega
        simp [h1, h2, h3, e, show i - 16 < 8 by omega, show ¬ i - 8 < 8 by omega, hi, show i - 16 < 32 by omega]
      · have e : 24 + (i - 24) = i := by omega
        simp [h1, h2, h3, e, show i - 24 < 8 by omega, show ¬ i - 8 < 8 by omega, show ¬ i - 16 < 8 by omega, hi, show i - 24 < 32 by omega]
theorem run_laid (r s : R) : run r (laidB s) = steps 32 (r ^^^ s) := by
  show run r [_, _, _, _] = _
  rw [run_four, word_laid]
/-- The sum of sealed bytes. -/
theorem sum_sealed (l : List B) : sum (l ++ laidB (sum l)) = steps 32 ones ^^^ ones := by
  unfold sum
  rw [run_append, run_laid, xxc]
/-- Sealed bytes with a burst turned don't open. -/
theorem turned_shut (l : List B) (k : Nat) (m : R) (n : Nat) (hn : l.length = n) (hf : Fits (n + 4) k m 32) (hk : k ≤ 8 * (n + 4)) (hm : m ≠ 0#32) :
    laidB (sum ((turnTo (l ++ laidB (sum l)) k m 32).take (n + 4 - 4))) ≠ (turnTo (l ++ laidB (sum l)) k m 32).drop (n + 4 - 4) := by
  intro h
  have hlen : (l ++ laidB (sum l)).length = n + 4 := by rw [List.length_append, hn]; rfl
  refine sum_turn_ne (l ++ laidB (sum l)) k m (by rw [hlen]; exact hf) (by rw [hlen]; exact hk) hm ?_
  rw [sum_sealed]
  have e := List.take_append_drop (n + 4 - 4) (turnTo (l ++ laidB (sum l)) k m 32)
  rw [← e, ← h, sum_sealed]
end Crc
end Go.Proofs.YtndninajnkejnaaDoor
