/- Solving 32 equations, as plain mathematics: the pivots are always there. -/
import Derived.Test.YtndninajnkejnaaDoorBurstPure
import Derived.Test.YtndninajnkejnaaDoorBackPure
namespace Go.Proofs.YtndninajnkejnaaDoor
namespace Crc
open Go

/-- The sums of some of these. -/
inductive Span (S : R → Prop) : R → Prop
  | zero : Span S 0#32
  | add {a b : R} : S a → Span S b → Span S (a ^^^ b)
def LowZ (k : Nat) (v : R) : Prop := ∀ i, i < k → v.getLsbD i = false
/-- The columns from k on. -/
def From (f : Nat → R) (k : Nat) (v : R) : Prop := ∃ i, k ≤ i ∧ i < 32 ∧ v = f i
/-- How the elimination stands ahead of column k. -/
structure Elim (L : R → R) (goal : R) (k : Nat) (f g : Nat → R) (want ans : R) : Prop where
  img : ∀ i, i < 32 → f i = L (g i)
  low : ∀ i, k ≤ i → i < 32 → LowZ k (f i)
  span : ∀ v, LowZ k v → Span (From f k) v
  wlow : LowZ k want
  sum : L ans ^^^ want = goal
theorem LowZ.xor {k : Nat} {a b : R} (h : LowZ k a) (h2 : LowZ k b) : LowZ k (a ^^^ b) := fun i hi => by
  rw [BitVec.getLsbD_xor, h i hi, h2 i hi]; rfl
theorem span_bit {S : R → Prop} {k : Nat} (h : ∀ v, S v → v.getLsbD k = false) {v : R} (hv : Span S v) : v.getLsbD k = false := by
  induction hv with
  | zero => simp
  | add ha _ ih => rw [BitVec.getLsbD_xor, h _ ha, ih]; rfl
/-- There is a pivot. -/
theorem Elim.pivot {L : R → R} {goal : R} {k : Nat} {f g : Nat → R} {want ans : R} (h : Elim L goal k f g want ans) (hk : k < 32) : ∃ p, k ≤ p ∧ p < 32 ∧ (f p).getLsbD k = true := by
  apply Classical.byContradiction
  intro hn
  have hall : ∀ v, From f k v → v.getLsbD k = false := by
    rintro v ⟨i, hi, hi2, rfl⟩
    rcases Bool.eq_false_or_eq_true ((f i).getLsbD k) with e | e
    · exact absurd ⟨i, hi, hi2, e⟩ hn
    · exact e
  have hl : LowZ k (1#32 <<< k) := fun i hi => by simp [BitVec.getLsbD_shiftLeft, hi]
  have := span_bit hall (h.span _ hl)
  rw [BitVec.getLsbD_shiftLeft] at this
  simp [hk] at this
/-- Column k and column p have changed places. -/
def swp (f : Nat → R) (k p : Nat) : Nat → R := fun i => if i = k then f p else if i = p then f k else f i
/-- The pivot taken out of those behind it that have bit k. -/
def clr (f c : Nat → R) (k : Nat) : Nat → R := fun i => if k < i ∧ (f i).getLsbD k = true then c i ^^^ c k else c i
theorem Elim.next {L : R → R} (hL : ∀ a b, L (a ^^^ b) = L a ^^^ L b) {goal : R} {k p : Nat} {f g : Nat → R} {want ans : R} (h : Elim L goal k f g want ans) (hk : k < 32) (hp : k ≤ p) (hp2 : p < 32) (hb : (f p).getLsbD k = true) :
    Elim L goal (k + 1) (clr (swp f k p) (swp f k p) k) (clr (swp f k p) (swp g k p) k) (if want.getLsbD k = true then want ^^^ f p else want) (if want.getLsbD k = true then ans ^^^ g p else ans) := by
  have hsk : swp f k p k = f p := by simp [swp]
  have hgk : swp g k p k = g p := by simp [swp]
  have himg : ∀ i, i < 32 → swp f k p i = L (swp g k p i) := by
    intro i hi
    unfold swp
    by_cases e : i = k
    · rw [if_pos e, if_pos e]; exact h.img p hp2
    · rw [if_neg e, if_neg e]
      by_cases e2 : i = p
      · rw [if_pos e2, if_pos e2]; exact h.img k hk
      · rw [if_neg e2, if_neg e2]; exact h.img i hi
  have hlow : ∀ i, k ≤ i → i < 32 → LowZ k (swp f k p i) := by
    intro i hi hi2
    unfold swp
    by_cases e : i = k
    · rw [if_pos e]; exact h.low p hp hp2
    · rw [if_neg e]
      by_cases e2 : i = p
      · rw [if_pos e2]; exact h.low k (Nat.le_refl _) hk
      · rw [if_neg e2]; exact h.low i hi hi2
  have hclow : ∀ i, k + 1 ≤ i → i < 32 → LowZ (k + 1) (clr (swp f k p) (swp f k p) k i) := by
    intro i hi hi2 j hj
    have l1 := hlow i (by omega) hi2
    have l2 : LowZ k (f p) := h.low p hp hp2
    unfold clr
    by_cases e : (swp f k p i).getLsbD k = true
    · rw [if_pos ⟨by omega, e⟩, hsk, BitVec.getLsbD_xor]
      by_cases e3 : j = k
      · subst e3; rw [e, hb]; rfl
      · rw [l1 j (by omega), l2 j (by omega)]; rfl
    · rw [if_neg (by simp [e])]
      by_cases e3 : j = k
      · subst e3; simpa using e
      · exact l1 j (by omega)
  refine ⟨fun i hi => ?_, hclow, fun v hv => ?_, fun j hj => ?_, ?_⟩
  · unfold clr
    by_cases e : k < i ∧ (swp f k p i).getLsbD k = true
    · rw [if_pos e, if_pos e, himg i hi, himg k hk, hL]
    · rw [if_neg e, if_neg e]; exact himg i hi
  · -- the span
    have key : ∀ v, Span (From f k) v → ∃ (a : Bool) (u : R), Span (From (clr (swp f k p) (swp f k p) k) (k + 1)) u ∧ v = u ^^^ (if a = true then f p else 0#32) := by
      intro v hv
      induction hv with
      | zero => exact ⟨false, 0#32, Span.zero, by simp⟩
      | @add x y hx hy ih =>
        obtain ⟨a, u, hu, rfl⟩ := ih
        obtain ⟨i, hi, hi2, rfl⟩ := hx
        by_cases ep : i = p
        · subst ep
          refine ⟨!a, u, hu, ?_⟩
          cases a
          · simp [BitVec.xor_comm]
          · simp only [if_true, Bool.not_true, Bool.false_eq_true, if_false, BitVec.xor_zero]
            rw [BitVec.xor_comm u, xxc]
        · -- the place where column i stands now
          obtain ⟨q, hq1, hq2, hq3⟩ : ∃ q, k + 1 ≤ q ∧ q < 32 ∧ swp f k p q = f i := by
            by_cases ek : i = k
            · subst ek
              refine ⟨p, ?_, hp2, ?_⟩
              · have : i ≠ p := ep
                omega
              · unfold swp
                rw [if_neg (fun e => ep e.symm), if_pos rfl]
            · exact ⟨i, by omega, hi2, by unfold swp; rw [if_neg ek, if_neg ep]⟩
          by_cases e : (swp f k p q).getLsbD k = true
          · have hc : clr (swp f k p) (swp f k p) k q = f i ^^^ f p := by
              unfold clr; rw [if_pos ⟨by omega, e⟩, hq3, hsk]
            refine ⟨!a, (f i ^^^ f p) ^^^ u, Span.add ⟨q, hq1, hq2, hc.symm⟩ hu, ?_⟩
            cases a
            · simp only [Bool.not_false, if_true, Bool.false_eq_true, if_false, BitVec.xor_zero]
              rw [BitVec.xor_assoc, BitVec.xor_assoc, BitVec.xor_comm u, xxc]
            · simp only [Bool.not_true, if_true, Bool.false_eq_true, if_false, BitVec.xor_zero]
              rw [BitVec.xor_assoc, BitVec.xor_comm u]
          · have hc : clr (swp f k p) (swp f k p) k q = f i := by
              unfold clr; rw [if_neg (by simp [e]), hq3]
            exact ⟨a, f i ^^^ u, Span.add ⟨q, hq1, hq2, hc.symm⟩ hu, by rw [BitVec.xor_assoc]⟩
    obtain ⟨a, u, hu, rfl⟩ := key v (h.span v (fun i hi => hv i (by omega)))
    have hub : u.getLsbD k = false := span_bit (fun x hx => by
      obtain ⟨i, hi, hi2, rfl⟩ := hx
      exact hclow i hi hi2 k (by omega)) hu
    have hvk := hv k (by omega)
    rw [BitVec.getLsbD_xor, hub] at hvk
    cases a with
    | false => simpa using hu
    | true => simp [hb] at hvk
  · have hw := h.wlow
    by_cases e : want.getLsbD k = true
    · rw [if_pos e, BitVec.getLsbD_xor]
      by_cases e2 : j = k
      · subst e2; rw [e, hb]; rfl
      · rw [hw j (by omega), h.low p hp hp2 j (by omega)]; rfl
    · rw [if_neg e]
      by_cases e2 : j = k
      · subst e2; simpa using e
      · exact hw j (by omega)
  · by_cases e : want.getLsbD k = true
    · rw [if_pos e, if_pos e, hL, ← h.img p hp2, BitVec.xor_assoc, BitVec.xor_comm want, xxc]; exact h.sum
    · rw [if_neg e, if_neg e]; exact h.sum
theorem Elim.done {L : R → R} {goal : R} {f g : Nat → R} {want ans : R} (h : Elim L goal 32 f g want ans) : L ans = goal := by
  have : want = 0#32 := BitVec.eq_of_getLsbD_eq (fun i hi => by rw [h.wlow i hi]; simp)
  have h2 := h.sum
  rw [this, BitVec.xor_zero] at h2
  exact h2
/-- The start. -/
theorem lowBits_span (L : R → R) (hL : ∀ a b, L (a ^^^ b) = L a ^^^ L b) (h0 : L 0#32 = 0#32) (m : R) (k : Nat) (hk : k ≤ 32) : Span (From (fun i => L (1#32 <<< i)) 0) (L (lowBits m k)) := by
  induction k with
  | zero => rw [lowBits, h0]; exact Span.zero
  | succ k ih =>
    unfold lowBits
    rw [hL, BitVec.xor_comm]
    by_cases e : m.getLsbD k = true
    · rw [if_pos e]; exact Span.add ⟨k, by omega, by omega, rfl⟩ (ih (by omega))
    · rw [if_neg e, h0, BitVec.zero_xor]; exact ih (by omega)
theorem elim_start (L B : R → R) (hL : ∀ a b, L (a ^^^ b) = L a ^^^ L b) (h0 : L 0#32 = 0#32) (hB : ∀ v, L (B v) = v) (goal : R) : Elim L goal 0 (fun i => L (1#32 <<< i)) (fun i => 1#32 <<< i) goal 0#32 where
  img := fun _ _ => rfl
  low := fun _ _ _ i hi => by omega
  span := fun v _ => by
    have := lowBits_span L hL h0 (B v) 32 (by omega)
    rwa [lowBits_all, hB] at this
  wlow := fun i hi => by omega
  sum := by rw [h0, BitVec.zero_xor]
/-- It stands on the 32 columns alone. -/
theorem Elim.congr {L : R → R} {goal : R} {k : Nat} {f g f' g' : Nat → R} {want ans : R} (h : Elim L goal k f g want ans) (hf : ∀ i, i < 32 → f i = f' i) (hg : ∀ i, i < 32 → g i = g' i) : Elim L goal k f' g' want ans where
  img := fun i hi => by rw [← hf i hi, ← hg i hi]; exact h.img i hi
  low := fun i hi hi2 => by rw [← hf i hi2]; exact h.low i hi hi2
  span := fun v hv => by
    have e : From f k = From f' k := by
      funext x
      apply propext
      constructor
      · rintro ⟨i, h1, h2, h3⟩; exact ⟨i, h1, h2, by rw [h3, hf i h2]⟩
      · rintro ⟨i, h1, h2, h3⟩; exact ⟨i, h1, h2, by rw [h3, hf i h2]⟩
    rw [← e]; exact h.span v hv
  wlow := h.wlow
  sum := h.sum
/-- One step back. -/
def bk (x : R) : R := if x.getLsbD 31 then ((x ^^^ poly) <<< 1) ||| 1#32 else x <<< 1
def bks : Nat → R → R
  | 0, x => x
  | n + 1, x => bks n (bk x)
theorem step_bk (x : R) : step (bk x) = x := by
  unfold bk
  by_cases e : x.getLsbD 31 = true
  · rw [if_pos e]
    rw [step_odd _ (by simp)]
    apply BitVec.eq_of_getLsbD_eq
    intro i hi
    rw [BitVec.getLsbD_xor, BitVec.getLsbD_ushiftRight, BitVec.getLsbD_or, BitVec.getLsbD_shiftLeft, BitVec.getLsbD_xor, BitVec.getLsbD_one]
    by_cases h31 : i = 31
    · subst h31; rw [e]; decide
    · have h1 : ¬ (1 + i < 1) := by omega
      have h2 : 1 + i < 32 := by omega
      have h3 : 1 + i - 1 = i := by omega
      have h4 : ¬ (1 + i = 0) := by omega
      rw [h3]
      simp [h2, h4]
  · rw [if_neg e]
    simp only [Bool.not_eq_true] at e
    rw [step_even _ (by simp)]
    apply BitVec.eq_of_getLsbD_eq
    intro i hi
    rw [BitVec.getLsbD_ushiftRight, BitVec.getLsbD_shiftLeft]
    by_cases h31 : i = 31
    · subst h31; rw [e]; decide
    · have h2 : 1 + i < 32 := by omega
      have h3 : 1 + i - 1 = i := by omega
      rw [h3]
      simp [h2]
theorem steps_bks (n : Nat) (x : R) : steps n (bks n x) = x := by
  induction n generalizing x with
  | zero => rfl
  | succ n ih =>
    rw [bks, steps_succ', ih, step_bk]
theorem bks_succ' (n : Nat) (x : R) : bks (n + 1) x = bk (bks n x) := by
  induction n generalizing x with
  | zero => rfl
  | succ n ih => rw [bks, ih, ← bks]
theorem steps_inj (n : Nat) (x y : R) (h : steps n x = steps n y) : x = y := by
  have e : steps n (x ^^^ y) = 0#32 := by rw [steps_xor, h, BitVec.xor_self]
  have := steps_eq_zero n _ e
  have h2 : x ^^^ (x ^^^ y) = x ^^^ 0#32 := by rw [this]
  rw [xxc, BitVec.xor_zero] at h2
  exact h2.symm
theorem bks_steps (n : Nat) (x : R) : bks n (steps n x) = x := steps_inj n _ _ (steps_bks n _)
end Crc
end Go.Proofs.YtndninajnkejnaaDoor
