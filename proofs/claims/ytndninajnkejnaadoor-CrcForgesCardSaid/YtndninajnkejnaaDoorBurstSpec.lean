/- The first and the last bit at which two rows of bytes differ: no program in sight. -/
import Derived.Test.YtndninajnkejnaaDoorCrcPure
import Derived.Lib.BitFns
namespace Go.Proofs.YtndninajnkejnaaDoor
namespace Crc
open Go

/-- Do they differ at bit i? -/
def difAt (l k : List B) (i : Nat) : Bool := ((l.getD (i / 8) 0#8) ^^^ (k.getD (i / 8) 0#8)).getLsbD (i % 8)
/-- f and t: the first and the last of the bits below k that are set; -1 if there is none. -/
def Isscan (D : Nat → Bool) (k : Nat) (f t : Int) : Prop :=
  (f = -1 ∧ t = -1 ∧ ∀ i, i < k → D i = false) ∨
  (∃ p q : Nat, f = p ∧ t = q ∧ p ≤ q ∧ q < k ∧ D p = true ∧ D q = true ∧ (∀ i, i < p → D i = false) ∧ (∀ i, q < i → i < k → D i = false))
theorem Isscan.zero (D : Nat → Bool) : Isscan D 0 (-1) (-1) := .inl ⟨rfl, rfl, fun i h => by omega⟩
theorem Isscan.unique {D : Nat → Bool} {k : Nat} {f t f' t' : Int} (h : Isscan D k f t) (h' : Isscan D k f' t') : f = f' ∧ t = t' := by
  rcases h with ⟨rfl, rfl, h⟩ | ⟨p, q, rfl, rfl, h1, h2, h3, h4, h5, h6⟩ <;> rcases h' with ⟨rfl, rfl, h'⟩ | ⟨p', q', rfl, rfl, k1, k2, k3, k4, k5, k6⟩
  · exact ⟨rfl, rfl⟩
  · have := h p' (by omega); rw [k3] at this; cases this
  · have := h' p (by omega); rw [h3] at this; cases this
  · have e1 : p = p' := by
      rcases Nat.lt_trichotomy p p' with g | g | g
      · have := k5 p g; rw [h3] at this; cases this
      · exact g
      · have := h5 p' g; rw [k3] at this; cases this
    have e2 : q = q' := by
      rcases Nat.lt_trichotomy q q' with g | g | g
      · have := h6 q' g (by omega); rw [k4] at this; cases this
      · exact g
      · have := k6 q g (by omega); rw [h4] at this; cases this
    subst e1; subst e2; exact ⟨rfl, rfl⟩
theorem Isscan.no {D : Nat → Bool} {k : Nat} {f t : Int} (h : Isscan D k f t) (hd : D k = false) : Isscan D (k + 1) f t := by
  rcases h with ⟨rfl, rfl, h⟩ | ⟨p, q, rfl, rfl, h1, h2, h3, h4, h5, h6⟩
  · refine .inl ⟨rfl, rfl, fun i hi => ?_⟩
    by_cases e : i = k
    · subst e; exact hd
    · exact h i (by omega)
  · refine .inr ⟨p, q, rfl, rfl, h1, by omega, h3, h4, h5, fun i hi hk => ?_⟩
    by_cases e : i = k
    · subst e; exact hd
    · exact h6 i hi (by omega)
theorem Isscan.yes {D : Nat → Bool} {k : Nat} {f t : Int} (h : Isscan D k f t) (hd : D k = true) : Isscan D (k + 1) (if f < 0 then (k : Int) else f) k := by
  rcases h with ⟨rfl, rfl, h⟩ | ⟨p, q, rfl, rfl, h1, h2, h3, h4, h5, h6⟩
  · rw [if_pos (by omega)]
    exact .inr ⟨k, k, rfl, rfl, by omega, by omega, hd, hd, h, fun i h1 h2 => by omega⟩
  · rw [if_neg (by omega)]
    exact .inr ⟨p, k, rfl, rfl, by omega, by omega, h3, hd, h5, fun i h1 h2 => by omega⟩
theorem Isscan.pos {D : Nat → Bool} {k : Nat} {f t : Int} (h : Isscan D k f t) (h0 : ¬ f < 0) : 0 ≤ f ∧ f ≤ t ∧ t < k := by
  rcases h with ⟨rfl, rfl, h⟩ | ⟨p, q, rfl, rfl, h1, h2, _⟩ <;> omega
theorem Isscan.neg {D : Nat → Bool} {k : Nat} {f t : Int} (h : Isscan D k f t) (h0 : f < 0) : f = -1 := by
  rcases h with ⟨rfl, rfl, h⟩ | ⟨p, q, rfl, rfl, h1, h2, _⟩ <;> omega
theorem Isscan.range {D : Nat → Bool} {k : Nat} {f t : Int} (h : Isscan D k f t) : -1 ≤ f ∧ f ≤ t ∧ t < k := by
  rcases h with ⟨rfl, rfl, h⟩ | ⟨p, q, rfl, rfl, h1, h2, _⟩ <;> omega
theorem byte_tz : ∀ n : Fin 256, n.val ≠ 0 → Lib.trailingZeros8 n.val < 8 ∧ n.val.testBit (Lib.trailingZeros8 n.val) = true ∧ ∀ i : Fin 8, i.val < Lib.trailingZeros8 n.val → n.val.testBit i.val = false := by decide +kernel
theorem byte_len : ∀ n : Fin 256, n.val ≠ 0 → 1 ≤ Lib.bitLen n.val ∧ Lib.bitLen n.val ≤ 8 ∧ n.val.testBit (Lib.bitLen n.val - 1) = true ∧ ∀ i : Fin 8, Lib.bitLen n.val ≤ i.val → n.val.testBit i.val = false := by decide +kernel
theorem byte_zero (D : Nat → Bool) (j : Nat) (f t : Int) (h : Isscan D (8 * j) f t) (hx : ∀ i, i < 8 → D (8 * j + i) = false) : Isscan D (8 * (j + 1)) f t := by
  have h1 := (h.no (hx 0 (by omega))).no (hx 1 (by omega))
  have h2 := (h1.no (hx 2 (by omega))).no (hx 3 (by omega))
  have h3 := (h2.no (hx 4 (by omega))).no (hx 5 (by omega))
  exact (h3.no (hx 6 (by omega))).no (hx 7 (by omega))
theorem byte_some (D : Nat → Bool) (j : Nat) (f t : Int) (x : B) (hx0 : x ≠ 0#8) (h : Isscan D (8 * j) f t) (hx : ∀ i, i < 8 → D (8 * j + i) = x.getLsbD i) :
    Isscan D (8 * (j + 1)) (if f < 0 then 8 * (j : Int) + (Lib.trailingZeros8 x.toNat : Int) else f) (8 * (j : Int) + (Lib.bitLen x.toNat : Int) - 1) := by
  have hn : x.toNat ≠ 0 := fun e => hx0 (BitVec.eq_of_toNat_eq e)
  obtain ⟨a1, a2, a3⟩ := byte_tz ⟨x.toNat, x.isLt⟩ hn
  obtain ⟨b1, b2, b3, b4⟩ := byte_len ⟨x.toNat, x.isLt⟩ hn
  simp only at a1 a2 a3 b1 b2 b3 b4
  generalize Lib.trailingZeros8 x.toNat = z at a1 a2 a3
  generalize Lib.bitLen x.toNat = L at b1 b2 b3 b4
  have hb : ∀ i, i < 8 → D (8 * j + i) = x.toNat.testBit i := fun i hi => by rw [hx i hi]; rfl
  have hzl : z ≤ L - 1 := by
    rcases Nat.lt_or_ge (L - 1) z with g | g
    · have := a3 ⟨L - 1, by omega⟩ g; rw [b3] at this; cases this
    · exact g
  have d1 : D (8 * j + z) = true := by rw [hb z a1]; exact a2
  have d2 : D (8 * j + (L - 1)) = true := by rw [hb (L - 1) (by omega)]; exact b3
  have d3 : ∀ i, 8 * j + (L - 1) < i → i < 8 * (j + 1) → D i = false := fun i g1 g2 => by
    obtain ⟨k, rfl⟩ : ∃ k, i = 8 * j + k := ⟨i - 8 * j, by omega⟩
    rw [hb k (by omega)]
    exact b4 ⟨k, by omega⟩ (by simp only; omega)
  rcases h with ⟨rfl, rfl, h⟩ | ⟨p, q, rfl, rfl, h1, h2, h3, h4, h5, h6⟩
  · rw [if_pos (by omega)]
    refine .inr ⟨8 * j + z, 8 * j + (L - 1), by omega, by omega, by omega, by omega, d1, d2, fun i hi => ?_, d3⟩
    by_cases g : i < 8 * j
    · exact h i g
    · obtain ⟨k, rfl⟩ : ∃ k, i = 8 * j + k := ⟨i - 8 * j, by omega⟩
      rw [hb k (by omega)]
      exact a3 ⟨k, by omega⟩ (by simp only; omega)
  · rw [if_neg (by omega)]
    exact .inr ⟨p, 8 * j + (L - 1), rfl, by omega, by omega, by omega, h3, d2, h5, d3⟩
/-- The bits from p on, k of them, as a mask. -/
def maskTo (D : Nat → Bool) (p : Nat) : Nat → R
  | 0 => 0#32
  | k + 1 => if D (p + k) then maskTo D p k ||| (1#32 <<< k) else maskTo D p k
/-- What Burst answers. -/
def BurstIs (l k : List B) (n m : Nat) (p : Int) (s : R) (c : Nat) : Prop :=
  (n ≠ m ∧ p = 0 ∧ s = 0#32 ∧ c = 5) ∨
  (n = m ∧ ∃ f t, Isscan (difAt l k) (8 * n) f t ∧
    ((f < 0 ∧ p = 0 ∧ s = 0#32 ∧ c = 17) ∨ (¬ f < 0 ∧ 31 < t - f ∧ p = 0 ∧ s = 0#32 ∧ c = 4) ∨ (¬ f < 0 ∧ ¬ 31 < t - f ∧ p = f ∧ s = maskTo (difAt l k) f.toNat (t - f + 1).toNat ∧ c = 0)))
theorem BurstIs.unique {l k : List B} {n m : Nat} {p p' : Int} {s s' : R} {c c' : Nat} (h : BurstIs l k n m p s c) (h' : BurstIs l k n m p' s' c') : p = p' ∧ s = s' ∧ c = c' := by
  rcases h with ⟨h0, rfl, rfl, rfl⟩ | ⟨h0, f, t, hs, h⟩ <;> rcases h' with ⟨h0', rfl, rfl, rfl⟩ | ⟨h0', f', t', hs', h'⟩
  · exact ⟨rfl, rfl, rfl⟩
  · exact absurd h0' h0
  · exact absurd h0 h0'
  · obtain ⟨rfl, rfl⟩ := hs.unique hs'
    rcases h with ⟨g, rfl, rfl, rfl⟩ | ⟨g, g2, rfl, rfl, rfl⟩ | ⟨g, g2, rfl, rfl, rfl⟩ <;> rcases h' with ⟨k, rfl, rfl, rfl⟩ | ⟨k, k2, rfl, rfl, rfl⟩ | ⟨k, k2, rfl, rfl, rfl⟩ <;>
      first | exact ⟨rfl, rfl, rfl⟩ | exact absurd k g | exact absurd g k | exact absurd k2 g2 | exact absurd g2 k2
end Crc
end Go.Proofs.YtndninajnkejnaaDoor
