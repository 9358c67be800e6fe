/- Turned twice the bytes are as they were; Burst tells a Turn: no program in sight. -/
import Derived.Test.YtndninajnkejnaaDoorBurstSpec
import Derived.Test.YtndninajnkejnaaDoorBurstPure
import Derived.Test.YtndninajnkejnaaDoorTzPure
namespace Go.Proofs.YtndninajnkejnaaDoor
namespace Crc
open Go

def bitAt (l : List B) (i : Nat) : Bool := (l.getD (i / 8) 0#8).getLsbD (i % 8)
theorem flip_bit (l : List B) (q i : Nat) (hq : q < 8 * l.length) (hi : i < 8 * l.length) : bitAt (flip l q) i = (bitAt l i ^^ decide (i = q)) := by
  unfold bitAt flip
  have h1 : q / 8 < l.length := by omega
  have h2 : i / 8 < l.length := by omega
  by_cases e : q / 8 = i / 8
  · have e1 : (l.set (q / 8) (l.getD (q / 8) 0#8 ^^^ (1#8 <<< (q % 8)))).getD (i / 8) 0#8 = l.getD (q / 8) 0#8 ^^^ (1#8 <<< (q % 8)) := by
      rw [← e]; simp [List.getD_eq_getElem?_getD, h1]
    rw [e1, BitVec.getLsbD_xor, e]
    congr 1
    have : ∀ a b : Fin 8, (1#8 <<< a.val).getLsbD b.val = decide (b.val = a.val) := by decide
    rw [this ⟨q % 8, by omega⟩ ⟨i % 8, by omega⟩]
    simp only [decide_eq_decide]
    omega
  · have e1 : (l.set (q / 8) (l.getD (q / 8) 0#8 ^^^ (1#8 <<< (q % 8)))).getD (i / 8) 0#8 = l.getD (i / 8) 0#8 := by
      simp [List.getD_eq_getElem?_getD, e]
    rw [e1]
    have : ¬ i = q := fun g => e (by rw [g])
    simp [this]
theorem turn_bit (l : List B) (q : Nat) (m : R) (i : Nat) (hi : i < 8 * l.length) : ∀ j, Fits l.length q m j → bitAt (turnTo l q m j) i = (bitAt l i ^^ (decide (q ≤ i) && decide (i - q < j) && m.getLsbD (i - q)))
  | 0, _ => by simp [turnTo]
  | j + 1, h => by
    have ih := turn_bit l q m i hi j (fun a h1 h2 => h a (by omega) h2)
    unfold turnTo
    by_cases hb : m.getLsbD j = true
    · rw [if_pos hb]
      have hf := h j (by omega) hb
      rw [flip_bit _ _ _ (by rw [turnTo_length]; exact hf) (by rw [turnTo_length]; exact hi), ih]
      by_cases e : i = q + j
      · subst e
        simp [hb]
      · by_cases g : q ≤ i
        · have : (i - q < j + 1) ↔ (i - q < j) := by omega
          simp [g, e, this]
        · simp [g, e]
    · rw [if_neg hb, ih]
      by_cases g : q ≤ i
      · by_cases e : i - q = j
        · rw [e]; simp only [Bool.not_eq_true] at hb; simp [hb]
        · have : (i - q < j + 1) ↔ (i - q < j) := by omega
          simp [this]
      · simp [g]
theorem eq_of_bits (l k : List B) (h : l.length = k.length) (hb : ∀ i, i < 8 * l.length → bitAt l i = bitAt k i) : l = k := by
  apply List.ext_getElem h
  intro j h1 h2
  apply BitVec.eq_of_getLsbD_eq
  intro i hi
  have := hb (8 * j + i) (by omega)
  unfold bitAt at this
  rw [show (8 * j + i) / 8 = j by omega, show (8 * j + i) % 8 = i by omega] at this
  simpa [List.getD_eq_getElem?_getD, h1, h2] using this
theorem turn_twice (l : List B) (q : Nat) (m : R) (h : Fits l.length q m 32) : turnTo (turnTo l q m 32) q m 32 = l := by
  have hl : (turnTo l q m 32).length = l.length := turnTo_length ..
  apply eq_of_bits
  · rw [turnTo_length, turnTo_length]
  · intro i hi
    rw [turnTo_length, turnTo_length] at hi
    rw [turn_bit _ _ _ _ (by rw [hl]; exact hi) 32 (by rw [hl]; exact h), turn_bit _ _ _ _ hi 32 h, Bool.xor_assoc, Bool.xor_self, Bool.xor_false]
theorem dif_turn (l : List B) (q : Nat) (m : R) (h : Fits l.length q m 32) (i : Nat) (hi : i < 8 * l.length) : difAt l (turnTo l q m 32) i = (decide (q ≤ i) && decide (i - q < 32) && m.getLsbD (i - q)) := by
  have e := turn_bit l q m i hi 32 h
  have d : difAt l (turnTo l q m 32) i = (bitAt l i ^^ bitAt (turnTo l q m 32) i) := by
    unfold difAt bitAt
    rw [BitVec.getLsbD_xor]
  rw [d, e, ← Bool.xor_assoc, Bool.xor_self, Bool.false_xor]
theorem mask_bit (D : Nat → Bool) (p : Nat) (i : Nat) (hi : i < 32) : ∀ r, r ≤ 32 → (maskTo D p r).getLsbD i = (decide (i < r) && D (p + i))
  | 0, _ => by simp [maskTo]
  | r + 1, hr => by
    have ih := mask_bit D p i hi r (by omega)
    unfold maskTo
    by_cases hd : D (p + r) = true
    · rw [if_pos hd, BitVec.getLsbD_or, ih, bit1 r i hi]
      by_cases e : i = r
      · subst e; simp [hd]
      · have : (i < r + 1) ↔ (i < r) := by omega
        simp [e, this]
    · rw [if_neg hd, ih]
      by_cases e : i = r
      · subst e; simp only [Bool.not_eq_true] at hd; simp [hd]
      · have : (i < r + 1) ↔ (i < r) := by omega
        simp [this]
/-- What Burst tells of a Turn. -/
theorem burst_turn (l : List B) (n q : Nat) (m : R) (hn : l.length = n) (_hm : m ≠ 0#32) (hf : Fits n q m 32) (t L : Nat) (ht : Low m t) (l1 : 1 ≤ L) (l2 : L ≤ 32) (l3 : m.getLsbD (L - 1) = true) (l4 : ∀ i, L ≤ i → m.getLsbD i = false) :
    BurstIs l (turnTo l q m 32) n n ((q + t : Nat) : Int) (m >>> t) 0 := by
  subst hn
  obtain ⟨t1, t2, t3⟩ := ht
  have htL : t ≤ L - 1 := by
    rcases Nat.lt_or_ge (L - 1) t with g | g
    · have := t3 (L - 1) g; rw [l3] at this; cases this
    · exact g
  have hD := fun i hi => dif_turn l q m hf i hi
  have f1 := hf t t1 t2
  have f2 := hf (L - 1) (by omega) l3
  have hsc : Isscan (difAt l (turnTo l q m 32)) (8 * l.length) ((q + t : Nat) : Int) ((q + (L - 1) : Nat) : Int) := by
    refine .inr ⟨q + t, q + (L - 1), rfl, rfl, by omega, f2, ?_, ?_, ?_, ?_⟩
    · rw [hD _ f1, show q + t - q = t by omega, t2]; simp [t1]
    · rw [hD _ f2, show q + (L - 1) - q = L - 1 by omega, l3]; simp; omega
    · intro i hi
      rw [hD i (by omega)]
      by_cases g : q ≤ i
      · rw [t3 (i - q) (by omega)]; simp
      · simp [g]
    · intro i h1 h2
      rw [hD i h2, l4 (i - q) (by omega)]; simp
  refine .inr ⟨rfl, _, _, hsc, .inr (.inr ⟨by omega, by omega, rfl, ?_, rfl⟩)⟩
  apply BitVec.eq_of_getLsbD_eq
  intro i hi
  rw [show (((q + (L - 1) : Nat) : Int) - ((q + t : Nat) : Int) + 1).toNat = L - 1 - t + 1 by omega, show ((q + t : Nat) : Int).toNat = q + t by omega, mask_bit _ _ _ hi _ (by omega), BitVec.getLsbD_ushiftRight]
  by_cases g : i < L - 1 - t + 1
  · rw [hD _ (by omega), show q + t + i - q = t + i by omega]
    simp [g]; omega
  · rw [l4 (t + i) (by omega)]; simp [g]
theorem shr_shl (m : R) (t : Nat) (ht : Low m t) : (m >>> t) <<< t = m := by
  obtain ⟨t1, t2, t3⟩ := ht
  apply BitVec.eq_of_getLsbD_eq
  intro i hi
  rw [BitVec.getLsbD_shiftLeft, BitVec.getLsbD_ushiftRight]
  by_cases g : i < t
  · rw [t3 i g]; simp [g]
  · rw [show t + (i - t) = i by omega]; simp [g, hi]
theorem fits_shift (n q : Nat) (m : R) (t : Nat) (h : Fits n q m 32) : Fits n (q + t) (m >>> t) 32 := by
  intro i hi hb
  rw [BitVec.getLsbD_ushiftRight] at hb
  have : t + i < 32 := by
    rcases Nat.lt_or_ge (t + i) 32 with g | g
    · exact g
    · rw [BitVec.getLsbD_of_ge _ _ (by omega)] at hb; cases hb
  have := h (t + i) this hb
  omega
theorem turn_shift (l : List B) (q : Nat) (m : R) (t : Nat) (ht : Low m t) (h : Fits l.length q m 32) : turnTo l (q + t) (m >>> t) 32 = turnTo l q m 32 := by
  apply eq_of_bits
  · rw [turnTo_length, turnTo_length]
  · intro i hi
    rw [turnTo_length] at hi
    rw [turn_bit _ _ _ _ hi 32 (fits_shift _ _ _ _ h), turn_bit _ _ _ _ hi 32 h]
    congr 1
    obtain ⟨t1, t2, t3⟩ := ht
    rw [BitVec.getLsbD_ushiftRight]
    by_cases g : q ≤ i
    · by_cases k : q + t ≤ i
      · rw [show t + (i - (q + t)) = i - q by omega]
        by_cases e : i - q < 32
        · simp [g, k, e, show i - (q + t) < 32 by omega]
        · rw [BitVec.getLsbD_of_ge _ _ (by omega)]; simp
      · rw [t3 (i - q) (by omega)]; simp [k]
    · simp [g, show ¬ q + t ≤ i by omega]
end Crc
end Go.Proofs.YtndninajnkejnaaDoor
