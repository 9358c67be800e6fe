/- Numbers of many words: sums, differences, products by a word and quotients by it, as plain mathematics. -/
import Derived.Test.YtpihlaeioepbpaaDoorAluWide
namespace Go.Proofs.YtpihlaeioepbpaaDoor
namespace Alu
open Go

def adc (b c : R) (k : Bool) : R × Bool := (BitVec.ofNat 32 (b.toNat + c.toNat + cn k), decide (4294967296 ≤ b.toNat + c.toNat + cn k))
theorem adc_of {s b c : R} {o k : Bool} (h : s.toNat + 4294967296 * cn o = b.toNat + c.toNat + cn k) : s = (adc b c k).1 ∧ o = (adc b c k).2 := by
  have h1 := s.isLt
  have h2 := b.isLt
  have h3 := c.isLt
  have h4 := cn_le k
  have h5 := cn_le o
  constructor
  · apply BitVec.eq_of_toNat_eq
    simp only [adc, BitVec.toNat_ofNat]
    omega
  · simp only [adc]
    cases o with
    | true => simp only [cn, if_true] at h; symm; apply decide_eq_true; simp only [cn]; omega
    | false => simp only [cn, Bool.false_eq_true, if_false] at h; symm; apply decide_eq_false; simp only [cn]; omega
theorem adc_nat (b c : R) (k : Bool) : (adc b c k).1.toNat + 4294967296 * cn (adc b c k).2 = b.toNat + c.toNat + cn k := by
  have h2 := b.isLt
  have h3 := c.isLt
  have h4 := cn_le k
  simp only [adc, BitVec.toNat_ofNat]
  by_cases h : 4294967296 ≤ b.toNat + c.toNat + cn k
  · rw [decide_eq_true h]; simp only [cn, if_true] at *; omega
  · rw [decide_eq_false h]; simp only [cn, Bool.false_eq_true, if_false] at *; omega
theorem sbb_of {s b c d : R} {o k : Bool} (hs : s = (adc b c k).1) (h : d.toNat + c.toNat + cn k = s.toNat + 4294967296 * cn o) : d = b ∧ o = (adc b c k).2 := by
  have hn := adc_nat b c k
  rw [← hs] at hn
  have h1 := d.isLt
  have h2 := b.isLt
  obtain ⟨q, hq⟩ : ∃ q, q = (adc b c k).2 := ⟨_, rfl⟩
  rw [← hq] at hn ⊢
  have hd : d.toNat = b.toNat ∧ o = q := by
    cases o <;> cases q <;> simp only [cn, if_true, Bool.false_eq_true, if_false] at h hn <;> first | exact ⟨by omega, rfl⟩ | (exfalso; omega)
  exact ⟨BitVec.eq_of_toNat_eq hd.1, hd.2⟩
/-- The sum of the first words, and the carry. -/
def addTo (a b : List R) : Nat → List R × Bool
  | 0 => ([], false)
  | i + 1 => ((addTo a b i).1 ++ [(adc (a.getD i 0#32) (b.getD i 0#32) (addTo a b i).2).1], (adc (a.getD i 0#32) (b.getD i 0#32) (addTo a b i).2).2)
theorem addTo_length (a b : List R) (i : Nat) : (addTo a b i).1.length = i := by
  induction i with
  | zero => rfl
  | succ i ih => simp [addTo, ih]
theorem addTo_get (a b : List R) (n j : Nat) (h : j < n) : (addTo a b n).1.getD j 0#32 = (adc (a.getD j 0#32) (b.getD j 0#32) (addTo a b j).2).1 := by
  induction n with
  | zero => omega
  | succ n ih =>
    simp only [addTo, List.getD_eq_getElem?_getD]
    by_cases e : j = n
    · subst e
      rw [List.getElem?_append_right (by rw [addTo_length]; omega), addTo_length, Nat.sub_self]
      rfl
    · rw [List.getElem?_append_left (by rw [addTo_length]; omega), ← List.getD_eq_getElem?_getD, ih (by omega)]
      simp only [List.getD_eq_getElem?_getD]
theorem take_snoc (l : List R) (k : Nat) (h : k < l.length) : l.take (k + 1) = l.take k ++ [l.getD k 0#32] := by
  rw [List.take_add_one, List.getD_eq_getElem?_getD, List.getElem?_eq_getElem h]; rfl
/-- What is carried by a product with c, that began with r. -/
def carr (a : List R) (c r : Nat) : Nat → Nat
  | 0 => r
  | i + 1 => ((a.getD i 0#32).toNat * c + carr a c r i) / 4294967296
def prodAt (a : List R) (c r i : Nat) : R := BitVec.ofNat 32 ((a.getD i 0#32).toNat * c + carr a c r i)
def prods (a : List R) (c r : Nat) (n : Nat) : List R := (List.range n).map (prodAt a c r)
theorem prods_length (a : List R) (c r n : Nat) : (prods a c r n).length = n := by simp [prods]
theorem prods_succ (a : List R) (c r n : Nat) : prods a c r (n + 1) = prods a c r n ++ [prodAt a c r n] := by simp [prods, List.range_succ]
theorem prods_get (a : List R) (c r n i : Nat) (h : i < n) : (prods a c r n).getD i 0#32 = prodAt a c r i := by
  simp [prods, List.getD_eq_getElem?_getD, h]
theorem carr_lt (a : List R) (c r : Nat) (hr : r < c) : ∀ i, carr a c r i < c := by
  intro i
  induction i with
  | zero => exact hr
  | succ i ih =>
    unfold carr
    have h1 := (a.getD i 0#32).isLt
    have h2 : (a.getD i 0#32).toNat * c ≤ 4294967295 * c := Nat.mul_le_mul_right c (by omega)
    rw [Nat.div_lt_iff_lt_mul (by omega)]
    omega
theorem carr_split (a : List R) (c r i : Nat) : (a.getD i 0#32).toNat * c + carr a c r i = carr a c r (i + 1) * 4294967296 + (prodAt a c r i).toNat := by
  unfold prodAt
  rw [BitVec.toNat_ofNat, carr]
  omega
/-- One word of the product. -/
theorem prod_step {a : List R} {c r i : Nat} {h l s t : R} {o o2 : Bool} (hr : r < c) (hc : c < 4294967296) (hm : h.toNat * 4294967296 + l.toNat = (a.getD i 0#32).toNat * c)
    (hs : s.toNat + 4294967296 * cn o = l.toNat + carr a c r i + cn false) (ht : t.toNat + 4294967296 * cn o2 = h.toNat + 0 + cn o) : s = prodAt a c r i ∧ t.toNat = carr a c r (i + 1) := by
  have hk := carr_split a c r i
  have hk2 := carr_lt a c r hr (i + 1)
  have h1 := s.isLt
  have h2 := t.isLt
  have h3 := (prodAt a c r i).isLt
  have h4 := cn_le o
  have h5 := cn_le o2
  have h6 : cn false = 0 := rfl
  rw [h6] at hs
  have : s.toNat = (prodAt a c r i).toNat ∧ t.toNat = carr a c r (i + 1) := by
    generalize cn o = x at *
    generalize cn o2 = y at *
    omega
  exact ⟨BitVec.eq_of_toNat_eq this.1, this.2⟩
/-- One word of the quotient. -/
theorem quot_step {a : List R} {c r i : Nat} {q t h : R} (hr : r < c) (hh : h.toNat = carr a c r (i + 1)) (hq : q.toNat * c + t.toNat = h.toNat * 4294967296 + (prodAt a c r i).toNat) (ht : t.toNat < c) :
    q = a.getD i 0#32 ∧ t.toNat = carr a c r i := by
  have hk := carr_split a c r i
  have hk2 := carr_lt a c r hr i
  rw [hh, ← hk] at hq
  have e1 : (q.toNat * c + t.toNat) / c = q.toNat := by
    rw [Nat.add_comm, Nat.add_mul_div_right _ _ (by omega), Nat.div_eq_of_lt ht, Nat.zero_add]
  have e2 : ((a.getD i 0#32).toNat * c + carr a c r i) / c = (a.getD i 0#32).toNat := by
    rw [Nat.add_comm, Nat.add_mul_div_right _ _ (by omega), Nat.div_eq_of_lt hk2, Nat.zero_add]
  have e3 : q.toNat = (a.getD i 0#32).toNat := by rw [← e1, ← e2, hq]
  exact ⟨BitVec.eq_of_toNat_eq e3, by rw [e3] at hq; omega⟩
end Alu
end Go.Proofs.YtpihlaeioepbpaaDoor
