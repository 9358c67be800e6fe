
/- StepDoc: merged of Words, AluWide, LongPure, AluBits, RowB, RowsWalk, WidesPure, DoesPure, WidesRef, WidesRef2, WidesRef3, AluField, CutsAlu, WidesRef4, FieldPure, CutsPure, CutsRef, DoesRef, DoesRef2, DoRef, TestRef, PageIn, RefPut, RefMach (mergeset.py). -/
import Derived.Test.YtadikbmbadldpaaGreatDoorProg
import Derived.Test.YtadikbmbadldpaaGreatDoorBase
import Derived.Test.YtadikbmbadldpaaGreatDoorDrew
import Derived.Laws.AppendOwnNone
import Derived.Laws.OwnMore
import Derived.Test.YtadikbmbadldpaaGreatDoorAluWalk1
import Derived.Deep.QuietTactic
import Derived.BigQuiet
import Derived.Test.YtadikbmbadldpaaGreatDoorAluPure
import Derived.Lib.BitFns
import Derived.Laws.Rows
import Derived.Laws.Tables
import Derived.Laws.CopyOwn
import Derived.Deep.MidRow
import Derived.Test.YtadikbmbadldpaaGreatDoorLaid
import Derived.Test.YtadikbmbadldpaaGreatDoorPageInP
import Derived.Test.YtadikbmbadldpaaGreatDoorRefLook
import Derived.Test.YtadikbmbadldpaaGreatDoorMachStep
namespace Go.Proofs.YtadikbmbadldpaaGreatDoor
open Go Go.RowKit
set_option linter.unusedVariables false

/-- A slice of words that can be read: its elements. -/
structure RdW (w : World) (a : Option Addr) (n cap : Nat) (l : List (BitVec 32)) : Prop where
  len : l.length = n
  fits : n ≤ cap
  bound : n ≤ 35184372088832
  nil : a = none → cap = 0
  cells : 0 < n → ∃ b off, a = some ⟨b, off, none⟩ ∧ ∀ j, j < n → w.cell? ⟨b, off + j, none⟩ = some (.int .u32 ((l.getD j 0#32).toNat : Int))
theorem RdW.later {w w1 : World} {a : Option Addr} {n cap : Nat} {l : List (BitVec 32)} (h : RdW w a n cap l) (hb : Below w.heap.size w w1) : RdW w1 a n cap l :=
  ⟨h.len, h.fits, h.bound, h.nil, fun hn => by
    obtain ⟨b, off, e, hc⟩ := h.cells hn
    exact ⟨b, off, e, fun j hj => (hb.cell (p := ⟨b, off + j, none⟩) (World.block_lt_of_cell? w ⟨b, off + j, none⟩ (hc j hj))).trans (hc j hj)⟩⟩
/-- The words as cells. -/
def wv (l : List (BitVec 32)) : List Value := l.map fun c => .int .u32 (c.toNat : Int)
theorem wv_length (l : List (BitVec 32)) : (wv l).length = l.length := by simp [wv]
theorem wv_append (l m : List (BitVec 32)) : wv (l ++ m) = wv l ++ wv m := by simp [wv]
theorem wv_get (l : List (BitVec 32)) (j : Nat) (h : j < l.length) : (wv l)[j]? = some (.int .u32 ((l.getD j 0#32).toNat : Int)) := by
  simp [wv, List.getD_eq_getElem?_getD, h]
theorem wv_one (l : List (BitVec 32)) : ∀ u ∈ wv l, u.oneCell' = true := by
  intro u hu
  simp only [wv, List.mem_map] at hu
  obtain ⟨c, _, rfl⟩ := hu
  rfl
theorem wv_set (l : List (BitVec 32)) (j : Nat) (c : BitVec 32) : (wv l).set j (.int .u32 (c.toNat : Int)) = wv (l.set j c) := by simp [wv, List.map_set]
theorem RdW.own {w : World} {B : Nat} {E : TypeId} {a : Option Addr} {n cap : Nat} {l : List (BitVec 32)} (h : w.ownsRow B E 1 (.slice a n cap) n (wv l)) (hcap : n ≤ 35184372088832) : RdW w a n cap l := by
  have hl : l.length = n := by have := h.1; rw [wv_length] at this; omega
  rcases h.2 with ⟨hv, h0⟩ | ⟨g, cap', cur, hv, hb, hh, hf, hm, hcs, ht⟩
  · simp only [Value.slice.injEq] at hv
    obtain ⟨rfl, rfl, rfl⟩ := hv
    exact ⟨hl, by omega, by omega, fun _ => rfl, fun hn => by omega⟩
  · simp only [Value.slice.injEq] at hv
    obtain ⟨rfl, _, rfl⟩ := hv
    refine ⟨hl, hf, hcap, (fun h => by cases h), fun hn => ⟨g, 0, rfl, fun j hj => ?_⟩⟩
    have hc := World.ownsRow.cellAt h j (by omega)
    rw [Nat.zero_add, hc, wv_get l j (by omega)]
theorem RdW.nilRow (w : World) : RdW w none 0 0 [] := ⟨rfl, by omega, by omega, fun _ => rfl, fun h => by omega⟩
/-- The first of them. -/
theorem RdW.take {w : World} {a : Option Addr} {n cap : Nat} {l : List (BitVec 32)} (h : RdW w a n cap l) (k : Nat) (hk : k ≤ n) : RdW w a k cap (l.take k) := by
  have hf := h.fits
  have hb := h.bound
  refine ⟨by rw [List.length_take, h.len]; omega, by omega, by omega, h.nil, fun h0 => ?_⟩
  obtain ⟨b, off, e, hc⟩ := h.cells (by omega)
  refine ⟨b, off, e, fun j hj => ?_⟩
  rw [hc j (by omega)]
  simp [List.getD_eq_getElem?_getD, List.getElem?_take, hj]
theorem wown_later {w w1 : World} {B : Nat} {E : TypeId} {v : Value} {n : Nat} {xs : List Value} (h : w.ownsRow B E 1 v n xs) (hb : Below w.heap.size w w1) : w1.ownsRow B E 1 v n xs := by
  refine ⟨h.1, ?_⟩
  rcases h.2 with h' | ⟨g, cap, cur, hv, hg, hh, r⟩
  · exact .inl h'
  · exact .inr ⟨g, cap, cur, hv, hg, (hb.block _ (Array.getElem?_eq_some_iff.1 hh).1).trans hh, r⟩
theorem wown_mono {w : World} {B B' : Nat} {E : TypeId} {v : Value} {n : Nat} {xs : List Value} (h : w.ownsRow B E 1 v n xs) (hB : B' ≤ B) : w.ownsRow B' E 1 v n xs := by
  refine ⟨h.1, ?_⟩
  rcases h.2 with h' | ⟨g, cap, cur, hv, hg, r⟩
  · exact .inl h'
  · exact .inr ⟨g, cap, cur, hv, by omega, r⟩
/-- A row of one's own, as a slice that can be read. -/
theorem wown_rd {w : World} {B : Nat} {E : TypeId} {v : Value} {n : Nat} {l : List (BitVec 32)} (h : w.ownsRow B E 1 v n (wv l)) (hn : n ≤ 35184372088832) : ∃ x cx, v = .slice x n cx ∧ RdW w x n cx l := by
  rcases h.2 with ⟨hv, h0⟩ | ⟨g, cap', cur, hv, _⟩
  · subst hv
    subst h0
    exact ⟨none, 0, rfl, RdW.own h hn⟩
  · subst hv
    exact ⟨_, _, rfl, RdW.own h hn⟩
theorem RdW.lit1 (w : World) (c : BitVec 32) : RdW (w.alloc (.cells #[.int .u32 (c.toNat : Int)] 23)) (some ⟨w.heap.size, 0, none⟩) 1 1 [c] :=
  RdW.own (World.ownsRow_lit w (wv [c]).toArray 1 (base := w.heap.size) (e := 23) (size := 1) (Nat.le_refl _) (by decide) rfl) (by omega)
theorem infoU32 : (Tryz.prog.info? 23).map (fun i => (i.zero, i.size, i.bytes)) = some (some (.int .u32 0), 1, 4) := by kernel_rfl
theorem append_words {w : World} {ops : Array Oper} {rest : List Oper} {o : Oper} {a : Act} {Q : Exit → Act → World → Prop} (hgd : o.guard = none) (s x : Operand)
    (ho : o.op = .call { callee := .builtin .append, args := #[s, x], argTypes := #[28, 28] })
    (base : Nat) (v : Value) (n : Nat) (xs : List Value) (hs : a.eval s = v) (hown : w.ownsRow base 23 1 v n xs)
    (x0 : Addr) (m c : Nat) (l : List (BitVec 32)) (hx : a.eval x = .slice (some x0) m c) (hr : RdW w (some x0) m c l)
    (hb : n + m ≤ 35184372088832) (hbase : base ≤ w.heap.size)
    (h : ∀ v' w', w'.ownsRow base 23 1 v' (n + m) (xs ++ wv l) → w.grownBy w' v.ownBlock → wpList Tryz.prog ops Q rest (a.put o.dst v') w') : wpList Tryz.prog ops Q (o :: rest) a w := by
  obtain ⟨i, hi, hz0, hz1, hz2⟩ := info_parts infoU32
  refine wpList_append_own w hgd s x 28 ho base 23 i (.int .u32 0) 1 4 Tryz.underlying28 hi hz0 hz1 hz2 rfl (by decide) v n xs hs hown x0 m c (wv l) hx (by rw [wv_length, hr.len, Nat.mul_one]) ?_ (wv_one l) (by unfold maxLen; omega) (by omega) hbase ?_
  · intro j u hu
    have hj : j < l.length := by
      have := (List.getElem?_eq_some_iff.1 hu).1
      rwa [wv_length] at this
    rw [wv_get l j hj] at hu
    have hj' : j < m := by rw [← hr.len]; exact hj
    obtain ⟨b, off, e, hc⟩ := hr.cells (by omega)
    obtain rfl := Option.some.inj e
    have e1 : (⟨b, off, none⟩ : Addr).add j = ⟨b, off + j, none⟩ := by unfold Addr.add; split <;> simp_all
    rw [e1, hc j hj', hu]
  · exact fun v' w' h1 h2 h3 => h v' w' h1 h2
end Go.Proofs.YtadikbmbadldpaaGreatDoor
namespace Go.Proofs.YtadikbmbadldpaaGreatDoor
open Go Go.RowKit
set_option linter.unusedVariables false
namespace Alu
/-- A carry as a number. -/
def cn (k : Bool) : Nat := if k then 1 else 0
theorem tr_cn (k : Bool) : tr k = (cn k : Int) := by cases k <;> rfl
theorem cn_le (k : Bool) : cn k ≤ 1 := by cases k <;> decide
end Alu
theorem unary_not (x y : BitVec 32) (h : y = ~~~x) : Op.unary .xor (.int .u32 (x.toNat : Int)) = pure (.int .u32 (y.toNat : Int)) := by
  subst h
  have e1 : BitVec.ofInt 32 (if IntKind.u32.signed = true then -1 else IntKind.u32.max) = 4294967295#32 := by decide
  have e2 : BitVec.ofInt 32 (x.toNat : Int) = x := by rw [BitVec.ofInt_natCast, BitVec.ofNat_toNat, BitVec.setWidth_eq]
  have e3 : ∀ z : BitVec 32, IntKind.u32.wrap (z.toNat : Int) = (z.toNat : Int) := fun z => by
    rw [IntKind.wrap_u32']; have := z.isLt; omega
  have e4 : (4294967295#32 ^^^ x) = ~~~x := by
    rw [show (4294967295#32 : BitVec 32) = BitVec.allOnes 32 from rfl, BitVec.xor_comm, BitVec.xor_allOnes]
  show pure (Value.int .u32 (IntKind.u32.wrap ((BitVec.ofInt 32 (if IntKind.u32.signed = true then -1 else IntKind.u32.max) ^^^ BitVec.ofInt 32 (x.toNat : Int)).toNat : Int))) = _
  rw [e1, e2, e3, e4]
namespace Alu
/-- The borrow's formula. -/
def bor (b c d : R) : R := (~~~b &&& c) ||| (~~~(b ^^^ c) &&& d)
theorem bor_nat (b c : R) (k : Nat) (hk : k ≤ 1) : (bor b c (b - c - BitVec.ofNat 32 k) >>> 31).toNat = if b.toNat < c.toNat + k then 1 else 0 := by
  obtain ⟨d, hd⟩ : ∃ d, d = b - c - BitVec.ofNat 32 k := ⟨_, rfl⟩
  have hdn : d.toNat = (b.toNat + 4294967296 - c.toNat + 4294967296 - k) % 4294967296 := by
    rw [hd, BitVec.toNat_sub, BitVec.toNat_sub, BitVec.toNat_ofNat]
    have := b.isLt; have := c.isLt
    omega
  rw [← hd]
  have hm : ∀ x : R, x.getLsbD 31 = decide (2147483648 ≤ x.toNat) := fun x => by
    rw [show x.getLsbD 31 = x.msb by rw [BitVec.msb_eq_getLsbD_last], BitVec.msb_eq_decide]
  have hs : (bor b c d >>> 31).toNat = if (bor b c d).getLsbD 31 then 1 else 0 := by
    rw [BitVec.toNat_ushiftRight, Nat.shiftRight_eq_div_pow, hm]
    have := (bor b c d).isLt
    by_cases h : 2147483648 ≤ (bor b c d).toNat
    · simp [h]; omega
    · simp [h]; omega
  rw [hs]
  have hb31 : (bor b c d).getLsbD 31 = ((!b.getLsbD 31 && c.getLsbD 31) || (!(b.getLsbD 31 ^^ c.getLsbD 31) && d.getLsbD 31)) := by
    unfold bor
    simp only [BitVec.getLsbD_or, BitVec.getLsbD_and, BitVec.getLsbD_not, BitVec.getLsbD_xor]
    simp
  rw [hb31, hm, hm, hm]
  have h1 := b.isLt
  have h2 := c.isLt
  have h3 := d.isLt
  by_cases p : 2147483648 ≤ b.toNat <;> by_cases q : 2147483648 ≤ c.toNat <;> by_cases r : 2147483648 ≤ d.toNat <;> by_cases s : b.toNat < c.toNat + k <;> simp [p, q, r, s] <;> omega
end Alu
theorem or_hi_lo (h l : Nat) (hl : l < 4294967296) (hh : h < 4294967296) : bits .or .u64 ((h : Int) * 4294967296) (l : Int) = ((h * 4294967296 + l : Nat) : Int) := by
  have e : (h : Int) * 4294967296 = ((h * 4294967296 : Nat) : Int) := by simp
  rw [e, u64_or_nat _ _ (by omega) (by omega)]
  congr 1
  rw [show h * 4294967296 = 2 ^ 32 * h by rw [Nat.mul_comm]]
  exact (Nat.two_pow_add_eq_or_of_lt (by simpa using hl) h).symm
end Go.Proofs.YtadikbmbadldpaaGreatDoor
namespace Go.Proofs.YtadikbmbadldpaaGreatDoor
namespace Alu
open Go

def adc (b c : R) (k : Bool) : R × Bool := (BitVec.ofNat 32 (b.toNat + c.toNat + cn k), decide (4294967296 ≤ b.toNat + c.toNat + cn k))
theorem adc_of {s b c : R} {o k : Bool} (h : s.toNat + 4294967296 * cn o = b.toNat + c.toNat + cn k) : s = (adc b c k).1 ∧ o = (adc b c k).2 := by
  have h1 := s.isLt
  have h2 := b.isLt
  have h3 := c.isLt
  have h4 := cn_le k
  have h5 := cn_le o
  constructor
  · apply BitVec.eq_of_toNat_eq
    simp only [adc, BitVec.toNat_ofNat]
    omega
  · simp only [adc]
    cases o with
    | true => simp only [cn, if_true] at h; symm; apply decide_eq_true; simp only [cn]; omega
    | false => simp only [cn, Bool.false_eq_true, if_false] at h; symm; apply decide_eq_false; simp only [cn]; omega
theorem adc_nat (b c : R) (k : Bool) : (adc b c k).1.toNat + 4294967296 * cn (adc b c k).2 = b.toNat + c.toNat + cn k := by
  have h2 := b.isLt
  have h3 := c.isLt
  have h4 := cn_le k
  simp only [adc, BitVec.toNat_ofNat]
  by_cases h : 4294967296 ≤ b.toNat + c.toNat + cn k
  · rw [decide_eq_true h]; simp only [cn, if_true] at *; omega
  · rw [decide_eq_false h]; simp only [cn, Bool.false_eq_true, if_false] at *; omega
theorem sbb_of {s b c d : R} {o k : Bool} (hs : s = (adc b c k).1) (h : d.toNat + c.toNat + cn k = s.toNat + 4294967296 * cn o) : d = b ∧ o = (adc b c k).2 := by
  have hn := adc_nat b c k
  rw [← hs] at hn
  have h1 := d.isLt
  have h2 := b.isLt
  obtain ⟨q, hq⟩ : ∃ q, q = (adc b c k).2 := ⟨_, rfl⟩
  rw [← hq] at hn ⊢
  have hd : d.toNat = b.toNat ∧ o = q := by
    cases o <;> cases q <;> simp only [cn, if_true, Bool.false_eq_true, if_false] at h hn <;> first | exact ⟨by omega, rfl⟩ | (exfalso; omega)
  exact ⟨BitVec.eq_of_toNat_eq hd.1, hd.2⟩
/-- The sum of the first words, and the carry. -/
def addTo (a b : List R) : Nat → List R × Bool
  | 0 => ([], false)
  | i + 1 => ((addTo a b i).1 ++ [(adc (a.getD i 0#32) (b.getD i 0#32) (addTo a b i).2).1], (adc (a.getD i 0#32) (b.getD i 0#32) (addTo a b i).2).2)
theorem addTo_length (a b : List R) (i : Nat) : (addTo a b i).1.length = i := by
  induction i with
  | zero => rfl
  | succ i ih => simp [addTo, ih]
theorem addTo_get (a b : List R) (n j : Nat) (h : j < n) : (addTo a b n).1.getD j 0#32 = (adc (a.getD j 0#32) (b.getD j 0#32) (addTo a b j).2).1 := by
  induction n with
  | zero => omega
  | succ n ih =>
    simp only [addTo, List.getD_eq_getElem?_getD]
    by_cases e : j = n
    · subst e
      rw [List.getElem?_append_right (by rw [addTo_length]; omega), addTo_length, Nat.sub_self]
      rfl
    · rw [List.getElem?_append_left (by rw [addTo_length]; omega), ← List.getD_eq_getElem?_getD, ih (by omega)]
      simp only [List.getD_eq_getElem?_getD]
theorem take_snocL (l : List R) (k : Nat) (h : k < l.length) : l.take (k + 1) = l.take k ++ [l.getD k 0#32] := by
  rw [List.take_add_one, List.getD_eq_getElem?_getD, List.getElem?_eq_getElem h]; rfl
/-- What is carried by a product with c, that began with r. -/
def carr (a : List R) (c r : Nat) : Nat → Nat
  | 0 => r
  | i + 1 => ((a.getD i 0#32).toNat * c + carr a c r i) / 4294967296
def prodAt (a : List R) (c r i : Nat) : R := BitVec.ofNat 32 ((a.getD i 0#32).toNat * c + carr a c r i)
def prods (a : List R) (c r : Nat) (n : Nat) : List R := (List.range n).map (prodAt a c r)
theorem prods_length (a : List R) (c r n : Nat) : (prods a c r n).length = n := by simp [prods]
theorem prods_succ (a : List R) (c r n : Nat) : prods a c r (n + 1) = prods a c r n ++ [prodAt a c r n] := by simp [prods, List.range_succ]
theorem prods_get (a : List R) (c r n i : Nat) (h : i < n) : (prods a c r n).getD i 0#32 = prodAt a c r i := by
  simp [prods, List.getD_eq_getElem?_getD, h]
theorem carr_lt (a : List R) (c r : Nat) (hr : r < c) : ∀ i, carr a c r i < c := by
  intro i
  induction i with
  | zero => exact hr
  | succ i ih =>
    unfold carr
    have h1 := (a.getD i 0#32).isLt
    have h2 : (a.getD i 0#32).toNat * c ≤ 4294967295 * c := Nat.mul_le_mul_right c (by omega)
    rw [Nat.div_lt_iff_lt_mul (by omega)]
    omega
theorem carr_split (a : List R) (c r i : Nat) : (a.getD i 0#32).toNat * c + carr a c r i = carr a c r (i + 1) * 4294967296 + (prodAt a c r i).toNat := by
  unfold prodAt
  rw [BitVec.toNat_ofNat, carr]
  omega
/-- One word of the product. -/
theorem prod_step {a : List R} {c r i : Nat} {h l s t : R} {o o2 : Bool} (hr : r < c) (hc : c < 4294967296) (hm : h.toNat * 4294967296 + l.toNat = (a.getD i 0#32).toNat * c)
    (hs : s.toNat + 4294967296 * cn o = l.toNat + carr a c r i + cn false) (ht : t.toNat + 4294967296 * cn o2 = h.toNat + 0 + cn o) : s = prodAt a c r i ∧ t.toNat = carr a c r (i + 1) := by
  have hk := carr_split a c r i
  have hk2 := carr_lt a c r hr (i + 1)
  have h1 := s.isLt
  have h2 := t.isLt
  have h3 := (prodAt a c r i).isLt
  have h4 := cn_le o
  have h5 := cn_le o2
  have h6 : cn false = 0 := rfl
  rw [h6] at hs
  have : s.toNat = (prodAt a c r i).toNat ∧ t.toNat = carr a c r (i + 1) := by
    generalize cn o = x at *
    generalize cn o2 = y at *
    omega
  exact ⟨BitVec.eq_of_toNat_eq this.1, this.2⟩
/-- One word of the quotient. -/
theorem quot_step {a : List R} {c r i : Nat} {q t h : R} (hr : r < c) (hh : h.toNat = carr a c r (i + 1)) (hq : q.toNat * c + t.toNat = h.toNat * 4294967296 + (prodAt a c r i).toNat) (ht : t.toNat < c) :
    q = a.getD i 0#32 ∧ t.toNat = carr a c r i := by
  have hk := carr_split a c r i
  have hk2 := carr_lt a c r hr i
  rw [hh, ← hk] at hq
  have e1 : (q.toNat * c + t.toNat) / c = q.toNat := by
    rw [Nat.add_comm, Nat.add_mul_div_right _ _ (by omega), Nat.div_eq_of_lt ht, Nat.zero_add]
  have e2 : ((a.getD i 0#32).toNat * c + carr a c r i) / c = (a.getD i 0#32).toNat := by
    rw [Nat.add_comm, Nat.add_mul_div_right _ _ (by omega), Nat.div_eq_of_lt hk2, Nat.zero_add]
  have e3 : q.toNat = (a.getD i 0#32).toNat := by rw [← e1, ← e2, hq]
  exact ⟨BitVec.eq_of_toNat_eq e3, by rw [e3] at hq; omega⟩
end Alu
end Go.Proofs.YtadikbmbadldpaaGreatDoor
namespace Go.Proofs.YtadikbmbadldpaaGreatDoor
namespace Alu
open Go Go.RowKit

/-- How many of the first k are true. -/
def cnt (f : Nat → Bool) : Nat → Nat
  | 0 => 0
  | k + 1 => cnt f k + (if f k then 1 else 0)
theorem cnt_congr (f g : Nat → Bool) (k : Nat) (h : ∀ i, i < k → f i = g i) : cnt f k = cnt g k := by
  induction k with
  | zero => rfl
  | succ k ih => rw [cnt, cnt, ih (fun i hi => h i (by omega)), h k (by omega)]
theorem cnt_add (f : Nat → Bool) (a b : Nat) : cnt f (a + b) = cnt f a + cnt (fun i => f (a + i)) b := by
  induction b with
  | zero => rfl
  | succ b ih => rw [← Nat.add_assoc, cnt, ih, cnt, Nat.add_assoc]
def ones (x : R) : Nat := cnt (fun i => x.getLsbD i) 32
theorem cnt32 (f : Nat → Bool) : cnt f 32 = cnt (fun i => f (8 * 3 + i)) 8 + cnt (fun i => f (8 * 2 + i)) 8 + cnt (fun i => f (8 * 1 + i)) 8 + cnt (fun i => f (8 * 0 + i)) 8 := by
  rw [show 32 = 8 + (8 + (8 + 8)) from rfl, cnt_add, cnt_add, cnt_add]
  simp only [Nat.mul_zero, Nat.zero_add, Nat.mul_one, Nat.reduceMul]
  have a1 : ∀ i, 8 + (8 + i) = 16 + i := fun i => by omega
  have a2 : ∀ i, 8 + (16 + i) = 24 + i := fun i => by omega
  simp only [a1, a2]
  have e : cnt (fun i => f i) 8 = cnt f 8 := rfl
  omega
theorem cnt_turn (f : Nat → Bool) (m : Nat) (hm : m ≤ 32) : cnt (fun i => if i < m then f (32 - m + i) else f (i - m)) 32 = cnt f 32 := by
  have h : 32 = m + (32 - m) := by omega
  have e0 := cnt_add (fun i => if i < m then f (32 - m + i) else f (i - m)) m (32 - m)
  rw [← h] at e0
  have e1 : cnt (fun i => if i < m then f (32 - m + i) else f (i - m)) m = cnt (fun i => f (32 - m + i)) m :=
    cnt_congr _ _ _ fun i hi => by simp only [if_pos hi]
  have e2 : cnt (fun i => if m + i < m then f (32 - m + (m + i)) else f (m + i - m)) (32 - m) = cnt f (32 - m) :=
    cnt_congr _ _ _ fun i hi => by simp only [if_neg (show ¬ m + i < m by omega)]; congr 1; omega
  have e3 := cnt_add f (32 - m) m
  rw [show 32 - m + m = 32 by omega] at e3
  omega
theorem byte_cnt : ∀ c : Fin 256, Lib.onesCount c.val = cnt (fun i => c.val.testBit i) 8 := by decide +kernel
theorem ones_eq (x : R) : Lib.onesCount ((x.toNat : Int) / 16777216).toNat + Lib.onesCount ((x.toNat : Int) / 65536 % 256).toNat + Lib.onesCount ((x.toNat : Int) / 256 % 256).toNat + Lib.onesCount ((x.toNat : Int) % 256).toNat = ones x := by
  have hx := x.isLt
  have piece : ∀ j, j < 4 → cnt (fun i => x.getLsbD (8 * j + i)) 8 = Lib.onesCount (x.toNat / 2 ^ (8 * j) % 256) := fun j hj => by
    have b := byte_cnt ⟨x.toNat / 2 ^ (8 * j) % 256, Nat.mod_lt _ (by omega)⟩
    simp only at b
    rw [b]
    refine cnt_congr _ _ _ fun i hi => ?_
    rw [BitVec.getLsbD, show (256 : Nat) = 2 ^ 8 from rfl, Nat.testBit_mod_two_pow, Nat.testBit_div_two_pow]
    simp [hi, Nat.add_comm]
  have e0 : ((x.toNat : Int) % 256).toNat = x.toNat / 2 ^ (8 * 0) % 256 := by simp only [Nat.mul_zero, Nat.pow_zero, Nat.div_one]; omega
  have e1 : ((x.toNat : Int) / 256 % 256).toNat = x.toNat / 2 ^ (8 * 1) % 256 := by simp only [Nat.mul_one, Nat.reducePow]; omega
  have e2 : ((x.toNat : Int) / 65536 % 256).toNat = x.toNat / 2 ^ (8 * 2) % 256 := by simp only [Nat.reduceMul, Nat.reducePow]; omega
  have e3 : ((x.toNat : Int) / 16777216).toNat = x.toNat / 2 ^ (8 * 3) % 256 := by simp only [Nat.reduceMul, Nat.reducePow]; omega
  rw [e0, e1, e2, e3, ← piece 0 (by omega), ← piece 1 (by omega), ← piece 2 (by omega), ← piece 3 (by omega)]
  exact (cnt32 fun i => x.getLsbD i).symm
theorem cnt_split (f : Nat → Bool) (a b : Nat) : cnt (fun i => f (a + i)) b + cnt f a = cnt f (a + b) := by rw [cnt_add]; omega
/-- A turned word has as many bits. -/
theorem ones_rotate (x : R) (n : Nat) : ones (x.rotateLeft n) = ones x := by
  have hn : n % 32 < 32 := Nat.mod_lt _ (by omega)
  unfold ones
  have key : ∀ i, i < 32 → (x.rotateLeft n).getLsbD i = if i < n % 32 then x.getLsbD (32 - n % 32 + i) else x.getLsbD (i - n % 32) := fun i hi => by
    rw [BitVec.getLsbD_rotateLeft]
    simp only [hi, decide_true, Bool.true_and]
    by_cases h : i < n % 32 <;> simp [h]
  rw [cnt_congr _ _ _ key]
  exact cnt_turn (fun i => x.getLsbD i) (n % 32) (by omega)
theorem andi31 (n : Int) (h0 : -9223372036854775808 ≤ n) (h1 : n ≤ 9223372036854775807) : bits .and .i64 n 31 = n % 32 := by
  have e : bits .and .i64 n 31 = IntKind.i64.wrap ((BitVec.ofInt 64 n &&& BitVec.ofInt 64 31).toNat : Int) := rfl
  have e2 : (BitVec.ofInt 64 n &&& BitVec.ofInt 64 31).toNat = (n % 32).toNat := by
    rw [BitVec.toNat_and, BitVec.toNat_ofInt, show (BitVec.ofInt 64 31).toNat = 2 ^ 5 - 1 from rfl, Nat.and_two_pow_sub_one_eq_mod]
    omega
  rw [e, e2]
  have : ∀ z : Int, 0 ≤ z → z < 32 → IntKind.i64.wrap z = z := fun z a b => by
    have hz : z % 18446744073709551616 = z := by omega
    have hd : decide (z ≥ 9223372036854775808) = false := decide_eq_false (by omega)
    simp only [IntKind.wrap, IntKind.bits, IntKind.signed, Bool.true_and, Int.reducePow, Nat.reduceSub, hz, hd]
    simp
  rw [this] <;> omega
/-- The walk's spelling of a turn. -/
theorem rot_int (x : R) (k : Nat) (h : k < 32) : bits .or .u32 ((x.toNat : Int) * 2 ^ k % 4294967296) ((x.toNat : Int) / 2 ^ (32 - k)) = ((x.rotateLeft k).toNat : Int) := by
  rw [shl_int, shr_int, or_int]
  congr 2
  apply BitVec.eq_of_getLsbD_eq
  intro i hi
  rw [BitVec.getLsbD_or, BitVec.getLsbD_shiftLeft, BitVec.getLsbD_ushiftRight, BitVec.getLsbD_rotateLeft, Nat.mod_eq_of_lt h]
  by_cases hik : i < k
  · simp [hik]
  · have : x.getLsbD (32 - k + i) = false := BitVec.getLsbD_of_ge _ _ (by omega)
    simp [hik, hi, this]
/-- The place of the highest bit. -/
theorem bitLen_top (x : Nat) (h0 : x ≠ 0) (h : x < 4294967296) : x / 2 ^ (Lib.bitLen x - 1) = 1 ∧ 1 ≤ Lib.bitLen x := by
  induction x using Nat.strongRecOn with
  | _ x ih =>
    have e := Lib.bitLen_half x h0 (by omega)
    by_cases h2 : x / 2 = 0
    · have : x = 1 := by omega
      subst this
      exact ⟨by decide, by decide⟩
    · obtain ⟨i1, i2⟩ := ih (x / 2) (by omega) h2 (by omega)
      rw [e]
      refine ⟨?_, by omega⟩
      rw [show 1 + Lib.bitLen (x / 2) - 1 = (Lib.bitLen (x / 2) - 1) + 1 by omega, Nat.pow_succ, Nat.mul_comm, ← Nat.div_div_eq_div_mul]
      exact i1
theorem rotate_mod (x : R) (n : Nat) : x.rotateLeft (n % 32) = x.rotateLeft n := by rw [BitVec.rotateLeft_mod_eq_rotateLeft]
theorem rotate_back (x : R) (a b : Nat) (h : (a + b) % 32 = 0) : (x.rotateLeft a).rotateLeft b = x := by
  apply BitVec.eq_of_getLsbD_eq
  intro i hi
  rw [BitVec.getLsbD_rotateLeft, BitVec.getLsbD_rotateLeft, BitVec.getLsbD_rotateLeft]
  have ha : a % 32 < 32 := Nat.mod_lt _ (by omega)
  have hb : b % 32 < 32 := Nat.mod_lt _ (by omega)
  have hab : (a % 32 + b % 32) % 32 = 0 := by omega
  generalize a % 32 = p at *
  generalize b % 32 = q at *
  have : p + q = 0 ∨ p + q = 32 := by omega
  rcases this with h0 | h0
  · have : p = 0 := by omega
    have : q = 0 := by omega
    subst p; subst q
    simp [hi]
  · by_cases c1 : i < q
    · simp only [c1, decide_true, cond_true]
      have : ¬ (32 - q + i < p) := by omega
      simp only [this, decide_false, cond_false]
      rw [show 32 - q + i - p = i by omega]
      simp; omega
    · simp only [c1, decide_false, cond_false]
      have : i - q < p := by omega
      simp only [this, decide_true, cond_true]
      rw [show 32 - p + (i - q) = i by omega]
      simp [hi]
end Alu
end Go.Proofs.YtadikbmbadldpaaGreatDoor
namespace Go.Proofs.YtadikbmbadldpaaGreatDoor
open Go Go.RowKit
set_option linter.unusedVariables false
namespace Alu
/-- 32 bools as cells. -/
def rowL (f : Nat → Bool) : List Value := (List.range 32).map fun i => Value.bool (f i)
theorem rowL_length (f : Nat → Bool) : (rowL f).length = 32 := by simp [rowL]
theorem rowL_get (f : Nat → Bool) (i : Nat) (h : i < 32) : (rowL f)[i]? = some (.bool (f i)) := by simp [rowL, h]
theorem rowL_set (f : Nat → Bool) (k : Nat) (v : Bool) : (rowL f).set k (.bool v) = rowL (fun i => if i = k then v else f i) := by
  apply List.ext_getElem?
  intro i
  rw [List.getElem?_set]
  by_cases hi : i < 32
  · rw [rowL_get (fun i => if i = k then v else f i) i hi, rowL_get f i hi]
    by_cases e : k = i
    · subst e; simp [rowL_length, hi]
    · have : ¬ i = k := fun h => e h.symm
      simp [e, this]
  · have e1 : ∀ g, (rowL g)[i]? = none := fun g => List.getElem?_eq_none (by rw [rowL_length]; omega)
    rw [e1, e1]
    by_cases e : k = i <;> simp [e, rowL_length, hi]
theorem rowL_congr (f g : Nat → Bool) (h : ∀ i, i < 32 → f i = g i) : rowL f = rowL g := by
  unfold rowL
  apply List.map_congr_left
  intro i hi
  rw [h i (List.mem_range.1 hi)]
end Alu
/-- A block of 32 bools that the call owns. -/
def RowT (w : World) (E : TypeId) (B g : Nat) (f : Nat → Bool) : Prop := w.ownsRow B E 1 (.slice (some ⟨g, 0, none⟩) 32 32) 32 (Alu.rowL f)
/-- The array as a value. -/
def arrT (f : Nat → Bool) : Value := .agg (Alu.rowL f).toArray
theorem RowT.cell {w : World} {E : TypeId} {B g : Nat} {f : Nat → Bool} (h : RowT w E B g f) (i : Nat) (hi : i < 32) : w.cell? ⟨g, i, none⟩ = some (.bool (f i)) := by
  rw [World.ownsRow.cellAt h i (by simpa using hi), Alu.rowL_get f i hi]
theorem RowT.frozen {w : World} {E : TypeId} {B g : Nat} {f : Nat → Bool} (h : RowT w E B g f) (i : Nat) : w.frozen? ⟨g, i, none⟩ = false := World.ownsRow.frozenAt h i
theorem RowT.later {w w' : World} {E : TypeId} {B g : Nat} {f : Nat → Bool} (h : RowT w E B g f) (hb : Below w.heap.size w w') : RowT w' E B g f := wown_later h hb
theorem RowT.stored {w : World} {E : TypeId} {B g : Nat} {f : Nat → Bool} (h : RowT w E B g f) (k : Nat) (v : Bool) : RowT (w.setCell ⟨g, k, none⟩ (.bool v)) E B g (fun i => if i = k then v else f i) := by
  have := (World.ownsRow.stored h k (.bool v)).1
  rw [Alu.rowL_set] at this
  exact this
theorem RowT.congr {w : World} {E : TypeId} {B g : Nat} {f f' : Nat → Bool} (h : RowT w E B g f) (hf : ∀ i, i < 32 → f i = f' i) : RowT w E B g f' := by
  unfold RowT at h ⊢
  rw [← Alu.rowL_congr f f' hf]
  exact h
/-- A new block of them. -/
theorem RowT.new (w : World) (E : TypeId) (f : Nat → Bool) : RowT (w.alloc (.cells (Alu.rowL f).toArray E)) E w.heap.size w.heap.size f :=
  World.ownsRow_lit w (Alu.rowL f).toArray 32 (base := w.heap.size) (e := E) (size := 1) (Nat.le_refl _) (by decide) (by simp [Alu.rowL_length])
theorem RowT.lt {w : World} {E : TypeId} {B g : Nat} {f : Nat → Bool} (h : RowT w E B g f) : B ≤ g ∧ g < w.heap.size := World.ownsRow.lt h g rfl
/-- The block itself. -/
theorem RowT.block {w : World} {E : TypeId} {B g : Nat} {f : Nat → Bool} (h : RowT w E B g f) : w.heap[g]? = some (.cells (Alu.rowL f).toArray E (0, 0)) := by
  rcases h.2 with ⟨hv, h0⟩ | ⟨g', cap', cur, hv, hb, hh, hf, hm, hcs, ht⟩
  · simp at hv
  · simp only [Value.slice.injEq, Option.some.injEq, Addr.mk.injEq] at hv
    obtain ⟨⟨rfl, _⟩, _, rfl⟩ := hv
    rw [hh]
    have e : cur.toList = Alu.rowL f := by
      have hl : cur.toList.length = 32 := by simpa using hcs
      have := ht
      simp at this
      rw [List.take_of_length_le (by omega)] at this
      exact this
    rw [← e]
/-- The whole array laid over the block. -/
theorem RowT.all {w : World} {E : TypeId} {B g : Nat} {f : Nat → Bool} (h : RowT w E B g f) (f' : Nat → Bool) : RowT (w.setRow g (Alu.rowL f').toArray) E B g f' := by
  have hb := h.block
  have hl := h.lt
  refine ⟨by simp [Alu.rowL_length], .inr ⟨g, 32, (Alu.rowL f').toArray, rfl, hl.1, setRow_heap w g _ _ E (0, 0) hb, Nat.le_refl _, by decide, by simp [Alu.rowL_length], ?_⟩⟩
  simp
  exact List.take_of_length_le (by rw [Alu.rowL_length]; omega)
theorem RowT.other {w : World} {E : TypeId} {B g g' : Nat} {f : Nat → Bool} (h : RowT w E B g f) (hg : g ≠ g') (cs : Array Value) : RowT (w.setRow g' cs) E B g f := by
  have hb := h.block
  have hl := h.lt
  refine ⟨by simp [Alu.rowL_length], .inr ⟨g, 32, (Alu.rowL f).toArray, rfl, hl.1, by rw [setRow_other w g' g cs hg]; exact hb, Nat.le_refl _, by decide, by simp [Alu.rowL_length], ?_⟩⟩
  simp
  exact List.take_of_length_le (by rw [Alu.rowL_length]; omega)
theorem RowT.otherCell {w : World} {E : TypeId} {B g g' i : Nat} {f : Nat → Bool} (h : RowT w E B g f) (hg : g ≠ g') (v : Value) : RowT (w.setCell ⟨g', i, none⟩ v) E B g f := by
  have hb := h.block
  have hl := h.lt
  refine ⟨by simp [Alu.rowL_length], .inr ⟨g, 32, (Alu.rowL f).toArray, rfl, hl.1, by rw [heap_setCell_other w ⟨g', i, none⟩ g v hg]; exact hb, Nat.le_refl _, by decide, by simp [Alu.rowL_length], ?_⟩⟩
  simp
  exact List.take_of_length_le (by rw [Alu.rowL_length]; omega)
theorem RowT.boxes (f : Nat → Bool) : (arrT f).cells = (Alu.rowL f).toArray := rfl
theorem arrT_congr (f f' : Nat → Bool) (hf : ∀ i, i < 32 → f i = f' i) : arrT f = arrT f' := by unfold arrT; rw [Alu.rowL_congr f f' hf]
/-- The whole array is read. -/
theorem RowT.load {w : World} {B g : Nat} {f : Nat → Bool} (h : RowT w 128 B g f) : (Instr.loadAt 128 (.pointer (some ⟨g, 0, none⟩))).run Tryz.prog w = .ok (arrT f) w := by
  simp only [Instr.loadAt, Instr.sureAddr, Sem.run_bind, Sem.run_pure, Result.andThen_ok]
  exact run_loadVar_row w g 128 128 _ (0, 0) _ h.block Tryz.underlying128 rfl (by rw [List.size_toArray, Alu.rowL_length]; kernel_rfl)
theorem arrT_one (f : Nat → Bool) : (Alu.rowL f).toArray.all (·.oneCell') = true := by
  simp [Alu.rowL, Value.oneCell']
/-- The whole array is written. -/
theorem RowT.store {w : World} {B g : Nat} {f : Nat → Bool} (h : RowT w 128 B g f) (f' : Nat → Bool) : (Instr.storeAt 128 (.pointer (some ⟨g, 0, none⟩)) (arrT f')).run Tryz.prog w = .ok () (w.setRow g (Alu.rowL f').toArray) := by
  simp only [Instr.storeAt, Instr.sureAddr, Sem.run_bind, Sem.run_pure, Result.andThen_ok, arrT]
  exact run_storeVar_row w g 128 128 _ _ h.block (by rw [List.size_toArray, Alu.rowL_length]; kernel_rfl) (by simp [Alu.rowL_length]) (arrT_one f')
/-- As the walk opens them. -/
theorem RowT.loadC {w : World} {E : TypeId} {B g : Nat} {f : Nat → Bool} (h : RowT w E B g f) : (loadCellsFrom ⟨g, 0, none⟩ 0 32 #[]).run Tryz.prog w = .ok (Alu.rowL f).toArray w := by
  have := run_loadCells_list (P := Tryz.prog) w ⟨g, 0, none⟩ (Alu.rowL f) (fun j v hv => by
    have hadd : (⟨g, 0, none⟩ : Addr).add j = ⟨g, j, none⟩ := by unfold Addr.add; split <;> simp_all
    rw [hadd, cell_of_row _ _ j _ E (0, 0) h.block]
    simpa using hv)
  simpa [loadCells, Alu.rowL_length] using this
theorem RowT.storeC {w : World} {E : TypeId} {B g : Nat} {f : Nat → Bool} (h : RowT w E B g f) (f' : Nat → Bool) : (storeCells ⟨g, 0, none⟩ (Alu.rowL f') 0).run Tryz.prog w = .ok () (w.setRow g (Alu.rowL f').toArray) := by
  have := run_storeVar_row (P := Tryz.prog) w g E 128 _ (Alu.rowL f').toArray h.block (by rw [List.size_toArray, Alu.rowL_length]; kernel_rfl) (by simp [Alu.rowL_length]) (arrT_one f')
  have hi : (Tryz.prog.info? 128).map (·.size) = some 32 := by kernel_rfl
  cases hq : Tryz.prog.info? 128 with
  | none => simp [hq] at hi
  | some i =>
    have hs : i.size = 32 := by simpa [hq] using hi
    simpa [storeVar, sizeOf, typeInfo, hq, Value.cells, hs, Alu.rowL_length] using this
theorem RowT.range {w : World} {E : TypeId} {B g : Nat} {f : Nat → Bool} (h : RowT w E B g f) : w.rangeAt g 0 (Alu.rowL f) := fun j v hv => by
  have := cell_of_row w g j _ E (0, 0) h.block
  rw [Nat.zero_add, this]
  simpa using hv
theorem infoT (f : Nat → Bool) : (Tryz.prog.info? 128).map (·.size) = some (Alu.rowL f).toArray.size := by rw [List.size_toArray, Alu.rowL_length]; kernel_rfl
theorem infoTL (f : Nat → Bool) : (Tryz.prog.info? 128).map (·.size) = some (Alu.rowL f).length := by rw [Alu.rowL_length]; kernel_rfl
theorem RowT.mono {w : World} {E : TypeId} {B B' g : Nat} {f : Nat → Bool} (h : RowT w E B g f) (hB : B' ≤ B) : RowT w E B' g f := wown_mono h hB
noncomputable def zT : Array Value := (Alu.rowL fun _ => false).toArray
theorem zvT (w : World) : (zeroValue 128).run Tryz.prog w = .ok (.agg zT) w := by kernel_rfl
theorem RowT.zero (w : World) : RowT (w.alloc (.cells zT 128)) 128 w.heap.size w.heap.size (fun _ => false) := RowT.new w _ _
end Go.Proofs.YtadikbmbadldpaaGreatDoor
namespace Go.Proofs.YtadikbmbadldpaaGreatDoor
open Go Go.RowKit
set_option linter.unusedVariables false

namespace Alu
theorem odd_bit (x : R) (k m : Nat) (hm : m = x.toNat / 2 ^ k) : ((m : Int) % 2 == 1) = x.getLsbD k := by
  rw [BitVec.getLsbD, Nat.testBit, Nat.shiftRight_eq_div_pow, ← hm, Nat.and_comm, Nat.and_one_is_mod]
  rcases Nat.mod_two_eq_zero_or_one m with e | e
  · have : ((m : Int) % 2 == 1) = false := by rw [beq_eq_false_iff_ne]; omega
    rw [this, e]; rfl
  · have : ((m : Int) % 2 == 1) = true := by rw [beq_iff_eq]; omega
    rw [this, e]; rfl
theorem half_bit (x : R) (k m : Nat) (hm : m = x.toNat / 2 ^ k) : m / 2 = x.toNat / 2 ^ (k + 1) := by
  rw [hm, Nat.div_div_eq_div_mul, Nat.pow_succ]
theorem top_zero (x : R) : x.toNat / 2 ^ 32 = 0 := Nat.div_eq_of_lt x.isLt
theorem double_bit (x : R) (k : Nat) : x.toNat / 2 ^ k = 2 * (x.toNat / 2 ^ (k + 1)) + (if x.getLsbD k then 1 else 0) := by
  have h := half_bit x k _ rfl
  have hb : x.getLsbD k = decide (x.toNat / 2 ^ k % 2 = 1) := by
    rw [BitVec.getLsbD, Nat.testBit, Nat.shiftRight_eq_div_pow, Nat.and_comm, Nat.and_one_is_mod]
    rcases Nat.mod_two_eq_zero_or_one (x.toNat / 2 ^ k) with e | e <;> rw [e] <;> rfl
  rw [← h, hb]
  by_cases e : x.toNat / 2 ^ k % 2 = 1
  · simp [e]; omega
  · simp [e]; omega
end Alu
/-- The row of a word, as a value. -/
def rowVB (x : BitVec 32) : Value := arrT fun i => x.getLsbD i
set_option maxRecDepth 100000 in
set_option maxHeartbeats 1000000 in
theorem ref_row (x : BitVec 32) (w : World) :
    Calls Tryz.prog 56 #[.int .u32 (x.toNat : Int)] w fun e w' => e = .returned (rowVB x) ∧ Below w.heap.size w w' := by
  have hzv := zvT
  have hx := Alu.lt32 x
  have hx0 : (0 : Int) ≤ (x.toNat : Int) := by omega
  go_enter Tryz.func56, Tryz.ntmps56
  go_wp2
  go_loopw [4, 5] (fun n i wr => ∃ k m : Nat, k ≤ 32 ∧ i = .int .i64 k ∧ n = .int .i64 m ∧ Kp (m = x.toNat / 2 ^ k) ∧ Kp (RowT wr 128 w.heap.size w.heap.size (fun _ => false)) ∧ Kp (RowT wr 128 w.heap.size (w.heap.size + 1) (fun i => if i < k then x.getLsbD i else false)) ∧ Kp (Below w.heap.size w wr)) (fun _ i _ => 32 - (intOf i).toNat)
  case atStart =>
    have b1 := (Below.refl w.heap.size w).alloc (Nat.le_refl _) (.cells zT 128)
    have h2 := ((RowT.zero (w.alloc (.cells zT 128))).mono b1.size).congr (f' := fun i => if i < 0 then x.getLsbD i else false) (fun i _ => by simp)
    rw [show (w.alloc (.cells zT 128)).heap.size = w.heap.size + 1 from Array.size_push _] at h2
    exact ⟨0, x.toNat, by omega, rfl, rfl, ⟨by simp⟩, ⟨(RowT.zero w).later ((Below.refl _ _).alloc (Nat.le_refl _) _)⟩, ⟨h2⟩, ⟨b1.alloc b1.size _⟩⟩
  case round =>
    clear hzv
    obtain ⟨k, m, hk, rfl, rfl, HM, HR, HS, HB⟩ := hrel
    by_cases hlt : k < 32
    · have hb : decide ((k : Int) < 32) = true := decide_eq_true (by omega)
      obtain ⟨c, hc⟩ : ∃ c, c = x.getLsbD k := ⟨_, rfl⟩
      have hodd := Alu.odd_bit x k m HM.out
      rw [← hc] at hodd
      obtain ⟨m2, hm2⟩ : ∃ m2, m2 = m / 2 := ⟨_, rfl⟩
      have hhalf : (m : Int) / 2 = (m2 : Int) := by omega
      have HM2 : Kp (m2 = x.toNat / 2 ^ (k + 1)) := ⟨by rw [hm2]; exact Alu.half_bit x k m HM.out⟩
      have hml : m < 4294967296 := by rw [HM.out]; exact Nat.lt_of_le_of_lt (Nat.div_le_self _ _) x.isLt
      have hm2l : (m2 : Int) < 4294967296 := by omega
      have hm2g : (0 : Int) ≤ (m2 : Int) := by omega
      have HC := Kp.mk hc
      have hc3 := HS.out.cell k hlt
      have hf3 := HS.out.frozen k
      clear hc hm2 hml
      go_wp2
      go_roundw
      case rel =>
        refine ⟨k + 1, m2, by omega, by go_num, rfl, HM2, ⟨HR.out.otherCell (by omega) _⟩, ⟨(HS.out.stored k c).congr (fun i hi => ?_)⟩, ⟨HB.out.setCell (p := ⟨w.heap.size + 1, k, none⟩) (Nat.le_succ _) _⟩⟩
        by_cases e : i = k
        · subst e; simp [HC.out]
        · have : (i < k + 1) ↔ (i < k) := by omega
          simp [e, this]
      case measure => simp [intOf]; omega
    · have : k = 32 := by omega
      subst this
      have HS1 : Kp (RowT wr 128 w.heap.size (w.heap.size + 1) (fun i => x.getLsbD i)) := ⟨HS.out.congr (fun i hi => by simp [hi])⟩
      go_wp2_with (first
        | (refine wpList_load_row rfl 128 _ rfl (w.heap.size + 1) rfl 128 (Alu.rowL fun i => x.getLsbD i).toArray (0, 0) _ HS1.out.block Tryz.underlying128 rfl (infoT _) ?_)
        | (refine wpList_store_row rfl 128 _ _ rfl w.heap.size (Alu.rowL fun i => x.getLsbD i).toArray rfl rfl 128 _ HR.out.block (infoT _) (by simp [Alu.rowL_length]) (arrT_one _) ?_))
      refine bodyPost_ret (results_cell_row (p := 2) (ty := 128) rfl _ _ w.heap.size 128 (Alu.rowL fun i => x.getLsbD i).toArray (0, 0) _ rfl (HR.out.all _).block Tryz.underlying128 rfl (infoT _)) rfl ?_
      exact ⟨rfl, below_setRow HB.out (Nat.le_refl _) _⟩
set_option maxRecDepth 100000 in
set_option maxHeartbeats 1000000 in
theorem ref_number (f : Nat → Bool) (x : BitVec 32) (w : World) (hf : ∀ i, i < 32 → f i = x.getLsbD i) :
    Calls Tryz.prog 60 #[arrT f] w fun e w' => e = .returned (.int .u32 (x.toNat : Int)) ∧ Below w.heap.size w w' := by
  have HF := Kp.mk hf
  have HR := Kp.mk (RowT.new w 128 f)
  have HB := Kp.mk ((Below.refl w.heap.size w).alloc (Nat.le_refl _) (.cells (Alu.rowL f).toArray 128))
  clear hf
  unfold arrT
  go_enter Tryz.func60, Tryz.ntmps60
  go_wp2
  go_loop [3, 4] (fun n i => ∃ j m : Nat, j ≤ 32 ∧ i = .int .i64 ((j : Int) - 1) ∧ n = .int .i64 m ∧ Kp (m = x.toNat / 2 ^ j)) (fun _ i => (intOf i + 1).toNat)
  case atStart => exact ⟨32, 0, by omega, by go_num, rfl, ⟨(Alu.top_zero x).symm⟩⟩
  case round =>
    obtain ⟨j, m, hj, rfl, rfl, HM⟩ := hrel
    by_cases h0 : j = 0
    · subst h0
      have hb0 : decide ((0 : Int) ≤ ((0 : Nat) : Int) - 1) = false := by decide
      have hm : m = x.toNat := by have := HM.out; simpa using this
      subst hm
      have hx := Alu.lt32 x
      have hcv : (x.toNat : Int) % 4294967296 = (x.toNat : Int) := by omega
      go_wp2
      go_ret
      exact ⟨rfl, HB.out⟩
    · obtain ⟨q, rfl⟩ : ∃ q, j = q + 1 := ⟨j - 1, by omega⟩
      have eq1 : ((q + 1 : Nat) : Int) - 1 = (q : Int) := by omega
      rw [eq1]
      have hb0 : decide ((0 : Int) ≤ (q : Int)) = true := decide_eq_true (by omega)
      have hq32 : q < 32 := by omega
      have hq0 : (0 : Int) ≤ (q : Int) := by omega
      have hqi : (q : Int) < 32 := by omega
      have hcell := HR.out.cell q hq32
      rw [HF.out q hq32] at hcell
      have hd := Alu.double_bit x q
      have hml : m ≤ 4294967296 := by rw [HM.out]; exact Nat.le_trans (Nat.div_le_self _ _) (by have := x.isLt; omega)
      have HQ := Kp.mk hq32
      rw [← HM.out] at hd
      clear h0 eq1
      cases hbit : x.getLsbD q
      · rw [hbit] at hcell hd
        obtain ⟨m2, hm2⟩ : ∃ m2, m2 = 2 * m := ⟨_, rfl⟩
        have h2 : 2 * (m : Int) = (m2 : Int) := by omega
        have HM2 : Kp (m2 = x.toNat / 2 ^ q) := ⟨by rw [hd, hm2]; simp⟩
        have HML := Kp.mk hml
        have hm2l : (m2 : Int) ≤ 8589934592 := by omega
        clear hd hbit hm2 hml
        go_wp2
        go_round
        case rel => exact ⟨q, m2, by have := HQ.out; omega, by go_num, rfl, HM2⟩
        case measure => simp [intOf] <;> omega
      · rw [hbit] at hcell hd
        obtain ⟨m2, hm2⟩ : ∃ m2, m2 = 2 * m := ⟨_, rfl⟩
        have h2 : 2 * (m : Int) = (m2 : Int) := by omega
        have HM2 : Kp (m2 + 1 = x.toNat / 2 ^ q) := ⟨by rw [hd, hm2]; simp⟩
        have hm2l : (m2 : Int) ≤ 8589934592 := by omega
        clear hd hbit hm2 hml
        go_wp2
        go_round
        case rel => exact ⟨q, m2 + 1, by have := HQ.out; omega, by go_num, by go_num, HM2⟩
        case measure => simp [intOf] <;> omega
end Go.Proofs.YtadikbmbadldpaaGreatDoor
namespace Go.Proofs.YtadikbmbadldpaaGreatDoor
namespace Alu
open Go

/-- The carry into bit i. -/
def car (x y : R) (k : Bool) (i : Nat) : Bool := BitVec.carry i x y k
theorem car_zero (x y : R) (k : Bool) : car x y k 0 = k := by unfold car; simp
theorem car_succ (x y : R) (k : Bool) (i : Nat) : car x y k (i + 1) = decide (1 < (if x.getLsbD i then 1 else 0) + (if y.getLsbD i then 1 else 0) + (if car x y k i then 1 else 0 : Nat)) := by
  unfold car
  rw [BitVec.carry_succ]
  cases x.getLsbD i <;> cases y.getLsbD i <;> cases BitVec.carry i x y k <;> rfl
theorem bool_cn (k : Bool) : k.toNat = cn k := by cases k <;> rfl
theorem car_end (x y : R) (k : Bool) : car x y k 32 = (adc x y k).2 := by
  unfold car BitVec.carry adc
  rw [Nat.mod_eq_of_lt x.isLt, Nat.mod_eq_of_lt y.isLt, bool_cn]
theorem adc_bit (x y : R) (k : Bool) (i : Nat) (hi : i < 32) : (adc x y k).1.getLsbD i = decide (((if x.getLsbD i then 1 else 0) + (if y.getLsbD i then 1 else 0) + (if car x y k i then 1 else 0 : Nat)) % 2 = 1) := by
  have e : (adc x y k).1 = x + y + BitVec.setWidth 32 (BitVec.ofBool k) := by
    apply BitVec.eq_of_toNat_eq
    have hk : (BitVec.setWidth 32 (BitVec.ofBool k)).toNat = cn k := by cases k <;> rfl
    rw [BitVec.toNat_add, BitVec.toNat_add, hk]
    simp only [adc, BitVec.toNat_ofNat]
    omega
  rw [e, BitVec.getLsbD_add_add_bool hi]
  unfold car
  cases x.getLsbD i <;> cases y.getLsbD i <;> cases BitVec.carry i x y k <;> rfl
/-- What is taken away. -/
theorem sub_adc (b c : R) (k : Bool) {s : R} {o : Bool} (h : s.toNat + c.toNat + cn k = b.toNat + 4294967296 * cn o) : s = (adc b (~~~c) (!k)).1 ∧ o = !(adc b (~~~c) (!k)).2 := by
  have hn := adc_nat b (~~~c) (!k)
  have hc : (~~~c).toNat = 4294967295 - c.toNat := by rw [BitVec.toNat_not]
  rw [hc] at hn
  have h1 := s.isLt
  have h2 := c.isLt
  have h3 := b.isLt
  have h4 := (adc b (~~~c) (!k)).1.isLt
  obtain ⟨q, hq⟩ : ∃ q, q = (adc b (~~~c) (!k)).2 := ⟨_, rfl⟩
  obtain ⟨z, hz⟩ : ∃ z, z = (adc b (~~~c) (!k)).1 := ⟨_, rfl⟩
  rw [← hq, ← hz] at hn
  rw [← hz] at h4
  rw [← hq, ← hz]
  have : s.toNat = z.toNat ∧ o = !q := by
    cases o <;> cases q <;> cases k <;> simp only [cn, if_true, Bool.false_eq_true, if_false, Bool.not_true, Bool.not_false] at h hn <;> first | exact ⟨by omega, rfl⟩ | (exfalso; omega)
  exact ⟨BitVec.eq_of_toNat_eq this.1, this.2⟩
/-- The product of the highest bits. -/
theorem mul_top (b : R) (c j : Nat) : (b.toNat / 2 ^ j) * c = 2 * (b.toNat / 2 ^ (j + 1) * c) + (if b.getLsbD j then c else 0) := by
  rw [double_bit b j, Nat.add_mul, Nat.mul_assoc]
  cases b.getLsbD j <;> simp
theorem mul_lt (b c : R) (j : Nat) : (b.toNat / 2 ^ j) * c.toNat ≤ 18446744065119617025 := by
  have h1 : b.toNat / 2 ^ j ≤ 4294967295 := Nat.le_trans (Nat.div_le_self _ _) (by have := b.isLt; omega)
  have h2 : c.toNat ≤ 4294967295 := by have := c.isLt; omega
  exact Nat.mul_le_mul h1 h2
/-- The highest bits of two words. -/
def topV (h : Nat) (l : R) (j : Nat) : Nat := h * 2 ^ (32 - j) + l.toNat / 2 ^ j
theorem topV_start (h : Nat) (l : R) : topV h l 32 = h := by
  unfold topV
  rw [top_zero, Nat.sub_self, Nat.pow_zero, Nat.mul_one, Nat.add_zero]
theorem topV_end (h : Nat) (l : R) : topV h l 0 = h * 4294967296 + l.toNat := by
  unfold topV
  rw [Nat.pow_zero, Nat.div_one]
theorem topV_step (h : Nat) (l : R) (j : Nat) (hj : j < 32) : topV h l j = 2 * topV h l (j + 1) + (if l.getLsbD j then 1 else 0) := by
  unfold topV
  rw [double_bit l j, show 32 - j = (32 - (j + 1)) + 1 by omega, Nat.pow_succ]
  have : h * (2 ^ (32 - (j + 1)) * 2) = 2 * (h * 2 ^ (32 - (j + 1))) := by rw [← Nat.mul_assoc, Nat.mul_comm]
  omega
theorem topV_lt (h c : Nat) (l : R) (j : Nat) (hj : j ≤ 32) (hc : h < c) : topV h l j < c * 2 ^ (32 - j) := by
  unfold topV
  have h1 : l.toNat / 2 ^ j < 2 ^ (32 - j) := by
    rw [Nat.div_lt_iff_lt_mul (Nat.pow_pos (by omega)), ← Nat.pow_add, show 32 - j + j = 32 by omega]
    exact l.isLt
  have h2 : (h + 1) * 2 ^ (32 - j) ≤ c * 2 ^ (32 - j) := Nat.mul_le_mul_right _ hc
  rw [Nat.add_mul, Nat.one_mul] at h2
  omega
theorem quot_lt (h c q r : Nat) (l : R) (j : Nat) (hj : j ≤ 32) (hc : h < c) (hq : q * c + r = topV h l j) : q < 2 ^ (32 - j) := by
  have h1 := topV_lt h c l j hj hc
  apply Classical.byContradiction
  intro hn
  have h2 : 2 ^ (32 - j) * c ≤ q * c := Nat.mul_le_mul_right _ (by omega)
  rw [Nat.mul_comm] at h2
  omega
theorem quot_unique (c q r q2 r2 : Nat) (h1 : r < c) (h2 : r2 < c) (h : q * c + r = q2 * c + r2) : q = q2 ∧ r = r2 := by
  have e1 : (q * c + r) / c = q := by rw [Nat.add_comm, Nat.add_mul_div_right _ _ (by omega), Nat.div_eq_of_lt h1, Nat.zero_add]
  have e2 : (q2 * c + r2) / c = q2 := by rw [Nat.add_comm, Nat.add_mul_div_right _ _ (by omega), Nat.div_eq_of_lt h2, Nat.zero_add]
  have : q = q2 := by rw [← e1, ← e2, h]
  subst this
  exact ⟨rfl, by omega⟩
/-- The bit that comes to place j. -/
theorem turn_row (x : R) (m j : Nat) (hm : m < 32) (hj : j < 32) : x.getLsbD ((j + 32 - m) % 32) = (x.rotateLeft m).getLsbD j := by
  rw [BitVec.getLsbD_rotateLeft, Nat.mod_eq_of_lt hm]
  by_cases h : j < m
  · simp only [h, decide_true, cond_true]
    congr 1
    omega
  · simp only [h, decide_false, cond_false, hj, decide_true, Bool.true_and]
    congr 1
    omega
theorem turn_place (i m j : Nat) (hi : i < 32) (hm : m < 32) (hj : j < 32) : j = (i + m) % 32 ↔ (j + 32 - m) % 32 = i := by omega
/-- The highest bits are 0. -/
theorem lead_none (x : R) (k : Nat) (hk : k ≤ 32) (h : ∀ i, i < k → x.getLsbD (31 - i) = false) (hb : k < 32 → x.getLsbD (31 - k) = true) : (32 : Int) - (Lib.bitLen x.toNat : Int) = (k : Int) := by
  by_cases h0 : x.toNat = 0
  · have hx : x = 0#32 := BitVec.eq_of_toNat_eq h0
    have : k = 32 := by
      apply Classical.byContradiction
      intro hn
      have := hb (by omega)
      rw [hx] at this
      simp at this
    rw [h0, this]
    decide
  · obtain ⟨t1, t2⟩ := bitLen_top x.toNat h0 x.isLt
    have hk32 : k < 32 := by
      apply Classical.byContradiction
      intro hn
      apply h0
      have : x = 0#32 := by
        apply BitVec.eq_of_getLsbD_eq
        intro i hi
        have := h (31 - i) (by omega)
        rw [show 31 - (31 - i) = i by omega] at this
        rw [this]; simp
      rw [this]; rfl
    have hx := x.isLt
    -- the highest bit lies at 31 - k
    have hlt : x.toNat < 2 ^ (32 - k) := by
      apply Nat.lt_pow_two_of_testBit
      intro i hi
      by_cases c : i < 32
      · have := h (31 - i) (by omega)
        rw [show 31 - (31 - i) = i by omega] at this
        exact this
      · exact BitVec.getLsbD_of_ge x i (by omega)
    have hge : 2 ^ (31 - k) ≤ x.toNat := Nat.ge_two_pow_of_testBit (hb hk32)
    obtain ⟨L, hL⟩ : ∃ L, L = Lib.bitLen x.toNat := ⟨_, rfl⟩
    rw [← hL] at t1 t2 ⊢
    have a1 : 2 ^ (L - 1) ≤ x.toNat := by
      have := Nat.div_mul_le_self x.toNat (2 ^ (L - 1))
      rw [t1] at this
      omega
    have a2 : x.toNat < 2 ^ L := by
      have h3 := Nat.lt_mul_div_succ x.toNat (Nat.pow_pos (n := L - 1) (show 0 < 2 by omega))
      rw [t1] at h3
      have h4 : 2 ^ L = 2 ^ (L - 1) * 2 := by rw [← Nat.pow_succ]; congr 1; omega
      omega
    have b1 : 31 - k < L := by
      apply Classical.byContradiction
      intro hn
      have : 2 ^ L ≤ 2 ^ (31 - k) := Nat.pow_le_pow_right (by omega) (by omega)
      omega
    have b2 : L - 1 < 32 - k := by
      apply Classical.byContradiction
      intro hn
      have : 2 ^ (32 - k) ≤ 2 ^ (L - 1) := Nat.pow_le_pow_right (by omega) (by omega)
      omega
    omega
end Alu
end Go.Proofs.YtadikbmbadldpaaGreatDoor
namespace Go.Proofs.YtadikbmbadldpaaGreatDoor
namespace Alu
open Go
theorem adc_add (b c : R) : (adc b c false).1 = b + c := by
  apply BitVec.eq_of_toNat_eq
  simp [adc, cn, BitVec.toNat_add]
theorem adc_sub (b c : R) : (adc b (~~~c) true).1 = b - c := by
  apply BitVec.eq_of_toNat_eq
  have h1 := b.isLt
  have h2 := c.isLt
  simp only [adc, BitVec.toNat_ofNat, BitVec.toNat_not, BitVec.toNat_sub, cn, if_true]
  omega
theorem adc_neg (c : R) : (adc 0#32 (~~~c) true).1 = -c := by rw [adc_sub, BitVec.zero_sub]
/-- Without its sign. -/
def mag (x : R) : R := if x.toInt < 0 then -x else x
theorem mag_int (x : R) : x.toInt = if x.toInt < 0 then -((mag x).toNat : Int) else ((mag x).toNat : Int) := by
  have h := x.isLt
  by_cases c : x.toInt < 0
  · rw [if_pos c]
    unfold mag
    rw [if_pos c]
    rw [BitVec.toInt_eq_toNat_cond] at c ⊢
    by_cases d : 2 * x.toNat < 2 ^ 32
    · rw [if_pos d] at c; omega
    · rw [if_neg d] at c ⊢
      rw [BitVec.toNat_neg]
      omega
  · rw [if_neg c]
    unfold mag
    rw [if_neg c]
    rw [BitVec.toInt_eq_toNat_cond] at c ⊢
    by_cases d : 2 * x.toNat < 2 ^ 32
    · rw [if_pos d]
    · rw [if_neg d] at c; omega
theorem mag_zero (x : R) (h : x ≠ 0#32) : mag x ≠ 0#32 := by
  intro e
  apply h
  unfold mag at e
  by_cases c : x.toInt < 0
  · rw [if_pos c] at e
    have : -(-x) = -(0#32) := by rw [e]
    rw [BitVec.neg_neg, BitVec.neg_zero] at this
    exact this
  · rwa [if_neg c] at e
theorem ofInt_nat (n : Nat) : BitVec.ofInt 32 (n : Int) = BitVec.ofNat 32 n := BitVec.ofInt_natCast 32 n
theorem sdiv_mag (b c : R) : BitVec.ofInt 32 (b.toInt.tdiv c.toInt) = if (decide (b.toInt < 0) != decide (c.toInt < 0)) = true then -(BitVec.ofNat 32 ((mag b).toNat / (mag c).toNat)) else BitVec.ofNat 32 ((mag b).toNat / (mag c).toNat) := by
  have h1 := mag_int b
  have h2 := mag_int c
  obtain ⟨m, hm⟩ : ∃ m, m = (mag b).toNat := ⟨_, rfl⟩
  obtain ⟨n, hn⟩ : ∃ n, n = (mag c).toNat := ⟨_, rfl⟩
  rw [← hm] at h1 ⊢
  rw [← hn] at h2 ⊢
  by_cases p : b.toInt < 0 <;> by_cases q : c.toInt < 0
  · rw [if_pos p] at h1; rw [if_pos q] at h2
    rw [decide_eq_true p, decide_eq_true q, h1, h2, Int.neg_tdiv, Int.tdiv_neg, Int.neg_neg, ← Int.ofNat_tdiv, ofInt_nat]
    rfl
  · rw [if_pos p] at h1; rw [if_neg q] at h2
    rw [decide_eq_true p, decide_eq_false q, h1, h2, Int.neg_tdiv, ← Int.ofNat_tdiv, BitVec.ofInt_neg, ofInt_nat]
    rfl
  · rw [if_neg p] at h1; rw [if_pos q] at h2
    rw [decide_eq_false p, decide_eq_true q, h1, h2, Int.tdiv_neg, ← Int.ofNat_tdiv, BitVec.ofInt_neg, ofInt_nat]
    rfl
  · rw [if_neg p] at h1; rw [if_neg q] at h2
    rw [decide_eq_false p, decide_eq_false q, h1, h2, ← Int.ofNat_tdiv, ofInt_nat]
    rfl
theorem smod_mag (b c : R) : BitVec.ofInt 32 (b.toInt.tmod c.toInt) = if decide (b.toInt < 0) = true then -(BitVec.ofNat 32 ((mag b).toNat % (mag c).toNat)) else BitVec.ofNat 32 ((mag b).toNat % (mag c).toNat) := by
  have h1 := mag_int b
  have h2 := mag_int c
  obtain ⟨m, hm⟩ : ∃ m, m = (mag b).toNat := ⟨_, rfl⟩
  obtain ⟨n, hn⟩ : ∃ n, n = (mag c).toNat := ⟨_, rfl⟩
  rw [← hm] at h1 ⊢
  rw [← hn] at h2 ⊢
  by_cases p : b.toInt < 0 <;> by_cases q : c.toInt < 0
  · rw [if_pos p] at h1; rw [if_pos q] at h2
    rw [decide_eq_true p, h1, h2, Int.neg_tmod, Int.tmod_neg, ← Int.ofNat_tmod, BitVec.ofInt_neg, ofInt_nat]
    rfl
  · rw [if_pos p] at h1; rw [if_neg q] at h2
    rw [decide_eq_true p, h1, h2, Int.neg_tmod, ← Int.ofNat_tmod, BitVec.ofInt_neg, ofInt_nat]
    rfl
  · rw [if_neg p] at h1; rw [if_pos q] at h2
    rw [decide_eq_false p, h1, h2, Int.tmod_neg, ← Int.ofNat_tmod, ofInt_nat]
    rfl
  · rw [if_neg p] at h1; rw [if_neg q] at h2
    rw [decide_eq_false p, h1, h2, ← Int.ofNat_tmod, ofInt_nat]
    rfl
/-- A row moved. -/
def moved (f : Nat → Bool) (n : Int) (fill : Bool) (i : Nat) : Bool := if 0 ≤ (i : Int) - n ∧ (i : Int) - n < 32 then f ((i : Int) - n).toNat else fill
theorem moved_shl (b : R) (s i : Nat) (hi : i < 32) : moved (fun i => b.getLsbD i) s false i = (b <<< s).getLsbD i := by
  unfold moved
  rw [BitVec.getLsbD_shiftLeft]
  by_cases h : s ≤ i
  · rw [if_pos (by omega)]
    have e : ((i : Int) - (s : Int)).toNat = i - s := by omega
    have h2 : ¬ i < s := by omega
    rw [e]; simp [hi, h2]
  · rw [if_neg (by omega)]
    have h2 : i < s := by omega
    simp [h2]
theorem moved_shr (b : R) (s i : Nat) (hi : i < 32) : moved (fun i => b.getLsbD i) (-(s : Int)) false i = (b >>> s).getLsbD i := by
  unfold moved
  rw [BitVec.getLsbD_ushiftRight]
  by_cases h : s + i < 32
  · rw [if_pos (by omega)]
    have e : ((i : Int) - -(s : Int)).toNat = s + i := by omega
    rw [e]
  · rw [if_neg (by omega)]
    exact (BitVec.getLsbD_of_ge b (s + i) (by omega)).symm
theorem moved_sar (b : R) (s i : Nat) (hi : i < 32) : moved (fun i => b.getLsbD i) (-(s : Int)) (b.getLsbD 31) i = (b.sshiftRight s).getLsbD i := by
  unfold moved
  rw [BitVec.getLsbD_sshiftRight]
  have h32 : ¬ (32 ≤ i) := by omega
  by_cases h : s + i < 32
  · rw [if_pos (by omega)]
    have e : ((i : Int) - -(s : Int)).toNat = s + i := by omega
    rw [e]; simp [h32, h]
  · rw [if_neg (by omega)]
    simp only [h32, decide_false, Bool.not_false, Bool.true_and, h, if_false]
    rw [BitVec.msb_eq_getLsbD_last]
/-- Bit by bit. -/
def logicW (op : Nat) (b c : R) : R := if op = 3 then b &&& c else if op = 4 then b ||| c else b ^^^ c
theorem udiv_of {q c r b : R} (h : q.toNat * c.toNat + r.toNat = (0#32 : R).toNat * 4294967296 + b.toNat) (hr : r.toNat < c.toNat) : q = b / c ∧ r = b % c := by
  have h0 : (0#32 : R).toNat = 0 := rfl
  rw [h0, Nat.zero_mul, Nat.zero_add] at h
  have e := Nat.div_add_mod' b.toNat c.toNat
  obtain ⟨a1, a2⟩ := quot_unique c.toNat q.toNat r.toNat _ _ hr (Nat.mod_lt _ (by omega)) (h.trans e.symm)
  exact ⟨BitVec.eq_of_toNat_eq (by rw [a1, BitVec.toNat_udiv]), BitVec.eq_of_toNat_eq (by rw [a2, BitVec.toNat_umod])⟩
theorem udiv_nat (b c : R) : b / c = BitVec.ofNat 32 (b.toNat / c.toNat) := by
  apply BitVec.eq_of_toNat_eq
  rw [BitVec.toNat_udiv, BitVec.toNat_ofNat, Nat.mod_eq_of_lt (Nat.lt_of_le_of_lt (Nat.div_le_self _ _) b.isLt)]
theorem umod_nat (b c : R) : b % c = BitVec.ofNat 32 (b.toNat % c.toNat) := by
  apply BitVec.eq_of_toNat_eq
  rw [BitVec.toNat_umod, BitVec.toNat_ofNat, Nat.mod_eq_of_lt (Nat.lt_of_le_of_lt (Nat.mod_le _ _) b.isLt)]
theorem lo_mul {h l b c : R} (e : h.toNat * 4294967296 + l.toNat = b.toNat * c.toNat) : l = b * c := by
  apply BitVec.eq_of_toNat_eq
  rw [BitVec.toNat_mul, ← e]
  have := l.isLt
  omega
end Alu
end Go.Proofs.YtadikbmbadldpaaGreatDoor
namespace Go.Proofs.YtadikbmbadldpaaGreatDoor
open Go Go.RowKit
set_option linter.unusedVariables false

/-- A result that lies in a block, and one that doesn't. -/
theorem results_cell_tmp {fn : Func} {p q : Tmp} {ty : TypeId} (h : fn.results = #[.cell p ty, .tmp q]) (tmps : Array Value) (w : World) (g : Nat) (t : TypeId) (cs : Array Value) (fr : Nat × Nat) (n : Nat) (el : TypeId)
    (hp : tmps.getD p undef = .pointer (some ⟨g, 0, none⟩)) (hg : w.heap[g]? = some (.cells cs t fr))
    (hu : Tryz.prog.underlying ty = some (.array n el)) (hi : (Tryz.prog.info? ty).map (·.size) = some cs.size) :
    (results fn tmps).run Tryz.prog w = .ok (.tuple #[.agg cs, tmps.getD q undef]) w := by
  have hp' : tmps[p]?.getD undef = .pointer (some ⟨g, 0, none⟩) := by simpa using hp
  simp [results, h, hp', asAddr, run_loadVar_row w g t ty cs fr _ hg hu rfl hi]
set_option maxRecDepth 100000 in
set_option maxHeartbeats 4000000 in
theorem ref_add (f g : Nat → Bool) (x y : BitVec 32) (k : Bool) (w : World) (hf : ∀ i, i < 32 → f i = x.getLsbD i) (hg : ∀ i, i < 32 → g i = y.getLsbD i) :
    Calls Tryz.prog 79 #[arrT f, arrT g, .bool k] w fun e w' => e = .returned (.tuple #[rowVB (Alu.adc x y k).1, .bool (Alu.adc x y k).2]) ∧ Below w.heap.size w w' := by
  have HF := Kp.mk hf
  have HG := Kp.mk hg
  have hzv := zvT
  obtain ⟨w1, hw1⟩ : ∃ w1, w1 = w.alloc (.cells (Alu.rowL f).toArray 128) := ⟨_, rfl⟩
  obtain ⟨w2, hw2⟩ : ∃ w2, w2 = w1.alloc (.cells (Alu.rowL g).toArray 128) := ⟨_, rfl⟩
  obtain ⟨w3, hw3⟩ : ∃ w3, w3 = w2.alloc (.cells zT 128) := ⟨_, rfl⟩
  obtain ⟨w4, hw4⟩ : ∃ w4, w4 = w3.alloc (.cells zT 128) := ⟨_, rfl⟩
  have s1 : w1.heap.size = w.heap.size + 1 := by rw [hw1]; exact Array.size_push _
  have s2 : w2.heap.size = w.heap.size + 2 := by rw [hw2]; exact (Array.size_push _).trans (by rw [s1])
  have s3 : w3.heap.size = w.heap.size + 3 := by rw [hw3]; exact (Array.size_push _).trans (by rw [s2])
  have b1 : Below w.heap.size w w1 := by rw [hw1]; exact (Below.refl _ _).alloc (Nat.le_refl _) _
  have b2 : Below w.heap.size w w2 := by rw [hw2]; exact b1.alloc b1.size _
  have b3 : Below w.heap.size w w3 := by rw [hw3]; exact b2.alloc b2.size _
  have b4 : Below w.heap.size w w4 := by rw [hw4]; exact b3.alloc b3.size _
  have c12 : Below w1.heap.size w1 w2 := by rw [hw2]; exact (Below.refl _ _).alloc (Nat.le_refl _) _
  have c23 : Below w2.heap.size w2 w3 := by rw [hw3]; exact (Below.refl _ _).alloc (Nat.le_refl _) _
  have c34 : Below w3.heap.size w3 w4 := by rw [hw4]; exact (Below.refl _ _).alloc (Nat.le_refl _) _
  have HX : Kp (RowT w4 128 w.heap.size w.heap.size f) := ⟨by
    have h : RowT w1 128 w.heap.size w.heap.size f := by rw [hw1]; exact RowT.new w _ f
    exact ((h.later c12).later c23).later c34⟩
  have HY : Kp (RowT w4 128 w.heap.size (w.heap.size + 1) g) := ⟨by
    have h : RowT w2 128 w1.heap.size w1.heap.size g := by rw [hw2]; exact RowT.new w1 _ g
    have h2 := ((h.mono b1.size).later c23).later c34
    rwa [s1] at h2⟩
  have HR : Kp (RowT w4 128 w.heap.size (w.heap.size + 2) (fun _ => false)) := ⟨by
    have h : RowT w3 128 w2.heap.size w2.heap.size (fun _ => false) := by rw [hw3]; exact RowT.zero w2
    have h2 := (h.mono b2.size).later c34
    rwa [s2] at h2⟩
  have HS : Kp (RowT w4 128 w.heap.size (w.heap.size + 3) (fun _ => false)) := ⟨by
    have h : RowT w4 128 w3.heap.size w3.heap.size (fun _ => false) := by rw [hw4]; exact RowT.zero w3
    have h2 := h.mono b3.size
    rwa [s3] at h2⟩
  have HB := Kp.mk b4
  have HW : Kp (w4 = (((w.alloc (.cells (Alu.rowL f).toArray 128)).alloc (.cells (Alu.rowL g).toArray 128)).alloc (.cells zT 128)).alloc (.cells zT 128)) := ⟨by rw [hw4, hw3, hw2, hw1]⟩
  clear hw1 hw2 hw3 hw4 s1 s2 s3 b1 b2 b3 b4 c12 c23 c34 hf hg
  obtain ⟨Z, hZ⟩ : ∃ Z, Z = (Alu.adc x y k).1 := ⟨_, rfl⟩
  have HZ := Kp.mk hZ
  unfold arrT
  go_enter Tryz.func79, Tryz.ntmps79
  go_wp2
  rw [← HW.out]
  go_loopw [2, 9] (fun c i wr => ∃ j : Nat, j ≤ 32 ∧ i = .int .i64 j ∧ c = .bool (Alu.car x y k j) ∧ Kp (RowT wr 128 w.heap.size w.heap.size f) ∧ Kp (RowT wr 128 w.heap.size (w.heap.size + 1) g) ∧ Kp (RowT wr 128 w.heap.size (w.heap.size + 2) (fun _ => false)) ∧ Kp (RowT wr 128 w.heap.size (w.heap.size + 3) (fun i => if i < j then (Alu.adc x y k).1.getLsbD i else false)) ∧ Kp (Below w.heap.size w wr)) (fun _ i _ => 32 - (intOf i).toNat)
  case atStart => exact ⟨0, by omega, rfl, by rw [Alu.car_zero], HX, HY, HR, ⟨HS.out.congr (fun i _ => by simp)⟩, HB⟩
  case round =>
    clear hzv
    obtain ⟨j, hj, rfl, rfl, HX, HY, HR, HS, HB⟩ := hrel
    by_cases hlt : j < 32
    · have hb : decide ((j : Int) < 32) = true := decide_eq_true (by omega)
      have hx1 := HX.out.cell j hlt
      rw [HF.out j hlt] at hx1
      have hy1 := HY.out.cell j hlt
      rw [HG.out j hlt] at hy1
      have hs1 := HS.out.cell j hlt
      have hs2 := HS.out.frozen j
      have hbit := Alu.adc_bit x y k j hlt
      have hcar := Alu.car_succ x y k j
      obtain ⟨cx, hcx⟩ : ∃ cx, cx = x.getLsbD j := ⟨_, rfl⟩
      obtain ⟨cy, hcy⟩ : ∃ cy, cy = y.getLsbD j := ⟨_, rfl⟩
      obtain ⟨cc, hcc⟩ : ∃ cc, cc = Alu.car x y k j := ⟨_, rfl⟩
      rw [← hcx] at hx1
      rw [← hcy] at hy1
      rw [← hcx, ← hcy, ← hcc] at hbit hcar
      rw [← hcc]
      obtain ⟨d, hd⟩ : ∃ d, d = decide (((if cx then 1 else 0) + (if cy then 1 else 0) + (if cc then 1 else 0 : Nat)) % 2 = 1) := ⟨_, rfl⟩
      obtain ⟨o, ho⟩ : ∃ o, o = decide (1 < (if cx then 1 else 0) + (if cy then 1 else 0) + (if cc then 1 else 0 : Nat)) := ⟨_, rfl⟩
      rw [← hd] at hbit
      rw [← ho] at hcar
      have HBIT := Kp.mk hbit
      have HCAR := Kp.mk hcar
      clear hcx hcy hcc hbit hcar hZ
      cases cx <;> cases cy <;> cases cc
      all_goals (
        have hd' : d = _ := hd.trans (by first | exact (rfl : _ = true) | exact (rfl : _ = false))
        have ho' : o = _ := ho.trans (by first | exact (rfl : _ = true) | exact (rfl : _ = false))
        subst hd'
        subst ho'
        clear hd ho
        go_wp2
        go_roundw
        case rel =>
          refine ⟨j + 1, (by omega), (by go_num), (by rw [HCAR.out]), ⟨HX.out.otherCell (by omega) _⟩, ⟨HY.out.otherCell (by omega) _⟩, ⟨HR.out.otherCell (by omega) _⟩, ⟨(HS.out.stored j _).congr (fun i hi => ?_)⟩, ⟨HB.out.setCell (p := ⟨w.heap.size + 3, j, none⟩) (Nat.le_add_right _ _) _⟩⟩
          by_cases e : i = j
          · subst e; simp [HBIT.out]
          · have : (i < j + 1) ↔ (i < j) := by omega
            simp [e, this]
        case measure => simp [intOf]; omega)
    · have : j = 32 := by omega
      subst this
      have HS1 : Kp (RowT wr 128 w.heap.size (w.heap.size + 3) (fun i => Z.getLsbD i)) := ⟨HS.out.congr (fun i hi => by simp [hi, HZ.out])⟩
      have hce := Alu.car_end x y k
      obtain ⟨o, ho⟩ : ∃ o, o = (Alu.adc x y k).2 := ⟨_, rfl⟩
      rw [hce, ← ho]
      have HO := Kp.mk ho
      clear hce ho hZ
      go_wp2_with (first
        | (refine wpList_load_row rfl 128 _ rfl (w.heap.size + 3) rfl 128 (Alu.rowL fun i => Z.getLsbD i).toArray (0, 0) _ HS1.out.block Tryz.underlying128 rfl (infoT _) ?_)
        | (refine wpList_store_row rfl 128 _ _ rfl (w.heap.size + 2) (Alu.rowL fun i => Z.getLsbD i).toArray rfl rfl 128 _ HR.out.block (infoT _) (by simp [Alu.rowL_length]) (arrT_one _) ?_))
      refine bodyPost_ret (results_cell_tmp (p := 6) (q := 7) (ty := 128) rfl _ _ (w.heap.size + 2) 128 (Alu.rowL fun i => Z.getLsbD i).toArray (0, 0) _ _ rfl (HR.out.all _).block Tryz.underlying128 (infoT _)) rfl ?_
      exact ⟨by rw [← HO.out, ← HZ.out]; rfl, below_setRow HB.out (Nat.le_add_right _ _) _⟩
end Go.Proofs.YtadikbmbadldpaaGreatDoor
namespace Go.Proofs.YtadikbmbadldpaaGreatDoor
open Go Go.RowKit
set_option linter.unusedVariables false

/-- A new row, stored whole: what is known behind it. -/
theorem row_laid {w w1 : World} (hb : Below w.heap.size w w1) (f : Nat → Bool) :
    RowT ((w1.alloc (.cells zT 128)).setRow w1.heap.size (Alu.rowL f).toArray) 128 w.heap.size w1.heap.size f ∧ Below w.heap.size w ((w1.alloc (.cells zT 128)).setRow w1.heap.size (Alu.rowL f).toArray) :=
  ⟨((RowT.zero w1).mono hb.size).all f, below_setRow (hb.alloc hb.size _) hb.size _⟩
set_option maxRecDepth 100000 in
set_option maxHeartbeats 4000000 in
theorem ref_turned (f : Nat → Bool) (y : BitVec 32) (w : World) (hf : ∀ i, i < 32 → f i = y.getLsbD i) :
    Calls Tryz.prog 80 #[arrT f] w fun e w' => e = .returned (rowVB (~~~y)) ∧ Below w.heap.size w w' := by
  have HF := Kp.mk hf
  have hzv := zvT
  obtain ⟨w1, hw1⟩ : ∃ w1, w1 = w.alloc (.cells (Alu.rowL f).toArray 128) := ⟨_, rfl⟩
  obtain ⟨w2, hw2⟩ : ∃ w2, w2 = w1.alloc (.cells zT 128) := ⟨_, rfl⟩
  obtain ⟨w3, hw3⟩ : ∃ w3, w3 = w2.alloc (.cells zT 128) := ⟨_, rfl⟩
  have s1 : w1.heap.size = w.heap.size + 1 := by rw [hw1]; exact Array.size_push _
  have s2 : w2.heap.size = w.heap.size + 2 := by rw [hw2]; exact (Array.size_push _).trans (by rw [s1])
  have b1 : Below w.heap.size w w1 := by rw [hw1]; exact (Below.refl _ _).alloc (Nat.le_refl _) _
  have b2 : Below w.heap.size w w2 := by rw [hw2]; exact b1.alloc b1.size _
  have b3 : Below w.heap.size w w3 := by rw [hw3]; exact b2.alloc b2.size _
  have c12 : Below w1.heap.size w1 w2 := by rw [hw2]; exact (Below.refl _ _).alloc (Nat.le_refl _) _
  have c23 : Below w2.heap.size w2 w3 := by rw [hw3]; exact (Below.refl _ _).alloc (Nat.le_refl _) _
  have HX : Kp (RowT w3 128 w.heap.size w.heap.size f) := ⟨by
    have h : RowT w1 128 w.heap.size w.heap.size f := by rw [hw1]; exact RowT.new w _ f
    exact (h.later c12).later c23⟩
  have HR : Kp (RowT w3 128 w.heap.size (w.heap.size + 1) (fun _ => false)) := ⟨by
    have h : RowT w2 128 w1.heap.size w1.heap.size (fun _ => false) := by rw [hw2]; exact RowT.zero w1
    have h2 := (h.mono b1.size).later c23
    rwa [s1] at h2⟩
  have HS : Kp (RowT w3 128 w.heap.size (w.heap.size + 2) (fun _ => false)) := ⟨by
    have h : RowT w3 128 w2.heap.size w2.heap.size (fun _ => false) := by rw [hw3]; exact RowT.zero w2
    have h2 := h.mono b2.size
    rwa [s2] at h2⟩
  have HB := Kp.mk b3
  have HW : Kp (w3 = ((w.alloc (.cells (Alu.rowL f).toArray 128)).alloc (.cells zT 128)).alloc (.cells zT 128)) := ⟨by rw [hw3, hw2, hw1]⟩
  clear hw1 hw2 hw3 s1 s2 b1 b2 b3 c12 c23 hf
  obtain ⟨Z, hZ⟩ : ∃ Z, Z = ~~~y := ⟨_, rfl⟩
  have HZ : Kp (∀ i, i < 32 → Z.getLsbD i = !(y.getLsbD i)) := ⟨fun i hi => by rw [hZ, BitVec.getLsbD_not]; simp [hi]⟩
  rw [← hZ]
  clear hZ
  unfold arrT
  go_enter Tryz.func80, Tryz.ntmps80
  go_wp2
  rw [← HW.out]
  go_loopw [4] (fun i wr => ∃ j : Nat, j ≤ 32 ∧ i = .int .i64 j ∧ Kp (RowT wr 128 w.heap.size w.heap.size f) ∧ Kp (RowT wr 128 w.heap.size (w.heap.size + 1) (fun _ => false)) ∧ Kp (RowT wr 128 w.heap.size (w.heap.size + 2) (fun i => if i < j then Z.getLsbD i else false)) ∧ Kp (Below w.heap.size w wr)) (fun i _ => 32 - (intOf i).toNat)
  case atStart => exact ⟨0, by omega, rfl, HX, HR, ⟨HS.out.congr (fun i _ => by simp)⟩, HB⟩
  case round =>
    clear hzv
    obtain ⟨j, hj, rfl, HX, HR, HS, HB⟩ := hrel
    by_cases hlt : j < 32
    · have hb : decide ((j : Int) < 32) = true := decide_eq_true (by omega)
      have hx1 := HX.out.cell j hlt
      obtain ⟨c, hc⟩ : ∃ c, c = f j := ⟨_, rfl⟩
      rw [← hc] at hx1
      have hs1 := HS.out.cell j hlt
      have hs2 := HS.out.frozen j
      have HC : Kp (Z.getLsbD j = !c) := ⟨by rw [HZ.out j hlt, hc, HF.out j hlt]⟩
      clear hc
      go_wp2
      go_roundw
      case rel =>
        refine ⟨j + 1, by omega, by go_num, ⟨HX.out.otherCell (by omega) _⟩, ⟨HR.out.otherCell (by omega) _⟩, ⟨(HS.out.stored j (!c)).congr (fun i hi => ?_)⟩, ⟨HB.out.setCell (p := ⟨w.heap.size + 2, j, none⟩) (Nat.le_add_right _ _) _⟩⟩
        by_cases e : i = j
        · subst e; simp [HC.out]
        · have : (i < j + 1) ↔ (i < j) := by omega
          simp [e, this]
      case measure => simp [intOf]; omega
    · have : j = 32 := by omega
      subst this
      have HS1 : Kp (RowT wr 128 w.heap.size (w.heap.size + 2) (fun i => Z.getLsbD i)) := ⟨HS.out.congr (fun i hi => by simp [hi])⟩
      go_wp2_with (first
        | (refine wpList_load_row rfl 128 _ rfl (w.heap.size + 2) rfl 128 (Alu.rowL fun i => Z.getLsbD i).toArray (0, 0) _ HS1.out.block Tryz.underlying128 rfl (infoT _) ?_)
        | (refine wpList_store_row rfl 128 _ _ rfl (w.heap.size + 1) (Alu.rowL fun i => Z.getLsbD i).toArray rfl rfl 128 _ HR.out.block (infoT _) (by simp [Alu.rowL_length]) (arrT_one _) ?_))
      refine bodyPost_ret (results_cell_row (p := 2) (ty := 128) rfl _ _ (w.heap.size + 1) 128 (Alu.rowL fun i => Z.getLsbD i).toArray (0, 0) _ rfl (HR.out.all _).block Tryz.underlying128 rfl (infoT _)) rfl ?_
      exact ⟨rfl, below_setRow HB.out (Nat.le_add_right _ _) _⟩
set_option maxRecDepth 100000 in
set_option maxHeartbeats 4000000 in
theorem ref_addc (b c : BitVec 32) (k : Bool) (w : World) :
    Calls Tryz.prog 57 #[.int .u32 (b.toNat : Int), .int .u32 (c.toNat : Int), .bool k] w fun e w' => e = .returned (.tuple #[.int .u32 ((Alu.adc b c k).1.toNat : Int), .bool (Alu.adc b c k).2]) ∧ Below w.heap.size w w' := by
  have hzv := zvT
  have C := fun w => ref_add (fun i => b.getLsbD i) (fun i => c.getLsbD i) b c k w (fun _ _ => rfl) (fun _ _ => rfl)
  obtain ⟨Z, hZ⟩ : ∃ Z, Z = (Alu.adc b c k).1 := ⟨_, rfl⟩
  obtain ⟨o, ho⟩ : ∃ o, o = (Alu.adc b c k).2 := ⟨_, rfl⟩
  rw [← hZ, ← ho] at C ⊢
  have K := Kp.mk C
  clear C hZ ho
  go_enter Tryz.func57, Tryz.ntmps57
  go_wp2_with fail
  refine (ref_row b _).mono ?_
  rintro e w1 ⟨rfl, hb⟩
  have HB1 := Kp.mk hb; clear hb
  go_wp2_with fail
  refine (ref_row c _).mono ?_
  rintro e w2 ⟨rfl, hb⟩
  have HB2 := Kp.mk (HB1.out.trans (hb.mono HB1.out.size)); clear hb
  go_wp2_with fail
  refine (K.out _).mono ?_
  rintro e w3 ⟨rfl, hb⟩
  have HB3 := Kp.mk (HB2.out.trans (hb.mono HB2.out.size)); clear hb
  unfold rowVB arrT
  have HL := Kp.mk (row_laid HB3.out (fun i => Z.getLsbD i))
  go_wp2_with (first
    | (refine wpList_store_row rfl 128 _ _ rfl w3.heap.size (Alu.rowL fun i => Z.getLsbD i).toArray rfl rfl 128 _ (RowT.zero w3).block (infoT _) (by simp [Alu.rowL_length]) (arrT_one _) ?_)
    | (refine wpList_load_row rfl 128 _ rfl w3.heap.size rfl 128 (Alu.rowL fun i => Z.getLsbD i).toArray (0, 0) _ HL.out.1.block Tryz.underlying128 rfl (infoT _) ?_)
    | (refine (ref_number _ Z _ (fun _ _ => rfl)).mono ?_; rintro e w4 ⟨rfl, hb4⟩))
  go_ret2
  exact ⟨rfl, HL.out.2.trans (hb4.mono HL.out.2.size)⟩
set_option maxRecDepth 100000 in
set_option maxHeartbeats 4000000 in
theorem ref_subb (b c : BitVec 32) (k : Bool) (w : World) :
    Calls Tryz.prog 58 #[.int .u32 (b.toNat : Int), .int .u32 (c.toNat : Int), .bool k] w fun e w' => e = .returned (.tuple #[.int .u32 ((Alu.adc b (~~~c) (!k)).1.toNat : Int), .bool (!(Alu.adc b (~~~c) (!k)).2)]) ∧ Below w.heap.size w w' := by
  have hzv := zvT
  have C := fun w => ref_add (fun i => b.getLsbD i) (fun i => (~~~c).getLsbD i) b (~~~c) (!k) w (fun _ _ => rfl) (fun _ _ => rfl)
  have CT := fun w => ref_turned (fun i => c.getLsbD i) c w (fun _ _ => rfl)
  unfold rowVB at C CT
  obtain ⟨N, hN⟩ : ∃ N, N = ~~~c := ⟨_, rfl⟩
  rw [← hN] at C CT ⊢
  obtain ⟨Z, hZ⟩ : ∃ Z, Z = (Alu.adc b N (!k)).1 := ⟨_, rfl⟩
  obtain ⟨o, ho⟩ : ∃ o, o = (Alu.adc b N (!k)).2 := ⟨_, rfl⟩
  rw [← hZ, ← ho] at C ⊢
  have K := Kp.mk C
  have KT := Kp.mk CT
  clear C CT hZ ho hN
  go_enter Tryz.func58, Tryz.ntmps58
  go_wp2_with fail
  refine (ref_row b _).mono ?_
  rintro e w1 ⟨rfl, hb⟩
  have HB1 := Kp.mk hb; clear hb
  go_wp2_with fail
  refine (ref_row c _).mono ?_
  rintro e w2 ⟨rfl, hb⟩
  have HB2 := Kp.mk (HB1.out.trans (hb.mono HB1.out.size)); clear hb
  go_wp2_with fail
  refine (KT.out _).mono ?_
  rintro e w2' ⟨rfl, hb⟩
  have HB2' := Kp.mk (HB2.out.trans (hb.mono HB2.out.size)); clear hb
  go_wp2_with fail
  refine (K.out _).mono ?_
  rintro e w3 ⟨rfl, hb⟩
  have HB3 := Kp.mk (HB2'.out.trans (hb.mono HB2'.out.size)); clear hb
  unfold arrT
  have HL := Kp.mk (row_laid HB3.out (fun i => Z.getLsbD i))
  go_wp2_with (first
    | (refine wpList_store_row rfl 128 _ _ rfl w3.heap.size (Alu.rowL fun i => Z.getLsbD i).toArray rfl rfl 128 _ (RowT.zero w3).block (infoT _) (by simp [Alu.rowL_length]) (arrT_one _) ?_)
    | (refine wpList_load_row rfl 128 _ rfl w3.heap.size rfl 128 (Alu.rowL fun i => Z.getLsbD i).toArray (0, 0) _ HL.out.1.block Tryz.underlying128 rfl (infoT _) ?_)
    | (refine (ref_number _ Z _ (fun _ _ => rfl)).mono ?_; rintro e w4 ⟨rfl, hb4⟩))
  go_ret2
  exact ⟨rfl, HL.out.2.trans (hb4.mono HL.out.2.size)⟩
end Go.Proofs.YtadikbmbadldpaaGreatDoor
namespace Go.Proofs.YtadikbmbadldpaaGreatDoor
open Go Go.RowKit
set_option linter.unusedVariables false

set_option maxRecDepth 100000 in
set_option maxHeartbeats 4000000 in
theorem ref_mul (b c : BitVec 32) (w : World) :
    Calls Tryz.prog 62 #[.int .u32 (b.toNat : Int), .int .u32 (c.toNat : Int)] w fun e w' => (∃ h l : BitVec 32, e = .returned (.tuple #[.int .u32 (h.toNat : Int), .int .u32 (l.toNat : Int)]) ∧ h.toNat * 4294967296 + l.toNat = b.toNat * c.toNat) ∧ Below w.heap.size w w' := by
  have hzv := zvT
  go_enter Tryz.func62, Tryz.ntmps62
  go_wp2_with fail
  refine (ref_row b _).mono ?_
  rintro e w1 ⟨rfl, hb⟩
  have HB1 := Kp.mk hb; clear hb
  unfold rowVB arrT
  have HL := Kp.mk (row_laid HB1.out (fun i => b.getLsbD i))
  go_wp2_with (refine wpList_store_row rfl 128 _ _ rfl w1.heap.size (Alu.rowL fun i => b.getLsbD i).toArray rfl rfl 128 _ (RowT.zero w1).block (infoT _) (by simp [Alu.rowL_length]) (arrT_one _) ?_)
  go_loopw [7, 8, 9] (fun x7 x8 x9 wr => ∃ (j : Nat) (hi lo : BitVec 32), j ≤ 32 ∧ x9 = .int .i64 ((j : Int) - 1) ∧ x7 = .int .u32 (hi.toNat : Int) ∧ x8 = .int .u32 (lo.toNat : Int) ∧ Kp (hi.toNat * 4294967296 + lo.toNat = b.toNat / 2 ^ j * c.toNat) ∧ Kp (RowT wr 128 w.heap.size w1.heap.size (fun i => b.getLsbD i)) ∧ Kp (Below w.heap.size w wr)) (fun _ _ x9 _ => (intOf x9 + 1).toNat)
  case atStart => exact ⟨32, 0#32, 0#32, by omega, by go_num, rfl, rfl, ⟨by rw [Alu.top_zero, Nat.zero_mul]; rfl⟩, ⟨HL.out.1⟩, ⟨HL.out.2⟩⟩
  case round =>
    clear hzv
    obtain ⟨j, hi, lo, hj, rfl, rfl, rfl, HP, HR, HB⟩ := hrel
    by_cases h0 : j = 0
    · subst h0
      have hb0 : decide ((0 : Int) ≤ ((0 : Nat) : Int) - 1) = false := by decide
      go_wp2
      go_ret2
      exact ⟨⟨hi, lo, rfl, by have := HP.out; simpa using this⟩, HB.out⟩
    · obtain ⟨q, rfl⟩ : ∃ q, j = q + 1 := ⟨j - 1, by omega⟩
      have eq1 : ((q + 1 : Nat) : Int) - 1 = (q : Int) := by omega
      rw [eq1]
      have hb0 : decide ((0 : Int) ≤ (q : Int)) = true := decide_eq_true (by omega)
      have hq0 : (0 : Int) ≤ (q : Int) := by omega
      have hqi : (q : Int) < 32 := by omega
      have hq32 : q < 32 := by omega
      have HQ := Kp.mk hq32
      have hmt := Alu.mul_top b c.toNat q
      have hml := Alu.mul_lt b c q
      obtain ⟨d, hd⟩ : ∃ d, d = b.getLsbD q := ⟨_, rfl⟩
      rw [← hd, ← HP.out] at hmt
      have HMT := Kp.mk hmt
      have HML := Kp.mk hml
      have HDD := Kp.mk hd
      clear h0 eq1 hmt hml hd
      go_wp2_with fail
      refine (ref_addc lo lo false _).mono ?_
      rintro e w2 ⟨rfl, hb⟩
      have HR2 := Kp.mk (HR.out.later hb)
      have HB2 := Kp.mk (HB.out.trans (hb.mono HB.out.size)); clear hb
      have n1 := Alu.adc_nat lo lo false
      obtain ⟨l1, hl1⟩ : ∃ l1, l1 = (Alu.adc lo lo false).1 := ⟨_, rfl⟩
      obtain ⟨o1, ho1⟩ : ∃ o1, o1 = (Alu.adc lo lo false).2 := ⟨_, rfl⟩
      rw [← hl1, ← ho1] at n1 ⊢
      have N1 := Kp.mk n1
      clear hl1 ho1 n1
      go_wp2_with fail
      refine (ref_addc hi hi o1 _).mono ?_
      rintro e w3 ⟨rfl, hb⟩
      have HR3 := Kp.mk (HR2.out.later hb)
      have HB3 := Kp.mk (HB2.out.trans (hb.mono HB2.out.size)); clear hb
      have n2 := Alu.adc_nat hi hi o1
      obtain ⟨h1, hh1⟩ : ∃ h1, h1 = (Alu.adc hi hi o1).1 := ⟨_, rfl⟩
      obtain ⟨o2, ho2⟩ : ∃ o2, o2 = (Alu.adc hi hi o1).2 := ⟨_, rfl⟩
      rw [← hh1, ← ho2] at n2 ⊢
      have N2 := Kp.mk n2
      clear hh1 ho2 n2
      have hcell := HR3.out.cell q hq32
      rw [← HDD.out] at hcell
      cases d with
      | false =>
        have HN : Kp (h1.toNat * 4294967296 + l1.toNat = b.toNat / 2 ^ q * c.toNat) := ⟨by
          have a1 := HMT.out; have a2 := HML.out; have a3 := N1.out; have a4 := N2.out
          have a5 := h1.isLt; have a6 := l1.isLt; have a7 := Alu.cn_le o1; have a8 := Alu.cn_le o2
          simp only [Bool.false_eq_true, if_false] at a1
          have a9 : Alu.cn false = 0 := rfl
          rw [a9] at a3
          generalize Alu.cn o1 = u1 at *
          generalize Alu.cn o2 = u2 at *
          omega⟩
        go_wp2
        go_roundw
        case rel => exact ⟨q, h1, l1, by have := HQ.out; omega, by go_num, rfl, rfl, HN, HR3, HB3⟩
        case measure => simp [intOf] <;> omega
      | true =>
        go_wp2_with fail
        refine (ref_addc l1 c false _).mono ?_
        rintro e w4 ⟨rfl, hb⟩
        have HR4 := Kp.mk (HR3.out.later hb)
        have HB4 := Kp.mk (HB3.out.trans (hb.mono HB3.out.size)); clear hb
        have n3 := Alu.adc_nat l1 c false
        obtain ⟨l2, hl2⟩ : ∃ l2, l2 = (Alu.adc l1 c false).1 := ⟨_, rfl⟩
        obtain ⟨o3, ho3⟩ : ∃ o3, o3 = (Alu.adc l1 c false).2 := ⟨_, rfl⟩
        rw [← hl2, ← ho3] at n3 ⊢
        have N3 := Kp.mk n3
        clear hl2 ho3 n3
        go_wp2_with fail
        refine (ref_addc h1 0#32 o3 _).mono ?_
        rintro e w5 ⟨rfl, hb⟩
        have HR5 := Kp.mk (HR4.out.later hb)
        have HB5 := Kp.mk (HB4.out.trans (hb.mono HB4.out.size)); clear hb
        have n4 := Alu.adc_nat h1 0#32 o3
        obtain ⟨h2, hh2⟩ : ∃ h2, h2 = (Alu.adc h1 0#32 o3).1 := ⟨_, rfl⟩
        obtain ⟨o4, ho4⟩ : ∃ o4, o4 = (Alu.adc h1 0#32 o3).2 := ⟨_, rfl⟩
        rw [← hh2, ← ho4] at n4 ⊢
        have HN : Kp (h2.toNat * 4294967296 + l2.toNat = b.toNat / 2 ^ q * c.toNat) := ⟨by
          have a1 := HMT.out; have a2 := HML.out; have a3 := N1.out; have a4 := N2.out; have b3 := N3.out
          have a5 := h1.isLt; have a6 := l1.isLt; have a7 := Alu.cn_le o1; have a8 := Alu.cn_le o2
          have b5 := h2.isLt; have b6 := l2.isLt; have b7 := Alu.cn_le o3; have b8 := Alu.cn_le o4
          simp only [if_true] at a1
          have a9 : Alu.cn false = 0 := rfl
          have a10 : (0#32 : BitVec 32).toNat = 0 := rfl
          rw [a9] at a3 b3
          rw [a10] at n4
          generalize Alu.cn o1 = u1 at *
          generalize Alu.cn o2 = u2 at *
          generalize Alu.cn o3 = u3 at *
          generalize Alu.cn o4 = u4 at *
          omega⟩
        clear hh2 ho4 n4
        go_wp2
        go_roundw
        case rel => exact ⟨q, h2, l2, by have := HQ.out; omega, by go_num, rfl, rfl, HN, HR5, HB5⟩
        case measure => simp [intOf] <;> omega
end Go.Proofs.YtadikbmbadldpaaGreatDoor
namespace Go.Proofs.YtadikbmbadldpaaGreatDoor
open Go Go.RowKit
set_option linter.unusedVariables false
namespace Alu
/-- n bits 1. -/
def onesN (n : Nat) : R := BitVec.ofNat 32 (2 ^ n - 1)
def fieldOf (x : R) (lo n : Nat) : R := (x >>> lo) &&& onesN n
def placeOf (x : R) (lo n : Nat) (v : R) : R := (x &&& ~~~(onesN n <<< lo)) ||| (v <<< lo)
def sextOf (x : R) (n : Nat) : R := (x <<< (32 - n)).sshiftRight (32 - n)
theorem andNot_int (a b : R) : bits .andNot .u32 (a.toNat : Int) (b.toNat : Int) = ((a &&& ~~~b).toNat : Int) := by
  rw [u32_andNot_nat _ _ a.isLt b.isLt, BitVec.toNat_and, BitVec.toNat_not]
theorem onesN_int (n : Nat) (hn : n ≤ 32) : ((2 : Int) ^ n - 1) = ((onesN n).toNat : Int) := by
  unfold onesN
  have h1 : 2 ^ n ≤ 2 ^ 32 := Nat.pow_le_pow_right (by omega) hn
  have h2 : 1 ≤ 2 ^ n := Nat.one_le_two_pow
  rw [BitVec.toNat_ofNat]
  have : ((2 : Int) ^ n) = ((2 ^ n : Nat) : Int) := by simp
  rw [this]
  omega
end Alu
end Go.Proofs.YtadikbmbadldpaaGreatDoor
namespace Go.Proofs.YtadikbmbadldpaaGreatDoor
open Go Go.RowKit
set_option linter.unusedVariables false

/-- There are such bits. -/
def Within (lo n : Int) : Prop := 0 ≤ lo ∧ lo ≤ 31 ∧ 1 ≤ n ∧ n ≤ 32 - lo
end Go.Proofs.YtadikbmbadldpaaGreatDoor
namespace Go.Proofs.YtadikbmbadldpaaGreatDoor
open Go Go.RowKit
set_option linter.unusedVariables false

set_option maxRecDepth 100000 in
theorem ref_div_zero (h l c : BitVec 32) (w : World) (hc : c = 0#32) :
    Calls Tryz.prog 81 #[.int .u32 (h.toNat : Int), .int .u32 (l.toNat : Int), .int .u32 (c.toNat : Int)] w fun e w' => e = .returned (.tuple #[.int .u32 0, .int .u32 0, .int .i64 20]) ∧ w' = w := by
  have hz : ((c.toNat : Int) == 0) = true := by rw [hc]; rfl
  clear hc
  go_enter Tryz.func81, Tryz.ntmps81
  go_wp2
  go_ret3
  exact ⟨rfl, rfl⟩
set_option maxRecDepth 100000 in
theorem ref_div_big (h l c : BitVec 32) (w : World) (hc : c ≠ 0#32) (hh : c.toNat ≤ h.toNat) :
    Calls Tryz.prog 81 #[.int .u32 (h.toNat : Int), .int .u32 (l.toNat : Int), .int .u32 (c.toNat : Int)] w fun e w' => e = .returned (.tuple #[.int .u32 0, .int .u32 0, .int .i64 4]) ∧ w' = w := by
  have hz : ((c.toNat : Int) == 0) = false := by
    rw [beq_eq_false_iff_ne]; intro e; exact hc (BitVec.eq_of_toNat_eq (by show c.toNat = 0; omega))
  have hb : decide ((c.toNat : Int) ≤ (h.toNat : Int)) = true := decide_eq_true (by omega)
  have hbn : decide (c.toNat ≤ h.toNat) = true := decide_eq_true hh
  clear hc hh
  go_enter Tryz.func81, Tryz.ntmps81
  go_wp2
  go_ret3
  exact ⟨rfl, rfl⟩
set_option maxRecDepth 100000 in
set_option maxHeartbeats 4000000 in
theorem ref_div (h l c : BitVec 32) (w : World) (hc : h.toNat < c.toNat) :
    Calls Tryz.prog 81 #[.int .u32 (h.toNat : Int), .int .u32 (l.toNat : Int), .int .u32 (c.toNat : Int)] w fun e w' => (∃ q r : BitVec 32, e = .returned (.tuple #[.int .u32 (q.toNat : Int), .int .u32 (r.toNat : Int), .int .i64 0]) ∧ q.toNat * c.toNat + r.toNat = h.toNat * 4294967296 + l.toNat ∧ r.toNat < c.toNat) ∧ Below w.heap.size w w' := by
  have hzv := zvT
  have HC := Kp.mk hc
  have hcl : (c.toNat : Int) < 4294967296 := by have := c.isLt; omega
  have hcp : (1 : Int) ≤ (c.toNat : Int) := by omega
  have hz : ((c.toNat : Int) == 0) = false := by rw [beq_eq_false_iff_ne]; omega
  have hb : decide ((c.toNat : Int) ≤ (h.toNat : Int)) = false := decide_eq_false (by omega)
  have hbn : decide (c.toNat ≤ h.toNat) = false := decide_eq_false (by omega)
  have hhl : (h.toNat : Int) < 4294967296 := by have := h.isLt; omega
  have hh0 : (0 : Int) ≤ (h.toNat : Int) := by omega
  clear hc
  go_enter Tryz.func81, Tryz.ntmps81
  go_wp2_with fail
  refine (ref_row l _).mono ?_
  rintro e w1 ⟨rfl, hb⟩
  have HB1 := Kp.mk hb; clear hb
  unfold rowVB arrT
  have HL := Kp.mk (row_laid HB1.out (fun i => l.getLsbD i))
  go_wp2_with (refine wpList_store_row rfl 128 _ _ rfl w1.heap.size (Alu.rowL fun i => l.getLsbD i).toArray rfl rfl 128 _ (RowT.zero w1).block (infoT _) (by simp [Alu.rowL_length]) (arrT_one _) ?_)
  go_loop [9, 11, 12] (fun x9 x11 x12 => ∃ (j r q : Nat), j ≤ 32 ∧ x12 = .int .i64 ((j : Int) - 1) ∧ x9 = .int .i64 r ∧ x11 = .int .i64 q ∧ Kp (q * c.toNat + r = Alu.topV h.toNat l j ∧ r < c.toNat)) (fun _ _ x12 => (intOf x12 + 1).toNat)
  case atStart => exact ⟨32, h.toNat, 0, by omega, by go_num, rfl, rfl, ⟨by rw [Alu.topV_start]; omega, HC.out⟩⟩
  case round =>
    clear hzv
    obtain ⟨j, r, q, hj, rfl, rfl, rfl, HI⟩ := hrel
    have hql : q < 4294967296 := by
      have := Alu.quot_lt h.toNat c.toNat q r l j hj HC.out HI.out.1
      have h2 : 2 ^ (32 - j) ≤ 2 ^ 32 := Nat.pow_le_pow_right (by omega) (by omega)
      omega
    have hrl : r < 4294967296 := by have := HI.out.2; have := c.isLt; omega
    by_cases h0 : j = 0
    · subst h0
      have hb0 : decide ((0 : Int) ≤ ((0 : Nat) : Int) - 1) = false := by decide
      have hq1 : (q : Int) % 4294967296 = (q : Int) := by omega
      have hr1 : (r : Int) % 4294967296 = (r : Int) := by omega
      have hq2 : (q : Int) < 4294967296 := by omega
      have hr2 : (r : Int) < 4294967296 := by omega
      have HQ : Kp ((BitVec.ofNat 32 q).toNat = q ∧ (BitVec.ofNat 32 r).toNat = r) := ⟨by rw [BitVec.toNat_ofNat, BitVec.toNat_ofNat]; omega⟩
      clear hql hrl
      go_wp2
      go_ret3
      refine ⟨⟨BitVec.ofNat 32 q, BitVec.ofNat 32 r, by rw [HQ.out.1, HQ.out.2]; rfl, by rw [HQ.out.1, HQ.out.2, ← Alu.topV_end]; exact HI.out.1, by rw [HQ.out.2]; exact HI.out.2⟩, HL.out.2⟩
    · obtain ⟨p, rfl⟩ : ∃ p, j = p + 1 := ⟨j - 1, by omega⟩
      have eq1 : ((p + 1 : Nat) : Int) - 1 = (p : Int) := by omega
      rw [eq1]
      have hb0 : decide ((0 : Int) ≤ (p : Int)) = true := decide_eq_true (by omega)
      have hp0 : (0 : Int) ≤ (p : Int) := by omega
      have hpi : (p : Int) < 32 := by omega
      have hp32 : p < 32 := by omega
      have HP := Kp.mk hp32
      have hcell := HL.out.1.cell p hp32
      obtain ⟨d, hd⟩ : ∃ d, d = l.getLsbD p := ⟨_, rfl⟩
      rw [← hd] at hcell
      have hst := Alu.topV_step h.toNat l p hp32
      rw [← hd] at hst
      obtain ⟨m, hm⟩ : ∃ m, m = 2 * r + (if d then 1 else 0) := ⟨_, rfl⟩
      have HV : Kp (2 * q * c.toNat + m = Alu.topV h.toNat l p) := ⟨by
        rw [hst, ← HI.out.1, hm, Nat.mul_assoc, Nat.mul_add]; omega⟩
      have HM : Kp (m < 2 * c.toNat) := ⟨by have := HI.out.2; rw [hm]; cases d <;> simp <;> omega⟩
      obtain ⟨r2, hr2⟩ : ∃ r2, r2 = 2 * r := ⟨_, rfl⟩
      have e1 : 2 * (r : Int) = (r2 : Int) := by omega
      have er : (r2 : Int) < 8589934592 := by omega
      obtain ⟨q2, hq2⟩ : ∃ q2, q2 = 2 * q := ⟨_, rfl⟩
      have e2 : 2 * (q : Int) = (q2 : Int) := by omega
      have eq : (q2 : Int) < 8589934592 := by omega
      rw [← hq2] at HV
      have hmr : m = r2 + (if d then 1 else 0) := by rw [hm, hr2]
      have hgo : ∀ m' : Nat, m' = m → (c.toNat ≤ m' → Kp ((q2 + 1) * c.toNat + (m' - c.toNat) = Alu.topV h.toNat l p ∧ m' - c.toNat < c.toNat)) ∧ (¬ c.toNat ≤ m' → Kp (q2 * c.toNat + m' = Alu.topV h.toNat l p ∧ m' < c.toNat)) := fun m' hm' => by
        subst hm'
        refine ⟨fun h => ⟨?_, ?_⟩, fun h => ⟨HV.out, by omega⟩⟩
        · rw [← HV.out, Nat.add_mul, Nat.one_mul]; omega
        · have := HM.out; omega
      have HGO := Kp.mk hgo
      clear hst hd h0 eq1 hm hr2 hq2 hql hrl hgo
      cases d with
      | false =>
        have hm0 : r2 = m := by simpa using hmr.symm
        subst hm0
        clear hmr
        by_cases hcm : c.toNat ≤ r2
        · have t1 : decide ((c.toNat : Int) ≤ (r2 : Int)) = true := decide_eq_true (by omega)
          have t2 : decide (c.toNat ≤ r2) = true := decide_eq_true hcm
          have HN := (HGO.out r2 rfl).1 hcm
          obtain ⟨z, hz⟩ : ∃ z, z = r2 - c.toNat := ⟨_, rfl⟩
          have e3 : (r2 : Int) - (c.toNat : Int) = (z : Int) := by omega
          rw [← hz] at HN
          clear hz hcm HGO
          go_wp2
          go_round
          case rel => exact ⟨p, z, q2 + 1, by have := HP.out; omega, by go_num, rfl, by go_num, HN⟩
          case measure => simp [intOf] <;> omega
        · have t1 : decide ((c.toNat : Int) ≤ (r2 : Int)) = false := decide_eq_false (by omega)
          have t2 : decide (c.toNat ≤ r2) = false := decide_eq_false hcm
          have HN := (HGO.out r2 rfl).2 hcm
          clear hcm HGO
          go_wp2
          go_round
          case rel => exact ⟨p, r2, q2, by have := HP.out; omega, by go_num, rfl, rfl, HN⟩
          case measure => simp [intOf] <;> omega
      | true =>
        have hm0 : m = r2 + 1 := by simpa using hmr
        subst hm0
        clear hmr
        obtain ⟨s, hs⟩ : ∃ s, s = r2 + 1 := ⟨_, rfl⟩
        have e0 : (r2 : Int) + 1 = (s : Int) := by omega
        by_cases hcm : c.toNat ≤ s
        · have t1 : decide ((c.toNat : Int) ≤ (s : Int)) = true := decide_eq_true (by omega)
          have t2 : decide (c.toNat ≤ s) = true := decide_eq_true hcm
          have HN := (HGO.out s hs).1 hcm
          obtain ⟨z, hz⟩ : ∃ z, z = s - c.toNat := ⟨_, rfl⟩
          have e3 : (s : Int) - (c.toNat : Int) = (z : Int) := by omega
          rw [← hz] at HN
          clear hz hcm HGO hs
          go_wp2
          go_round
          case rel => exact ⟨p, z, q2 + 1, by have := HP.out; omega, by go_num, rfl, by go_num, HN⟩
          case measure => simp [intOf] <;> omega
        · have t1 : decide ((c.toNat : Int) ≤ (s : Int)) = false := decide_eq_false (by omega)
          have t2 : decide (c.toNat ≤ s) = false := decide_eq_false hcm
          have HN := (HGO.out s hs).2 hcm
          clear hcm HGO hs
          go_wp2
          go_round
          case rel => exact ⟨p, s, q2, by have := HP.out; omega, by go_num, rfl, rfl, HN⟩
          case measure => simp [intOf] <;> omega
end Go.Proofs.YtadikbmbadldpaaGreatDoor
namespace Go.Proofs.YtadikbmbadldpaaGreatDoor
namespace Alu
open Go

theorem ones_bit (n i : Nat) (hi : i < 32) : (onesN n).getLsbD i = decide (i < n) := by
  unfold onesN
  rw [BitVec.getLsbD_ofNat, Nat.testBit_two_pow_sub_one]
  simp [hi]
theorem field_bit (x : R) (lo n i : Nat) (hi : i < 32) : (fieldOf x lo n).getLsbD i = (x.getLsbD (lo + i) && decide (i < n)) := by
  unfold fieldOf
  rw [BitVec.getLsbD_and, BitVec.getLsbD_ushiftRight, ones_bit n i hi]
theorem place_bit (x : R) (lo n : Nat) (v : R) (i : Nat) (hi : i < 32) : (placeOf x lo n v).getLsbD i = ((x.getLsbD i && !(decide (lo ≤ i) && decide (i - lo < n))) || (decide (lo ≤ i) && v.getLsbD (i - lo))) := by
  unfold placeOf
  simp only [BitVec.getLsbD_or, BitVec.getLsbD_and, BitVec.getLsbD_not, BitVec.getLsbD_shiftLeft, hi, decide_true, Bool.true_and]
  rw [ones_bit n (i - lo) (by omega)]
  by_cases h : i < lo
  · simp [h, show ¬ lo ≤ i by omega]
  · simp [h, show lo ≤ i by omega]
theorem field_le (x : R) (lo n : Nat) : (fieldOf x lo n).toNat ≤ (onesN n).toNat := by
  unfold fieldOf
  rw [BitVec.toNat_and]
  exact Nat.and_le_right
theorem place_field (x : R) (lo n : Nat) : placeOf x lo n (fieldOf x lo n) = x := by
  apply BitVec.eq_of_getLsbD_eq
  intro i hi
  rw [place_bit _ _ _ _ _ hi, field_bit _ _ _ _ (by omega)]
  by_cases h : lo ≤ i
  · have e : lo + (i - lo) = i := by omega
    simp only [h, e, decide_true, Bool.true_and]
    cases x.getLsbD i <;> cases decide (i - lo < n) <;> rfl
  · simp [h]
theorem place_twice (x : R) (lo n : Nat) : placeOf (placeOf x lo n 0#32) lo n (fieldOf x lo n) = x := by
  apply BitVec.eq_of_getLsbD_eq
  intro i hi
  rw [place_bit _ _ _ _ _ hi, field_bit _ _ _ _ (by omega), place_bit _ _ _ _ _ hi]
  by_cases h : lo ≤ i
  · have e : lo + (i - lo) = i := by omega
    simp only [h, e, decide_true, Bool.true_and, BitVec.getLsbD_zero, Bool.or_false]
    cases x.getLsbD i <;> cases decide (i - lo < n) <;> rfl
  · simp [h]
theorem field_cleared (x : R) (lo n : Nat) (h : n + lo ≤ 32) : fieldOf (placeOf x lo n 0#32) lo n = 0#32 := by
  apply BitVec.eq_of_getLsbD_eq
  intro i hi
  rw [field_bit _ _ _ _ hi]
  by_cases hn : i < n
  · rw [place_bit _ _ _ _ _ (by omega)]
    simp [hn]
  · simp [hn]
theorem or_field (x : R) (lo n : Nat) (h : n + lo ≤ 32) : placeOf x lo n 0#32 ||| (fieldOf x lo n <<< lo) = x := by
  apply BitVec.eq_of_getLsbD_eq
  intro i hi
  rw [BitVec.getLsbD_or, BitVec.getLsbD_shiftLeft, place_bit _ _ _ _ _ hi, field_bit _ _ _ _ (by omega)]
  by_cases h : lo ≤ i
  · have e : lo + (i - lo) = i := by omega
    simp only [h, e, hi, show ¬ i < lo by omega, decide_true, decide_false, Bool.true_and, BitVec.getLsbD_zero, Bool.or_false, Bool.not_false]
    cases x.getLsbD i <;> cases decide (i - lo < n) <;> rfl
  · simp [h, hi, show i < lo by omega]
theorem and_field (x : R) (lo n : Nat) (h : n + lo ≤ 32) : placeOf x lo n 0#32 &&& (fieldOf x lo n <<< lo) = 0#32 := by
  apply BitVec.eq_of_getLsbD_eq
  intro i hi
  rw [BitVec.getLsbD_and, BitVec.getLsbD_shiftLeft, place_bit _ _ _ _ _ hi, field_bit _ _ _ _ (by omega)]
  by_cases h : lo ≤ i
  · have e : lo + (i - lo) = i := by omega
    simp only [h, e, hi, show ¬ i < lo by omega, decide_true, decide_false, Bool.true_and, BitVec.getLsbD_zero, Bool.or_false, Bool.not_false]
    cases x.getLsbD i <;> cases decide (i - lo < n) <;> rfl
  · simp [hi, show i < lo by omega]
theorem sext_field (f : R) (n : Nat) (h1 : 1 ≤ n) (h2 : n ≤ 32) (hf : ∀ i, n ≤ i → f.getLsbD i = false) : fieldOf (sextOf f n) 0 n = f := by
  apply BitVec.eq_of_getLsbD_eq
  intro i hi
  rw [field_bit _ _ _ _ hi]
  unfold sextOf
  rw [BitVec.getLsbD_sshiftRight]
  by_cases hn : i < n
  · rw [if_pos (by omega), BitVec.getLsbD_shiftLeft]
    have e : 32 - n + (0 + i) - (32 - n) = i := by omega
    simp [hn, hi, show 32 - n + i < 32 by omega, show ¬ 32 - n + i < 32 - n by omega]
  · rw [hf i (by omega)]; simp [hn]
theorem field_high (x : R) (lo n i : Nat) (hi : n ≤ i) : (fieldOf x lo n).getLsbD i = false := by
  by_cases h : i < 32
  · rw [field_bit _ _ _ _ h]; simp; intro _; omega
  · exact BitVec.getLsbD_of_ge _ _ (by omega)
theorem sext_sign (f : R) (n : Nat) (h1 : 1 ≤ n) (h2 : n ≤ 32) : decide ((sextOf f n).toInt < 0) = decide ((fieldOf f (n - 1) 1).toNat = 1) := by
  have e1 : decide ((sextOf f n).toInt < 0) = (sextOf f n).msb := by rw [BitVec.msb_eq_toInt]
  have e2 : (sextOf f n).msb = f.getLsbD (n - 1) := by
    unfold sextOf
    rw [BitVec.msb_sshiftRight, BitVec.msb_eq_getLsbD_last, BitVec.getLsbD_shiftLeft]
    have e : 32 - 1 - (32 - n) = n - 1 := by omega
    simp [show ¬ 32 - 1 < 32 - n by omega]
    rw [show 31 - (32 - n) = n - 1 by omega]
  rw [e1, e2]
  have hb : (fieldOf f (n - 1) 1) = BitVec.ofNat 32 (f.getLsbD (n - 1)).toNat := by
    apply BitVec.eq_of_getLsbD_eq
    intro i hi
    rw [field_bit _ _ _ _ hi, BitVec.getLsbD_ofNat]
    by_cases h0 : i = 0
    · subst h0; simp; cases f.getLsbD (n - 1) <;> rfl
    · have : ¬ i < 1 := by omega
      simp only [this, decide_false, Bool.and_false]
      cases f.getLsbD (n - 1)
      · simp
      · simp only [Bool.toNat_true]
        rw [Bool.eq_false_iff.2 (fun h => h0 (Nat.testBit_one_eq_true_iff_self_eq_zero.1 h))]
        simp
  rw [hb]
  cases f.getLsbD (n - 1) <;> rfl
end Alu
end Go.Proofs.YtadikbmbadldpaaGreatDoor
namespace Go.Proofs.YtadikbmbadldpaaGreatDoor
namespace Alu
open Go
theorem sext_bit (x : R) (n i : Nat) (h1 : 1 ≤ n) (h2 : n ≤ 32) (hi : i < 32) : (sextOf x n).getLsbD i = if n ≤ i then x.getLsbD (n - 1) else x.getLsbD i := by
  unfold sextOf
  rw [BitVec.getLsbD_sshiftRight]
  by_cases h : n ≤ i
  · rw [if_pos h]
    have e1 : ¬ (32 ≤ i) := by omega
    by_cases e : n = 32
    · omega
    · have e2 : ¬ (32 - n + i < 32) := by omega
      simp only [e1, decide_false, Bool.not_false, Bool.true_and, e2, if_false]
      rw [BitVec.msb_eq_getLsbD_last, BitVec.getLsbD_shiftLeft]
      have e3 : ¬ (32 - 1 < 32 - n) := by omega
      have e4 : 32 - 1 - (32 - n) = n - 1 := by omega
      simp [e3, e4]
  · rw [if_neg h]
    have e1 : ¬ (32 ≤ i) := by omega
    have e2 : 32 - n + i < 32 := by omega
    simp only [e1, decide_false, Bool.not_false, Bool.true_and, e2, if_true]
    rw [BitVec.getLsbD_shiftLeft]
    have e3 : ¬ (32 - n + i < 32 - n) := by omega
    have e4 : 32 - n + i - (32 - n) = i := by omega
    simp [e3, e4]
    omega
/-- A word fits n bits just if it has none above. -/
theorem le_ones (v : R) (n : Nat) (hn : n ≤ 32) : v.toNat ≤ (onesN n).toNat ↔ ∀ i, n ≤ i → i < 32 → v.getLsbD i = false := by
  have e : (onesN n).toNat = 2 ^ n - 1 := by
    unfold onesN
    rw [BitVec.toNat_ofNat]
    have : 2 ^ n ≤ 2 ^ 32 := Nat.pow_le_pow_right (by omega) hn
    have h0 : 0 < 2 ^ n := Nat.pow_pos (by omega)
    exact Nat.mod_eq_of_lt (by omega)
  have h0 : 0 < 2 ^ n := Nat.pow_pos (by omega)
  rw [e]
  constructor
  · intro h i hi _
    rw [BitVec.getLsbD]
    exact Nat.testBit_lt_two_pow (Nat.lt_of_lt_of_le (by omega) (Nat.pow_le_pow_right (by omega) hi))
  · intro h
    have : v.toNat < 2 ^ n := by
      apply Nat.lt_pow_two_of_testBit
      intro i hi
      by_cases c : i < 32
      · exact h i hi c
      · exact BitVec.getLsbD_of_ge v i (by omega)
    omega
theorem place_row (x : R) (lo n : Nat) (v : R) (h3 : n + lo ≤ 32) (hv : ∀ i, n ≤ i → i < 32 → v.getLsbD i = false) (i : Nat) (hi : i < 32) :
    (if lo ≤ i ∧ i < lo + n then v.getLsbD (i - lo) else x.getLsbD i) = (placeOf x lo n v).getLsbD i := by
  rw [place_bit x lo n v i hi]
  by_cases h1 : lo ≤ i
  · by_cases h2 : i < lo + n
    · have h4 : i - lo < n := by omega
      simp [h1, h2, h4]
    · have h4 : ¬ (i - lo < n) := by omega
      have h5 := hv (i - lo) (by omega) (by omega)
      simp [h1, h2, h4, h5]
  · simp [h1]
theorem field_row (x : R) (lo n i : Nat) (hi : i < 32) : (if i < n then x.getLsbD (lo + i) else false) = (fieldOf x lo n).getLsbD i := by
  rw [field_bit x lo n i hi]
  by_cases h : i < n <;> simp [h]
end Alu
end Go.Proofs.YtadikbmbadldpaaGreatDoor
namespace Go.Proofs.YtadikbmbadldpaaGreatDoor
open Go Go.RowKit
set_option linter.unusedVariables false

set_option maxRecDepth 100000 in
theorem ref_signed (x : BitVec 32) (w : World) :
    Calls Tryz.prog 65 #[.int .u32 (x.toNat : Int)] w fun e w' => e = .returned (.int .i64 x.toInt) ∧ w' = w := by
  have hx := Alu.lt32 x
  have hx0 : (0 : Int) ≤ (x.toNat : Int) := by omega
  by_cases h : (2147483648 : Int) ≤ (x.toNat : Int)
  · have hb : decide ((2147483648 : Int) ≤ (x.toNat : Int)) = true := decide_eq_true h
    have hbn : decide (2147483648 ≤ x.toNat) = true := decide_eq_true (by omega)
    have e : (x.toNat : Int) - 4294967296 = x.toInt := by rw [BitVec.toInt_eq_toNat_cond]; rw [if_neg (by omega)]; rfl
    have HE := Kp.mk e
    clear h e
    go_enter Tryz.func65, Tryz.ntmps65
    go_wp2
    go_ret
    exact ⟨ret_int HE.out, rfl⟩
  · have hb : decide ((2147483648 : Int) ≤ (x.toNat : Int)) = false := decide_eq_false h
    have hbn : decide (2147483648 ≤ x.toNat) = false := decide_eq_false (by omega)
    have e : (x.toNat : Int) = x.toInt := by rw [BitVec.toInt_eq_toNat_cond]; rw [if_pos (by omega)]
    have HE := Kp.mk e
    clear h e
    go_enter Tryz.func65, Tryz.ntmps65
    go_wp2
    go_ret
    exact ⟨ret_int HE.out, rfl⟩
end Go.Proofs.YtadikbmbadldpaaGreatDoor
namespace Go.Proofs.YtadikbmbadldpaaGreatDoor
open Go Go.RowKit
set_option linter.unusedVariables false

theorem ref_truth (t : Bool) (w : World) :
    Calls Tryz.prog 64 #[.bool t] w fun e w' => e = .returned (.int .u32 (tr t)) ∧ w' = w := by
  cases t
  · go_enter Tryz.func64, Tryz.ntmps64
    go_wp2
    go_ret
    exact ⟨rfl, rfl⟩
  · go_enter Tryz.func64, Tryz.ntmps64
    go_wp2
    go_ret
    exact ⟨rfl, rfl⟩
set_option maxRecDepth 100000 in
theorem ref_minus (x : BitVec 32) (w : World) :
    Calls Tryz.prog 83 #[.int .u32 (x.toNat : Int)] w fun e w' => e = .returned (.int .u32 ((-x).toNat : Int)) ∧ Below w.heap.size w w' := by
  have C := fun w => ref_subb 0#32 x false w
  rw [show (!false) = true from rfl, Alu.adc_neg] at C
  rw [show (((0#32 : BitVec 32).toNat : Nat) : Int) = 0 from rfl] at C
  obtain ⟨o, ho⟩ : ∃ o, o = !(Alu.adc 0#32 (~~~x) true).2 := ⟨_, rfl⟩
  rw [← ho] at C
  obtain ⟨z, hz⟩ : ∃ z, z = -x := ⟨_, rfl⟩
  rw [← hz] at C ⊢
  have K := Kp.mk C
  clear C ho hz
  go_enter Tryz.func83, Tryz.ntmps83
  go_wp2_with fail
  refine (K.out _).mono ?_
  rintro e w1 ⟨rfl, hb⟩
  have B := Kp.mk hb; clear hb
  go_wp2
  go_ret
  exact ⟨rfl, B.out⟩
set_option maxRecDepth 100000 in
theorem ref_mag (x : BitVec 32) (w : World) :
    Calls Tryz.prog 82 #[.int .u32 (x.toNat : Int)] w fun e w' => e = .returned (.int .u32 ((Alu.mag x).toNat : Int)) ∧ Below w.heap.size w w' := by
  by_cases h : x.toInt < 0
  · have hb : decide (x.toInt < 0) = true := decide_eq_true h
    have e : Alu.mag x = -x := by unfold Alu.mag; rw [if_pos h]
    rw [e]
    clear e h
    go_enter Tryz.func82, Tryz.ntmps82
    go_wp2_with fail
    refine (ref_signed x _).mono ?_
    rintro e w1 ⟨rfl, rfl⟩
    go_wp2_with fail
    refine (ref_minus x _).mono ?_
    rintro e w2 ⟨rfl, hb⟩
    have B := Kp.mk hb; clear hb
    go_wp2
    go_ret
    exact ⟨rfl, B.out⟩
  · have hb : decide (x.toInt < 0) = false := decide_eq_false h
    have e : Alu.mag x = x := by unfold Alu.mag; rw [if_neg h]
    rw [e]
    clear e h
    go_enter Tryz.func82, Tryz.ntmps82
    go_wp2_with fail
    refine (ref_signed x _).mono ?_
    rintro e w1 ⟨rfl, rfl⟩
    go_wp2
    go_ret
    exact ⟨rfl, Below.refl _ _⟩
set_option maxRecDepth 100000 in
set_option maxHeartbeats 4000000 in
theorem ref_move (f : Nat → Bool) (n : Int) (fill : Bool) (w : World) (hn : -32 < n ∧ n < 32) :
    Calls Tryz.prog 61 #[arrT f, .int .i64 n, .bool fill] w fun e w' => e = .returned (arrT (Alu.moved f n fill)) ∧ Below w.heap.size w w' := by
  have hzv := zvT
  obtain ⟨w1, hw1⟩ : ∃ w1, w1 = w.alloc (.cells (Alu.rowL f).toArray 128) := ⟨_, rfl⟩
  obtain ⟨w2, hw2⟩ : ∃ w2, w2 = w1.alloc (.cells zT 128) := ⟨_, rfl⟩
  obtain ⟨w3, hw3⟩ : ∃ w3, w3 = w2.alloc (.cells zT 128) := ⟨_, rfl⟩
  have s1 : w1.heap.size = w.heap.size + 1 := by rw [hw1]; exact Array.size_push _
  have s2 : w2.heap.size = w.heap.size + 2 := by rw [hw2]; exact (Array.size_push _).trans (by rw [s1])
  have b1 : Below w.heap.size w w1 := by rw [hw1]; exact (Below.refl _ _).alloc (Nat.le_refl _) _
  have b2 : Below w.heap.size w w2 := by rw [hw2]; exact b1.alloc b1.size _
  have b3 : Below w.heap.size w w3 := by rw [hw3]; exact b2.alloc b2.size _
  have c12 : Below w1.heap.size w1 w2 := by rw [hw2]; exact (Below.refl _ _).alloc (Nat.le_refl _) _
  have c23 : Below w2.heap.size w2 w3 := by rw [hw3]; exact (Below.refl _ _).alloc (Nat.le_refl _) _
  have HX : Kp (RowT w3 128 w.heap.size w.heap.size f) := ⟨by
    have h : RowT w1 128 w.heap.size w.heap.size f := by rw [hw1]; exact RowT.new w _ f
    exact (h.later c12).later c23⟩
  have HR : Kp (RowT w3 128 w.heap.size (w.heap.size + 1) (fun _ => false)) := ⟨by
    have h : RowT w2 128 w1.heap.size w1.heap.size (fun _ => false) := by rw [hw2]; exact RowT.zero w1
    have h2 := (h.mono b1.size).later c23
    rwa [s1] at h2⟩
  have HS : Kp (RowT w3 128 w.heap.size (w.heap.size + 2) (fun _ => false)) := ⟨by
    have h : RowT w3 128 w2.heap.size w2.heap.size (fun _ => false) := by rw [hw3]; exact RowT.zero w2
    have h2 := h.mono b2.size
    rwa [s2] at h2⟩
  have HB := Kp.mk b3
  have HW : Kp (w3 = ((w.alloc (.cells (Alu.rowL f).toArray 128)).alloc (.cells zT 128)).alloc (.cells zT 128)) := ⟨by rw [hw3, hw2, hw1]⟩
  clear hw1 hw2 hw3 s1 s2 b1 b2 b3 c12 c23
  obtain ⟨G, hG⟩ : ∃ G, G = Alu.moved f n fill := ⟨_, rfl⟩
  have HG := Kp.mk hG
  rw [← hG]
  have hn1 := hn.1
  have hn2 := hn.2
  clear hG hn
  unfold arrT
  go_enter Tryz.func61, Tryz.ntmps61
  go_wp2
  rw [← HW.out]
  go_loopw [8] (fun i wr => ∃ j : Nat, j ≤ 32 ∧ i = .int .i64 j ∧ Kp (RowT wr 128 w.heap.size w.heap.size f) ∧ Kp (RowT wr 128 w.heap.size (w.heap.size + 1) (fun _ => false)) ∧ Kp (RowT wr 128 w.heap.size (w.heap.size + 2) (fun i => if i < j then G i else false)) ∧ Kp (Below w.heap.size w wr)) (fun i _ => 32 - (intOf i).toNat)
  case atStart => exact ⟨0, by omega, rfl, HX, HR, ⟨HS.out.congr (fun i _ => by simp)⟩, HB⟩
  case round =>
    clear hzv
    obtain ⟨j, hj, rfl, HX, HR, HS, HB⟩ := hrel
    by_cases hlt : j < 32
    · have hb : decide ((j : Int) < 32) = true := decide_eq_true (by omega)
      obtain ⟨t, ht⟩ : ∃ t, t = (j : Int) - n := ⟨_, rfl⟩
      have ht' : (j : Int) - n = t := ht.symm
      have ht1 : -32 < t ∧ t < 64 := by omega
      have hs1 := HS.out.cell j hlt
      have hs2 := HS.out.frozen j
      have HS1 := Kp.mk (HS.out.stored j fill)
      have hs3 := HS1.out.cell j hlt
      have hs4 := HS1.out.frozen j
      have HX1 := Kp.mk (HX.out.otherCell (i := j) (g' := w.heap.size + 2) (by omega) (.bool fill))
      have HR1 := Kp.mk (HR.out.otherCell (i := j) (g' := w.heap.size + 2) (by omega) (.bool fill))
      have HB1 := Kp.mk (HB.out.setCell (p := ⟨w.heap.size + 2, j, none⟩) (Nat.le_add_right _ _) (.bool fill))
      by_cases hin : 0 ≤ t ∧ t < 32
      · obtain ⟨p, rfl⟩ := Int.eq_ofNat_of_zero_le hin.1
        have t1 : decide ((0 : Int) ≤ (p : Int)) = true := decide_eq_true (by omega)
        have t2 : decide ((p : Int) < 32) = true := decide_eq_true (by omega)
        have hp32 : p < 32 := by omega
        have hpi : (p : Int) < 32 := by omega
        have hp0 : (0 : Int) ≤ (p : Int) := by omega
        have hx1 := HX1.out.cell p hp32
        obtain ⟨c, hc⟩ : ∃ c, c = f p := ⟨_, rfl⟩
        rw [← hc] at hx1
        have HC : Kp (G j = c) := ⟨by
          rw [HG.out, Alu.moved, if_pos (by omega), hc]
          congr 1
          omega⟩
        clear hc ht hin
        go_wp2
        go_roundw
        case rel =>
          refine ⟨j + 1, by omega, by go_num, ⟨HX1.out.otherCell (by omega) _⟩, ⟨HR1.out.otherCell (by omega) _⟩, ⟨(HS1.out.stored j c).congr (fun i hi => ?_)⟩, ⟨HB1.out.setCell (p := ⟨w.heap.size + 2, j, none⟩) (Nat.le_add_right _ _) _⟩⟩
          by_cases e : i = j
          · subst e; simp [HC.out]
          · have : (i < j + 1) ↔ (i < j) := by omega
            simp [e, this]
        case measure => simp [intOf]; omega
      · have HC : Kp (G j = fill) := ⟨by rw [HG.out, Alu.moved, if_neg (by omega)]⟩
        by_cases hin1 : 0 ≤ t
        · have t1 : decide ((0 : Int) ≤ t) = true := decide_eq_true hin1
          have t2 : decide (t < 32) = false := decide_eq_false (by omega)
          clear ht hin hin1
          go_wp2
          go_roundw
          case rel =>
            refine ⟨j + 1, by omega, by go_num, HX1, HR1, ⟨HS1.out.congr (fun i hi => ?_)⟩, HB1⟩
            by_cases e : i = j
            · subst e; simp [HC.out]
            · have : (i < j + 1) ↔ (i < j) := by omega
              simp [e, this]
          case measure => simp [intOf]; omega
        · have t1 : decide ((0 : Int) ≤ t) = false := decide_eq_false hin1
          clear ht hin hin1
          go_wp2
          go_roundw
          case rel =>
            refine ⟨j + 1, by omega, by go_num, HX1, HR1, ⟨HS1.out.congr (fun i hi => ?_)⟩, HB1⟩
            by_cases e : i = j
            · subst e; simp [HC.out]
            · have : (i < j + 1) ↔ (i < j) := by omega
              simp [e, this]
          case measure => simp [intOf]; omega
    · have : j = 32 := by omega
      subst this
      have HS1 : Kp (RowT wr 128 w.heap.size (w.heap.size + 2) G) := ⟨HS.out.congr (fun i hi => by simp [hi])⟩
      go_wp2_with (first
        | (refine wpList_load_row rfl 128 _ rfl (w.heap.size + 2) rfl 128 (Alu.rowL G).toArray (0, 0) _ HS1.out.block Tryz.underlying128 rfl (infoT _) ?_)
        | (refine wpList_store_row rfl 128 _ _ rfl (w.heap.size + 1) (Alu.rowL G).toArray rfl rfl 128 _ HR.out.block (infoT _) (by simp [Alu.rowL_length]) (arrT_one _) ?_))
      refine bodyPost_ret (results_cell_row (p := 6) (ty := 128) rfl _ _ (w.heap.size + 1) 128 (Alu.rowL G).toArray (0, 0) _ rfl (HR.out.all _).block Tryz.underlying128 rfl (infoT _)) rfl ?_
      exact ⟨rfl, below_setRow HB.out (Nat.le_add_right _ _) _⟩
end Go.Proofs.YtadikbmbadldpaaGreatDoor
namespace Go.Proofs.YtadikbmbadldpaaGreatDoor
open Go Go.RowKit
set_option linter.unusedVariables false

set_option maxRecDepth 100000 in
set_option maxHeartbeats 4000000 in
theorem ref_logic3 (b c : BitVec 32) (w : World) :
    Calls Tryz.prog 59 #[.int .i64 3, .int .u32 (b.toNat : Int), .int .u32 (c.toNat : Int)] w fun e w' => e = .returned (.int .u32 ((b &&& c).toNat : Int)) ∧ Below w.heap.size w w' := by
  have hzv := zvT
  obtain ⟨Z, hZ⟩ : ∃ Z, Z = b &&& c := ⟨_, rfl⟩
  have HZ : Kp (∀ i, i < 32 → Z.getLsbD i = (b.getLsbD i && c.getLsbD i)) := ⟨fun i hi => by rw [hZ]; simp [BitVec.getLsbD_and, BitVec.getLsbD_or, BitVec.getLsbD_xor]⟩
  rw [← hZ]
  clear hZ
  go_enter Tryz.func59, Tryz.ntmps59
  go_wp2_with fail
  refine (ref_row b _).mono ?_
  rintro e w1 ⟨rfl, hb⟩
  have HB1 := Kp.mk hb
  clear hb
  go_wp2_with fail
  refine (ref_row c _).mono ?_
  rintro e w2 ⟨rfl, hb⟩
  have HB2 := Kp.mk (HB1.out.trans (hb.mono HB1.out.size))
  clear hb
  unfold rowVB arrT
  have HZ1 := Kp.mk (((RowT.zero w2).mono HB2.out.size).later ((Below.refl _ _).alloc (Nat.le_refl _) (.cells zT 128)))
  have HBA := Kp.mk (HB2.out.alloc HB2.out.size (.cells zT 128))
  have HZ2 : Kp (RowT ((w2.alloc (.cells zT 128)).alloc (.cells zT 128)) 128 w.heap.size (w2.heap.size + 1) (fun _ => false)) := ⟨by
    have h := (RowT.zero (w2.alloc (.cells zT 128))).mono HBA.out.size
    rw [show (w2.alloc (.cells zT 128)).heap.size = w2.heap.size + 1 from Array.size_push _] at h
    exact h⟩
  have HBB := Kp.mk (HBA.out.alloc HBA.out.size (.cells zT 128))
  have HG2 : Kp (w.heap.size ≤ w2.heap.size) := ⟨HB2.out.size⟩
  have HR1 := Kp.mk (HZ1.out.all (fun i => b.getLsbD i))
  have HZ3 := Kp.mk (HZ2.out.other (g' := w2.heap.size) (by omega) (Alu.rowL fun i => b.getLsbD i).toArray)
  have HR2 := Kp.mk (HZ3.out.all (fun i => c.getLsbD i))
  have HR3 := Kp.mk (HR1.out.other (g' := w2.heap.size + 1) (by omega) (Alu.rowL fun i => c.getLsbD i).toArray)
  have HBC := Kp.mk (below_setRow (below_setRow HBB.out HG2.out (Alu.rowL fun i => b.getLsbD i).toArray) (Nat.le_succ_of_le HG2.out) (Alu.rowL fun i => c.getLsbD i).toArray)
  have a1 := (Below.refl ((((w2.alloc (.cells zT 128)).alloc (.cells zT 128)).setRow w2.heap.size (Alu.rowL fun i => b.getLsbD i).toArray).setRow (w2.heap.size + 1) (Alu.rowL fun i => c.getLsbD i).toArray).heap.size _).alloc (Nat.le_refl _) (.cells zT 128)
  have HX := Kp.mk (HR3.out.later a1)
  have HY := Kp.mk (HR2.out.later a1)
  have HF : Kp (RowT (((((w2.alloc (.cells zT 128)).alloc (.cells zT 128)).setRow w2.heap.size (Alu.rowL fun i => b.getLsbD i).toArray).setRow (w2.heap.size + 1) (Alu.rowL fun i => c.getLsbD i).toArray).alloc (.cells zT 128)) 128 w.heap.size (w2.heap.size + 2) (fun _ => false)) := ⟨by
    have h := (RowT.zero ((((w2.alloc (.cells zT 128)).alloc (.cells zT 128)).setRow w2.heap.size (Alu.rowL fun i => b.getLsbD i).toArray).setRow (w2.heap.size + 1) (Alu.rowL fun i => c.getLsbD i).toArray)).mono HBC.out.size
    rw [show ((((w2.alloc (.cells zT 128)).alloc (.cells zT 128)).setRow w2.heap.size (Alu.rowL fun i => b.getLsbD i).toArray).setRow (w2.heap.size + 1) (Alu.rowL fun i => c.getLsbD i).toArray).heap.size = w2.heap.size + 2 by
      rw [setRow_size, setRow_size]; exact (Array.size_push _).trans (congrArg (· + 1) (Array.size_push _))] at h
    exact h⟩
  have HBD := Kp.mk (HBC.out.alloc HBC.out.size (.cells zT 128))
  clear a1
  go_wp2_with (first
    | (refine wpList_store_row rfl 128 _ _ rfl w2.heap.size (Alu.rowL fun i => b.getLsbD i).toArray rfl rfl 128 _ HZ1.out.block (infoT _) (by simp [Alu.rowL_length]) (arrT_one _) ?_)
    | (refine wpList_store_row rfl 128 _ _ rfl (w2.heap.size + 1) (Alu.rowL fun i => c.getLsbD i).toArray rfl rfl 128 _ HZ3.out.block (infoT _) (by simp [Alu.rowL_length]) (arrT_one _) ?_))
  go_loopw [10] (fun i wr => ∃ j : Nat, j ≤ 32 ∧ i = .int .i64 j ∧ Kp (RowT wr 128 w.heap.size w2.heap.size (fun i => b.getLsbD i)) ∧ Kp (RowT wr 128 w.heap.size (w2.heap.size + 1) (fun i => c.getLsbD i)) ∧ Kp (RowT wr 128 w.heap.size (w2.heap.size + 2) (fun i => if i < j then Z.getLsbD i else false)) ∧ Kp (Below w.heap.size w wr)) (fun i _ => 32 - (intOf i).toNat)
  case atStart => exact ⟨0, by omega, rfl, HX, HY, ⟨HF.out.congr (fun i _ => by simp)⟩, HBD⟩
  case round =>
    clear hzv
    obtain ⟨j, hj, rfl, HX, HY, HF, HB⟩ := hrel
    obtain ⟨w5, rfl⟩ : ∃ w5 : World, w5 = wr := ⟨_, rfl⟩
    by_cases hlt : j < 32
    · have hb : decide ((j : Int) < 32) = true := decide_eq_true (by omega)
      have hj0 : (0 : Int) ≤ (j : Int) := by omega
      have hj1 : (j : Int) < 32 := by omega
      have hx1 := HX.out.cell j hlt
      have hy1 := HY.out.cell j hlt
      have hs1 := HF.out.cell j hlt
      have hs2 := HF.out.frozen j
      have HZJ := Kp.mk (HZ.out j hlt)
      obtain ⟨cx, hcx⟩ : ∃ cx, cx = b.getLsbD j := ⟨_, rfl⟩
      obtain ⟨cy, hcy⟩ : ∃ cy, cy = c.getLsbD j := ⟨_, rfl⟩
      rw [← hcx] at hx1 HZJ
      rw [← hcy] at hy1 HZJ
      clear hcx hcy
      cases cx <;> cases cy
      all_goals (
        go_wp2
        go_roundw
        case rel =>
          refine ⟨j + 1, (by omega), (by go_num), ⟨HX.out.otherCell (by omega) _⟩, ⟨HY.out.otherCell (by omega) _⟩, ⟨(HF.out.stored j _).congr (fun i hi => ?_)⟩, ⟨HB.out.setCell (p := ⟨w2.heap.size + 2, j, none⟩) (Nat.le_add_right_of_le HG2.out) _⟩⟩
          by_cases e : i = j
          · subst e; simp [HZJ.out]
          · have : (i < j + 1) ↔ (i < j) := by omega
            simp [e, this]
        case measure => simp [intOf]; omega)
    · have : j = 32 := by omega
      subst this
      have HS1 : Kp (RowT w5 128 w.heap.size (w2.heap.size + 2) (fun i => Z.getLsbD i)) := ⟨HF.out.congr (fun i hi => by simp [hi])⟩
      go_wp2_with (first
        | (refine wpList_load_row rfl 128 _ rfl (w2.heap.size + 2) rfl 128 (Alu.rowL fun i => Z.getLsbD i).toArray (0, 0) _ HS1.out.block Tryz.underlying128 rfl (infoT _) ?_)
        | (refine (ref_number _ Z _ (fun _ _ => rfl)).mono ?_; rintro e w4 ⟨rfl, hb4⟩))
      go_ret
      exact ⟨rfl, HB.out.trans (hb4.mono HB.out.size)⟩
set_option maxRecDepth 100000 in
set_option maxHeartbeats 4000000 in
theorem ref_logic4 (b c : BitVec 32) (w : World) :
    Calls Tryz.prog 59 #[.int .i64 4, .int .u32 (b.toNat : Int), .int .u32 (c.toNat : Int)] w fun e w' => e = .returned (.int .u32 ((b ||| c).toNat : Int)) ∧ Below w.heap.size w w' := by
  have hzv := zvT
  obtain ⟨Z, hZ⟩ : ∃ Z, Z = b ||| c := ⟨_, rfl⟩
  have HZ : Kp (∀ i, i < 32 → Z.getLsbD i = (b.getLsbD i || c.getLsbD i)) := ⟨fun i hi => by rw [hZ]; simp [BitVec.getLsbD_and, BitVec.getLsbD_or, BitVec.getLsbD_xor]⟩
  rw [← hZ]
  clear hZ
  go_enter Tryz.func59, Tryz.ntmps59
  go_wp2_with fail
  refine (ref_row b _).mono ?_
  rintro e w1 ⟨rfl, hb⟩
  have HB1 := Kp.mk hb
  clear hb
  go_wp2_with fail
  refine (ref_row c _).mono ?_
  rintro e w2 ⟨rfl, hb⟩
  have HB2 := Kp.mk (HB1.out.trans (hb.mono HB1.out.size))
  clear hb
  unfold rowVB arrT
  have HZ1 := Kp.mk (((RowT.zero w2).mono HB2.out.size).later ((Below.refl _ _).alloc (Nat.le_refl _) (.cells zT 128)))
  have HBA := Kp.mk (HB2.out.alloc HB2.out.size (.cells zT 128))
  have HZ2 : Kp (RowT ((w2.alloc (.cells zT 128)).alloc (.cells zT 128)) 128 w.heap.size (w2.heap.size + 1) (fun _ => false)) := ⟨by
    have h := (RowT.zero (w2.alloc (.cells zT 128))).mono HBA.out.size
    rw [show (w2.alloc (.cells zT 128)).heap.size = w2.heap.size + 1 from Array.size_push _] at h
    exact h⟩
  have HBB := Kp.mk (HBA.out.alloc HBA.out.size (.cells zT 128))
  have HG2 : Kp (w.heap.size ≤ w2.heap.size) := ⟨HB2.out.size⟩
  have HR1 := Kp.mk (HZ1.out.all (fun i => b.getLsbD i))
  have HZ3 := Kp.mk (HZ2.out.other (g' := w2.heap.size) (by omega) (Alu.rowL fun i => b.getLsbD i).toArray)
  have HR2 := Kp.mk (HZ3.out.all (fun i => c.getLsbD i))
  have HR3 := Kp.mk (HR1.out.other (g' := w2.heap.size + 1) (by omega) (Alu.rowL fun i => c.getLsbD i).toArray)
  have HBC := Kp.mk (below_setRow (below_setRow HBB.out HG2.out (Alu.rowL fun i => b.getLsbD i).toArray) (Nat.le_succ_of_le HG2.out) (Alu.rowL fun i => c.getLsbD i).toArray)
  have a1 := (Below.refl ((((w2.alloc (.cells zT 128)).alloc (.cells zT 128)).setRow w2.heap.size (Alu.rowL fun i => b.getLsbD i).toArray).setRow (w2.heap.size + 1) (Alu.rowL fun i => c.getLsbD i).toArray).heap.size _).alloc (Nat.le_refl _) (.cells zT 128)
  have HX := Kp.mk (HR3.out.later a1)
  have HY := Kp.mk (HR2.out.later a1)
  have HF : Kp (RowT (((((w2.alloc (.cells zT 128)).alloc (.cells zT 128)).setRow w2.heap.size (Alu.rowL fun i => b.getLsbD i).toArray).setRow (w2.heap.size + 1) (Alu.rowL fun i => c.getLsbD i).toArray).alloc (.cells zT 128)) 128 w.heap.size (w2.heap.size + 2) (fun _ => false)) := ⟨by
    have h := (RowT.zero ((((w2.alloc (.cells zT 128)).alloc (.cells zT 128)).setRow w2.heap.size (Alu.rowL fun i => b.getLsbD i).toArray).setRow (w2.heap.size + 1) (Alu.rowL fun i => c.getLsbD i).toArray)).mono HBC.out.size
    rw [show ((((w2.alloc (.cells zT 128)).alloc (.cells zT 128)).setRow w2.heap.size (Alu.rowL fun i => b.getLsbD i).toArray).setRow (w2.heap.size + 1) (Alu.rowL fun i => c.getLsbD i).toArray).heap.size = w2.heap.size + 2 by
      rw [setRow_size, setRow_size]; exact (Array.size_push _).trans (congrArg (· + 1) (Array.size_push _))] at h
    exact h⟩
  have HBD := Kp.mk (HBC.out.alloc HBC.out.size (.cells zT 128))
  clear a1
  go_wp2_with (first
    | (refine wpList_store_row rfl 128 _ _ rfl w2.heap.size (Alu.rowL fun i => b.getLsbD i).toArray rfl rfl 128 _ HZ1.out.block (infoT _) (by simp [Alu.rowL_length]) (arrT_one _) ?_)
    | (refine wpList_store_row rfl 128 _ _ rfl (w2.heap.size + 1) (Alu.rowL fun i => c.getLsbD i).toArray rfl rfl 128 _ HZ3.out.block (infoT _) (by simp [Alu.rowL_length]) (arrT_one _) ?_))
  go_loopw [10] (fun i wr => ∃ j : Nat, j ≤ 32 ∧ i = .int .i64 j ∧ Kp (RowT wr 128 w.heap.size w2.heap.size (fun i => b.getLsbD i)) ∧ Kp (RowT wr 128 w.heap.size (w2.heap.size + 1) (fun i => c.getLsbD i)) ∧ Kp (RowT wr 128 w.heap.size (w2.heap.size + 2) (fun i => if i < j then Z.getLsbD i else false)) ∧ Kp (Below w.heap.size w wr)) (fun i _ => 32 - (intOf i).toNat)
  case atStart => exact ⟨0, by omega, rfl, HX, HY, ⟨HF.out.congr (fun i _ => by simp)⟩, HBD⟩
  case round =>
    clear hzv
    obtain ⟨j, hj, rfl, HX, HY, HF, HB⟩ := hrel
    obtain ⟨w5, rfl⟩ : ∃ w5 : World, w5 = wr := ⟨_, rfl⟩
    by_cases hlt : j < 32
    · have hb : decide ((j : Int) < 32) = true := decide_eq_true (by omega)
      have hj0 : (0 : Int) ≤ (j : Int) := by omega
      have hj1 : (j : Int) < 32 := by omega
      have hx1 := HX.out.cell j hlt
      have hy1 := HY.out.cell j hlt
      have hs1 := HF.out.cell j hlt
      have hs2 := HF.out.frozen j
      have HZJ := Kp.mk (HZ.out j hlt)
      obtain ⟨cx, hcx⟩ : ∃ cx, cx = b.getLsbD j := ⟨_, rfl⟩
      obtain ⟨cy, hcy⟩ : ∃ cy, cy = c.getLsbD j := ⟨_, rfl⟩
      rw [← hcx] at hx1 HZJ
      rw [← hcy] at hy1 HZJ
      clear hcx hcy
      cases cx <;> cases cy
      all_goals (
        go_wp2
        go_roundw
        case rel =>
          refine ⟨j + 1, (by omega), (by go_num), ⟨HX.out.otherCell (by omega) _⟩, ⟨HY.out.otherCell (by omega) _⟩, ⟨(HF.out.stored j _).congr (fun i hi => ?_)⟩, ⟨HB.out.setCell (p := ⟨w2.heap.size + 2, j, none⟩) (Nat.le_add_right_of_le HG2.out) _⟩⟩
          by_cases e : i = j
          · subst e; simp [HZJ.out]
          · have : (i < j + 1) ↔ (i < j) := by omega
            simp [e, this]
        case measure => simp [intOf]; omega)
    · have : j = 32 := by omega
      subst this
      have HS1 : Kp (RowT w5 128 w.heap.size (w2.heap.size + 2) (fun i => Z.getLsbD i)) := ⟨HF.out.congr (fun i hi => by simp [hi])⟩
      go_wp2_with (first
        | (refine wpList_load_row rfl 128 _ rfl (w2.heap.size + 2) rfl 128 (Alu.rowL fun i => Z.getLsbD i).toArray (0, 0) _ HS1.out.block Tryz.underlying128 rfl (infoT _) ?_)
        | (refine (ref_number _ Z _ (fun _ _ => rfl)).mono ?_; rintro e w4 ⟨rfl, hb4⟩))
      go_ret
      exact ⟨rfl, HB.out.trans (hb4.mono HB.out.size)⟩
set_option maxRecDepth 100000 in
set_option maxHeartbeats 4000000 in
theorem ref_logic5 (b c : BitVec 32) (w : World) :
    Calls Tryz.prog 59 #[.int .i64 5, .int .u32 (b.toNat : Int), .int .u32 (c.toNat : Int)] w fun e w' => e = .returned (.int .u32 ((b ^^^ c).toNat : Int)) ∧ Below w.heap.size w w' := by
  have hzv := zvT
  obtain ⟨Z, hZ⟩ : ∃ Z, Z = b ^^^ c := ⟨_, rfl⟩
  have HZ : Kp (∀ i, i < 32 → Z.getLsbD i = (b.getLsbD i ^^ c.getLsbD i)) := ⟨fun i hi => by rw [hZ]; simp [BitVec.getLsbD_and, BitVec.getLsbD_or, BitVec.getLsbD_xor]⟩
  rw [← hZ]
  clear hZ
  go_enter Tryz.func59, Tryz.ntmps59
  go_wp2_with fail
  refine (ref_row b _).mono ?_
  rintro e w1 ⟨rfl, hb⟩
  have HB1 := Kp.mk hb
  clear hb
  go_wp2_with fail
  refine (ref_row c _).mono ?_
  rintro e w2 ⟨rfl, hb⟩
  have HB2 := Kp.mk (HB1.out.trans (hb.mono HB1.out.size))
  clear hb
  unfold rowVB arrT
  have HZ1 := Kp.mk (((RowT.zero w2).mono HB2.out.size).later ((Below.refl _ _).alloc (Nat.le_refl _) (.cells zT 128)))
  have HBA := Kp.mk (HB2.out.alloc HB2.out.size (.cells zT 128))
  have HZ2 : Kp (RowT ((w2.alloc (.cells zT 128)).alloc (.cells zT 128)) 128 w.heap.size (w2.heap.size + 1) (fun _ => false)) := ⟨by
    have h := (RowT.zero (w2.alloc (.cells zT 128))).mono HBA.out.size
    rw [show (w2.alloc (.cells zT 128)).heap.size = w2.heap.size + 1 from Array.size_push _] at h
    exact h⟩
  have HBB := Kp.mk (HBA.out.alloc HBA.out.size (.cells zT 128))
  have HG2 : Kp (w.heap.size ≤ w2.heap.size) := ⟨HB2.out.size⟩
  have HR1 := Kp.mk (HZ1.out.all (fun i => b.getLsbD i))
  have HZ3 := Kp.mk (HZ2.out.other (g' := w2.heap.size) (by omega) (Alu.rowL fun i => b.getLsbD i).toArray)
  have HR2 := Kp.mk (HZ3.out.all (fun i => c.getLsbD i))
  have HR3 := Kp.mk (HR1.out.other (g' := w2.heap.size + 1) (by omega) (Alu.rowL fun i => c.getLsbD i).toArray)
  have HBC := Kp.mk (below_setRow (below_setRow HBB.out HG2.out (Alu.rowL fun i => b.getLsbD i).toArray) (Nat.le_succ_of_le HG2.out) (Alu.rowL fun i => c.getLsbD i).toArray)
  have a1 := (Below.refl ((((w2.alloc (.cells zT 128)).alloc (.cells zT 128)).setRow w2.heap.size (Alu.rowL fun i => b.getLsbD i).toArray).setRow (w2.heap.size + 1) (Alu.rowL fun i => c.getLsbD i).toArray).heap.size _).alloc (Nat.le_refl _) (.cells zT 128)
  have HX := Kp.mk (HR3.out.later a1)
  have HY := Kp.mk (HR2.out.later a1)
  have HF : Kp (RowT (((((w2.alloc (.cells zT 128)).alloc (.cells zT 128)).setRow w2.heap.size (Alu.rowL fun i => b.getLsbD i).toArray).setRow (w2.heap.size + 1) (Alu.rowL fun i => c.getLsbD i).toArray).alloc (.cells zT 128)) 128 w.heap.size (w2.heap.size + 2) (fun _ => false)) := ⟨by
    have h := (RowT.zero ((((w2.alloc (.cells zT 128)).alloc (.cells zT 128)).setRow w2.heap.size (Alu.rowL fun i => b.getLsbD i).toArray).setRow (w2.heap.size + 1) (Alu.rowL fun i => c.getLsbD i).toArray)).mono HBC.out.size
    rw [show ((((w2.alloc (.cells zT 128)).alloc (.cells zT 128)).setRow w2.heap.size (Alu.rowL fun i => b.getLsbD i).toArray).setRow (w2.heap.size + 1) (Alu.rowL fun i => c.getLsbD i).toArray).heap.size = w2.heap.size + 2 by
      rw [setRow_size, setRow_size]; exact (Array.size_push _).trans (congrArg (· + 1) (Array.size_push _))] at h
    exact h⟩
  have HBD := Kp.mk (HBC.out.alloc HBC.out.size (.cells zT 128))
  clear a1
  go_wp2_with (first
    | (refine wpList_store_row rfl 128 _ _ rfl w2.heap.size (Alu.rowL fun i => b.getLsbD i).toArray rfl rfl 128 _ HZ1.out.block (infoT _) (by simp [Alu.rowL_length]) (arrT_one _) ?_)
    | (refine wpList_store_row rfl 128 _ _ rfl (w2.heap.size + 1) (Alu.rowL fun i => c.getLsbD i).toArray rfl rfl 128 _ HZ3.out.block (infoT _) (by simp [Alu.rowL_length]) (arrT_one _) ?_))
  go_loopw [10] (fun i wr => ∃ j : Nat, j ≤ 32 ∧ i = .int .i64 j ∧ Kp (RowT wr 128 w.heap.size w2.heap.size (fun i => b.getLsbD i)) ∧ Kp (RowT wr 128 w.heap.size (w2.heap.size + 1) (fun i => c.getLsbD i)) ∧ Kp (RowT wr 128 w.heap.size (w2.heap.size + 2) (fun i => if i < j then Z.getLsbD i else false)) ∧ Kp (Below w.heap.size w wr)) (fun i _ => 32 - (intOf i).toNat)
  case atStart => exact ⟨0, by omega, rfl, HX, HY, ⟨HF.out.congr (fun i _ => by simp)⟩, HBD⟩
  case round =>
    clear hzv
    obtain ⟨j, hj, rfl, HX, HY, HF, HB⟩ := hrel
    obtain ⟨w5, rfl⟩ : ∃ w5 : World, w5 = wr := ⟨_, rfl⟩
    by_cases hlt : j < 32
    · have hb : decide ((j : Int) < 32) = true := decide_eq_true (by omega)
      have hj0 : (0 : Int) ≤ (j : Int) := by omega
      have hj1 : (j : Int) < 32 := by omega
      have hx1 := HX.out.cell j hlt
      have hy1 := HY.out.cell j hlt
      have hs1 := HF.out.cell j hlt
      have hs2 := HF.out.frozen j
      have HZJ := Kp.mk (HZ.out j hlt)
      obtain ⟨cx, hcx⟩ : ∃ cx, cx = b.getLsbD j := ⟨_, rfl⟩
      obtain ⟨cy, hcy⟩ : ∃ cy, cy = c.getLsbD j := ⟨_, rfl⟩
      rw [← hcx] at hx1 HZJ
      rw [← hcy] at hy1 HZJ
      clear hcx hcy
      cases cx <;> cases cy
      all_goals (
        go_wp2
        go_region
        all_goals (
          go_wp2
          go_roundw
          case rel =>
            refine ⟨j + 1, (by omega), (by go_num), ⟨(HX.out.later (Drew.once w5).below).otherCell (by omega) _⟩, ⟨(HY.out.later (Drew.once w5).below).otherCell (by omega) _⟩, ⟨((HF.out.later (Drew.once w5).below).stored j _).congr (fun i hi => ?_)⟩, ⟨HB.out.drew.setCell (p := ⟨w2.heap.size + 2, j, none⟩) (Nat.le_add_right_of_le HG2.out) _⟩⟩
            by_cases e : i = j
            · subst e; simp [HZJ.out]
            · have : (i < j + 1) ↔ (i < j) := by omega
              simp [e, this]
          case measure => simp [intOf]; omega))
    · have : j = 32 := by omega
      subst this
      have HS1 : Kp (RowT w5 128 w.heap.size (w2.heap.size + 2) (fun i => Z.getLsbD i)) := ⟨HF.out.congr (fun i hi => by simp [hi])⟩
      go_wp2_with (first
        | (refine wpList_load_row rfl 128 _ rfl (w2.heap.size + 2) rfl 128 (Alu.rowL fun i => Z.getLsbD i).toArray (0, 0) _ HS1.out.block Tryz.underlying128 rfl (infoT _) ?_)
        | (refine (ref_number _ Z _ (fun _ _ => rfl)).mono ?_; rintro e w4 ⟨rfl, hb4⟩))
      go_ret
      exact ⟨rfl, HB.out.trans (hb4.mono HB.out.size)⟩
set_option maxRecDepth 100000 in
theorem ref_divide_no (op : Int) (b c : BitVec 32) (w : World) (hc : c = 0#32) :
    Calls Tryz.prog 63 #[.int .i64 op, .int .u32 (b.toNat : Int), .int .u32 (c.toNat : Int)] w fun e w' => e = .returned (.tuple #[.int .u32 0, .int .i64 20]) ∧ w' = w := by
  have hz : ((c.toNat : Int) == 0) = true := by rw [hc]; rfl
  clear hc
  go_enter Tryz.func63, Tryz.ntmps63
  go_wp2
  go_ret2
  exact ⟨rfl, rfl⟩
theorem div_is (b c : BitVec 32) (w : World) (hc : c ≠ 0#32) :
    Calls Tryz.prog 81 #[.int .u32 0, .int .u32 (b.toNat : Int), .int .u32 (c.toNat : Int)] w fun e w' => e = .returned (.tuple #[.int .u32 ((b / c).toNat : Int), .int .u32 ((b % c).toNat : Int), .int .i64 0]) ∧ Below w.heap.size w w' := by
  have hlt : (0#32 : BitVec 32).toNat < c.toNat := by
    show 0 < c.toNat
    rcases Nat.eq_zero_or_pos c.toNat with e | e
    · exact absurd (BitVec.eq_of_toNat_eq e) hc
    · exact e
  refine (ref_div 0#32 b c w hlt).mono ?_
  rintro e w' ⟨⟨q, r, rfl, h1, h2⟩, hb⟩
  obtain ⟨e1, e2⟩ := Alu.udiv_of h1 h2
  exact ⟨by rw [e1, e2], hb⟩
set_option maxRecDepth 100000 in
theorem ref_divide10 (b c : BitVec 32) (w : World) (hc : c ≠ 0#32) :
    Calls Tryz.prog 63 #[.int .i64 10, .int .u32 (b.toNat : Int), .int .u32 (c.toNat : Int)] w fun e w' => e = .returned (.tuple #[.int .u32 ((b / c).toNat : Int), .int .i64 0]) ∧ Below w.heap.size w w' := by
  have K := Kp.mk (fun w => div_is b c w hc)
  have hz : ((c.toNat : Int) == 0) = false := by
    rw [beq_eq_false_iff_ne]; intro e; exact hc (BitVec.eq_of_toNat_eq (by show c.toNat = 0; omega))
  clear hc
  go_enter Tryz.func63, Tryz.ntmps63
  go_wp2_with fail
  refine (K.out _).mono ?_
  rintro e w1 ⟨rfl, hb⟩
  have B := Kp.mk hb; clear hb
  go_wp2
  go_ret2
  exact ⟨rfl, B.out⟩
set_option maxRecDepth 100000 in
theorem ref_divide12 (b c : BitVec 32) (w : World) (hc : c ≠ 0#32) :
    Calls Tryz.prog 63 #[.int .i64 12, .int .u32 (b.toNat : Int), .int .u32 (c.toNat : Int)] w fun e w' => e = .returned (.tuple #[.int .u32 ((b % c).toNat : Int), .int .i64 0]) ∧ Below w.heap.size w w' := by
  have K := Kp.mk (fun w => div_is b c w hc)
  have hz : ((c.toNat : Int) == 0) = false := by
    rw [beq_eq_false_iff_ne]; intro e; exact hc (BitVec.eq_of_toNat_eq (by show c.toNat = 0; omega))
  clear hc
  go_enter Tryz.func63, Tryz.ntmps63
  go_wp2_with fail
  refine (K.out _).mono ?_
  rintro e w1 ⟨rfl, hb⟩
  have B := Kp.mk hb; clear hb
  go_wp2
  go_ret2
  exact ⟨rfl, B.out⟩
set_option maxRecDepth 100000 in
theorem ref_divide11 (b c : BitVec 32) (w : World) (hc : c ≠ 0#32) :
    Calls Tryz.prog 63 #[.int .i64 11, .int .u32 (b.toNat : Int), .int .u32 (c.toNat : Int)] w fun e w' => e = .returned (.tuple #[.int .u32 ((BitVec.ofInt 32 (b.toInt.tdiv c.toInt)).toNat : Int), .int .i64 0]) ∧ Below w.heap.size w w' := by
  have hs := Alu.sdiv_mag b c
  rw [← Alu.udiv_nat] at hs
  have C := fun w => div_is (Alu.mag b) (Alu.mag c) w (Alu.mag_zero c hc)
  obtain ⟨q, hq⟩ : ∃ q, q = Alu.mag b / Alu.mag c := ⟨_, rfl⟩
  obtain ⟨r, hr⟩ : ∃ r, r = Alu.mag b % Alu.mag c := ⟨_, rfl⟩
  rw [← hq, ← hr] at C
  rw [← hq] at hs
  have KM := Kp.mk (fun w => ref_mag b w)
  have KN := Kp.mk (fun w => ref_mag c w)
  have CM := KM.out
  have CN := KN.out
  clear KM KN
  obtain ⟨mb, hmb⟩ : ∃ mb, mb = Alu.mag b := ⟨_, rfl⟩
  obtain ⟨mc, hmc⟩ : ∃ mc, mc = Alu.mag c := ⟨_, rfl⟩
  rw [← hmb, ← hmc] at C
  rw [← hmb] at CM
  rw [← hmc] at CN
  obtain ⟨z, hz0⟩ : ∃ z, z = BitVec.ofInt 32 (b.toInt.tdiv c.toInt) := ⟨_, rfl⟩
  rw [← hz0] at hs ⊢
  have K := Kp.mk C
  have KM := Kp.mk CM
  have KN := Kp.mk CN
  have HS := Kp.mk hs
  have hz : ((c.toNat : Int) == 0) = false := by
    rw [beq_eq_false_iff_ne]; intro e; exact hc (BitVec.eq_of_toNat_eq (by show c.toNat = 0; omega))
  have SB := Kp.mk (fun w => ref_signed b w)
  have SC := Kp.mk (fun w => ref_signed c w)
  clear hc hs C CM CN hq hr hmb hmc hz0
  obtain ⟨sb, hsb⟩ : ∃ sb, sb = decide (b.toInt < 0) := ⟨_, rfl⟩
  obtain ⟨sc, hsc⟩ : ∃ sc, sc = decide (c.toInt < 0) := ⟨_, rfl⟩
  rw [← hsb, ← hsc] at HS
  have hsb' := hsb.symm
  have hsc' := hsc.symm
  clear hsb hsc
  go_enter Tryz.func63, Tryz.ntmps63
  go_wp2_with fail
  refine (KM.out _).mono ?_
  rintro e w1 ⟨rfl, hb⟩
  have B1 := Kp.mk hb; clear hb
  go_wp2_with fail
  refine (KN.out _).mono ?_
  rintro e w2 ⟨rfl, hb⟩
  have B2 := Kp.mk (B1.out.trans (hb.mono B1.out.size)); clear hb
  go_wp2_with fail
  refine (K.out _).mono ?_
  rintro e w3 ⟨rfl, hb⟩
  have B3 := Kp.mk (B2.out.trans (hb.mono B2.out.size)); clear hb
  go_wp2_with fail
  refine (SB.out _).mono ?_
  rintro e w4 ⟨rfl, hw⟩
  obtain rfl := hw.symm
  clear hw
  go_wp2_with fail
  refine (SC.out _).mono ?_
  rintro e w4 ⟨rfl, hw⟩
  obtain rfl := hw.symm
  clear hw
  cases sb <;> cases sc
  all_goals (
    first
      | (have hsz : z = -q := HS.out
         clear HS
         go_wp2_with fail
         refine (ref_minus q _).mono ?_
         rintro e w5 ⟨rfl, hb⟩
         have B5 := Kp.mk (B3.out.trans (hb.mono B3.out.size)); clear hb
         have HSZ := Kp.mk hsz
         clear hsz
         go_wp2
         go_ret2
         exact ⟨by rw [HSZ.out]; rfl, B5.out⟩)
      | (have hsz : z = q := HS.out
         clear HS
         have HSZ := Kp.mk hsz
         clear hsz
         go_wp2
         go_ret2
         exact ⟨by rw [HSZ.out]; rfl, B3.out⟩))
set_option maxRecDepth 100000 in
theorem ref_divide13 (b c : BitVec 32) (w : World) (hc : c ≠ 0#32) :
    Calls Tryz.prog 63 #[.int .i64 13, .int .u32 (b.toNat : Int), .int .u32 (c.toNat : Int)] w fun e w' => e = .returned (.tuple #[.int .u32 ((BitVec.ofInt 32 (b.toInt.tmod c.toInt)).toNat : Int), .int .i64 0]) ∧ Below w.heap.size w w' := by
  have hs := Alu.smod_mag b c
  rw [← Alu.umod_nat] at hs
  have C := fun w => div_is (Alu.mag b) (Alu.mag c) w (Alu.mag_zero c hc)
  obtain ⟨q, hq⟩ : ∃ q, q = Alu.mag b / Alu.mag c := ⟨_, rfl⟩
  obtain ⟨r, hr⟩ : ∃ r, r = Alu.mag b % Alu.mag c := ⟨_, rfl⟩
  rw [← hq, ← hr] at C
  rw [← hr] at hs
  have KM := Kp.mk (fun w => ref_mag b w)
  have KN := Kp.mk (fun w => ref_mag c w)
  have CM := KM.out
  have CN := KN.out
  clear KM KN
  obtain ⟨mb, hmb⟩ : ∃ mb, mb = Alu.mag b := ⟨_, rfl⟩
  obtain ⟨mc, hmc⟩ : ∃ mc, mc = Alu.mag c := ⟨_, rfl⟩
  rw [← hmb, ← hmc] at C
  rw [← hmb] at CM
  rw [← hmc] at CN
  obtain ⟨z, hz0⟩ : ∃ z, z = BitVec.ofInt 32 (b.toInt.tmod c.toInt) := ⟨_, rfl⟩
  rw [← hz0] at hs ⊢
  have K := Kp.mk C
  have KM := Kp.mk CM
  have KN := Kp.mk CN
  have HS := Kp.mk hs
  have hz : ((c.toNat : Int) == 0) = false := by
    rw [beq_eq_false_iff_ne]; intro e; exact hc (BitVec.eq_of_toNat_eq (by show c.toNat = 0; omega))
  have SB := Kp.mk (fun w => ref_signed b w)
  have SC := Kp.mk (fun w => ref_signed c w)
  clear hc hs C CM CN hq hr hmb hmc hz0
  obtain ⟨sb, hsb⟩ : ∃ sb, sb = decide (b.toInt < 0) := ⟨_, rfl⟩
  obtain ⟨sc, hsc⟩ : ∃ sc, sc = decide (c.toInt < 0) := ⟨_, rfl⟩
  rw [← hsb] at HS
  have hsb' := hsb.symm
  have hsc' := hsc.symm
  clear hsb hsc
  go_enter Tryz.func63, Tryz.ntmps63
  go_wp2_with fail
  refine (KM.out _).mono ?_
  rintro e w1 ⟨rfl, hb⟩
  have B1 := Kp.mk hb; clear hb
  go_wp2_with fail
  refine (KN.out _).mono ?_
  rintro e w2 ⟨rfl, hb⟩
  have B2 := Kp.mk (B1.out.trans (hb.mono B1.out.size)); clear hb
  go_wp2_with fail
  refine (K.out _).mono ?_
  rintro e w3 ⟨rfl, hb⟩
  have B3 := Kp.mk (B2.out.trans (hb.mono B2.out.size)); clear hb
  go_wp2_with fail
  refine (SB.out _).mono ?_
  rintro e w4 ⟨rfl, hw⟩
  obtain rfl := hw.symm
  clear hw
  clear hsc' SC sc
  cases sb
  all_goals (
    first
      | (have hsz : z = -r := HS.out
         clear HS
         go_wp2_with fail
         refine (ref_minus r _).mono ?_
         rintro e w5 ⟨rfl, hb⟩
         have B5 := Kp.mk (B3.out.trans (hb.mono B3.out.size)); clear hb
         have HSZ := Kp.mk hsz
         clear hsz
         go_wp2
         go_ret2
         exact ⟨by rw [HSZ.out]; rfl, B5.out⟩)
      | (have hsz : z = r := HS.out
         clear HS
         have HSZ := Kp.mk hsz
         clear hsz
         go_wp2
         go_ret2
         exact ⟨by rw [HSZ.out]; rfl, B3.out⟩))
end Go.Proofs.YtadikbmbadldpaaGreatDoor
namespace Go.Proofs.YtadikbmbadldpaaGreatDoor
open Go Go.RowKit
set_option linter.unusedVariables false

set_option maxRecDepth 100000 in
set_option maxHeartbeats 4000000 in
theorem ref_do_1 (b c : BitVec 32) (w : World) :
    Calls Tryz.prog 37 #[.int .i64 1, .int .u32 (b.toNat : Int), .int .u32 (c.toNat : Int)] w fun e w' => e = .returned (.tuple #[.int .u32 ((b + c).toNat : Int), .int .i64 0]) ∧ Below w.heap.size w w' := by
  have hzv := zvT
  obtain ⟨s, hs⟩ : ∃ s, s = c.toNat % 32 := ⟨_, rfl⟩
  have hs1 : (c.toNat : Int) % 32 = (s : Int) := by omega
  have HS : Kp (s = c.toNat % 32) := ⟨hs⟩
  have hs32 : (s : Int) < 32 := by omega
  have hs0 : (0 : Int) ≤ (s : Int) := by omega
  have CA := fun w => ref_addc b c false w
  rw [Alu.adc_add] at CA
  obtain ⟨z, hz⟩ : ∃ z, z = b + c := ⟨_, rfl⟩
  obtain ⟨o, ho⟩ : ∃ o, o = (Alu.adc b c false).2 := ⟨_, rfl⟩
  rw [← hz, ← ho] at CA
  rw [← hz]
  have KA := Kp.mk CA
  clear CA hz ho
  clear hs
  go_enter Tryz.func37, Tryz.ntmps37
  go_wp2_with fail
  refine (ref_row b _).mono ?_
  rintro e w1 ⟨rfl, hb⟩
  have HB1 := Kp.mk hb
  clear hb
  unfold rowVB arrT
  have HL := Kp.mk (row_laid HB1.out (fun i => b.getLsbD i))
  go_wp2_with (first
    | (refine wpList_store_row rfl 128 _ _ rfl w1.heap.size (Alu.rowL fun i => b.getLsbD i).toArray rfl rfl 128 _ (RowT.zero w1).block (infoT _) (by simp [Alu.rowL_length]) (arrT_one _) ?_)
    | (refine wpList_load_row rfl 128 _ rfl w1.heap.size rfl 128 (Alu.rowL fun i => b.getLsbD i).toArray (0, 0) _ HL.out.1.block Tryz.underlying128 rfl (infoT _) ?_))
  refine (KA.out _).mono ?_
  rintro e w2 ⟨rfl, hb⟩
  have B2 := Kp.mk (HL.out.2.trans (hb.mono HL.out.2.size)); clear hb
  go_wp2
  go_ret2
  exact ⟨rfl, B2.out⟩
set_option maxRecDepth 100000 in
set_option maxHeartbeats 4000000 in
theorem ref_do_2 (b c : BitVec 32) (w : World) :
    Calls Tryz.prog 37 #[.int .i64 2, .int .u32 (b.toNat : Int), .int .u32 (c.toNat : Int)] w fun e w' => e = .returned (.tuple #[.int .u32 ((b - c).toNat : Int), .int .i64 0]) ∧ Below w.heap.size w w' := by
  have hzv := zvT
  obtain ⟨s, hs⟩ : ∃ s, s = c.toNat % 32 := ⟨_, rfl⟩
  have hs1 : (c.toNat : Int) % 32 = (s : Int) := by omega
  have HS : Kp (s = c.toNat % 32) := ⟨hs⟩
  have hs32 : (s : Int) < 32 := by omega
  have hs0 : (0 : Int) ≤ (s : Int) := by omega
  have CA := fun w => ref_subb b c false w
  rw [show (!false) = true from rfl, Alu.adc_sub] at CA
  obtain ⟨z, hz⟩ : ∃ z, z = b - c := ⟨_, rfl⟩
  obtain ⟨o, ho⟩ : ∃ o, o = !(Alu.adc b (~~~c) true).2 := ⟨_, rfl⟩
  rw [← hz, ← ho] at CA
  rw [← hz]
  have KA := Kp.mk CA
  clear CA hz ho
  clear hs
  go_enter Tryz.func37, Tryz.ntmps37
  go_wp2_with fail
  refine (ref_row b _).mono ?_
  rintro e w1 ⟨rfl, hb⟩
  have HB1 := Kp.mk hb
  clear hb
  unfold rowVB arrT
  have HL := Kp.mk (row_laid HB1.out (fun i => b.getLsbD i))
  go_wp2_with (first
    | (refine wpList_store_row rfl 128 _ _ rfl w1.heap.size (Alu.rowL fun i => b.getLsbD i).toArray rfl rfl 128 _ (RowT.zero w1).block (infoT _) (by simp [Alu.rowL_length]) (arrT_one _) ?_)
    | (refine wpList_load_row rfl 128 _ rfl w1.heap.size rfl 128 (Alu.rowL fun i => b.getLsbD i).toArray (0, 0) _ HL.out.1.block Tryz.underlying128 rfl (infoT _) ?_))
  refine (KA.out _).mono ?_
  rintro e w2 ⟨rfl, hb⟩
  have B2 := Kp.mk (HL.out.2.trans (hb.mono HL.out.2.size)); clear hb
  go_wp2
  go_ret2
  exact ⟨rfl, B2.out⟩
set_option maxRecDepth 100000 in
set_option maxHeartbeats 4000000 in
theorem ref_do_3 (b c : BitVec 32) (w : World) :
    Calls Tryz.prog 37 #[.int .i64 3, .int .u32 (b.toNat : Int), .int .u32 (c.toNat : Int)] w fun e w' => e = .returned (.tuple #[.int .u32 ((b &&& c).toNat : Int), .int .i64 0]) ∧ Below w.heap.size w w' := by
  have hzv := zvT
  obtain ⟨s, hs⟩ : ∃ s, s = c.toNat % 32 := ⟨_, rfl⟩
  have hs1 : (c.toNat : Int) % 32 = (s : Int) := by omega
  have HS : Kp (s = c.toNat % 32) := ⟨hs⟩
  have hs32 : (s : Int) < 32 := by omega
  have hs0 : (0 : Int) ≤ (s : Int) := by omega
  clear hs
  go_enter Tryz.func37, Tryz.ntmps37
  go_wp2_with fail
  refine (ref_row b _).mono ?_
  rintro e w1 ⟨rfl, hb⟩
  have HB1 := Kp.mk hb
  clear hb
  unfold rowVB arrT
  have HL := Kp.mk (row_laid HB1.out (fun i => b.getLsbD i))
  go_wp2_with (first
    | (refine wpList_store_row rfl 128 _ _ rfl w1.heap.size (Alu.rowL fun i => b.getLsbD i).toArray rfl rfl 128 _ (RowT.zero w1).block (infoT _) (by simp [Alu.rowL_length]) (arrT_one _) ?_)
    | (refine wpList_load_row rfl 128 _ rfl w1.heap.size rfl 128 (Alu.rowL fun i => b.getLsbD i).toArray (0, 0) _ HL.out.1.block Tryz.underlying128 rfl (infoT _) ?_))
  refine (ref_logic3 b c _).mono ?_
  rintro e w2 ⟨rfl, hb⟩
  have B2 := Kp.mk (HL.out.2.trans (hb.mono HL.out.2.size)); clear hb
  go_wp2
  go_ret2
  exact ⟨rfl, B2.out⟩
set_option maxRecDepth 100000 in
set_option maxHeartbeats 4000000 in
theorem ref_do_4 (b c : BitVec 32) (w : World) :
    Calls Tryz.prog 37 #[.int .i64 4, .int .u32 (b.toNat : Int), .int .u32 (c.toNat : Int)] w fun e w' => e = .returned (.tuple #[.int .u32 ((b ||| c).toNat : Int), .int .i64 0]) ∧ Below w.heap.size w w' := by
  have hzv := zvT
  obtain ⟨s, hs⟩ : ∃ s, s = c.toNat % 32 := ⟨_, rfl⟩
  have hs1 : (c.toNat : Int) % 32 = (s : Int) := by omega
  have HS : Kp (s = c.toNat % 32) := ⟨hs⟩
  have hs32 : (s : Int) < 32 := by omega
  have hs0 : (0 : Int) ≤ (s : Int) := by omega
  clear hs
  go_enter Tryz.func37, Tryz.ntmps37
  go_wp2_with fail
  refine (ref_row b _).mono ?_
  rintro e w1 ⟨rfl, hb⟩
  have HB1 := Kp.mk hb
  clear hb
  unfold rowVB arrT
  have HL := Kp.mk (row_laid HB1.out (fun i => b.getLsbD i))
  go_wp2_with (first
    | (refine wpList_store_row rfl 128 _ _ rfl w1.heap.size (Alu.rowL fun i => b.getLsbD i).toArray rfl rfl 128 _ (RowT.zero w1).block (infoT _) (by simp [Alu.rowL_length]) (arrT_one _) ?_)
    | (refine wpList_load_row rfl 128 _ rfl w1.heap.size rfl 128 (Alu.rowL fun i => b.getLsbD i).toArray (0, 0) _ HL.out.1.block Tryz.underlying128 rfl (infoT _) ?_))
  refine (ref_logic4 b c _).mono ?_
  rintro e w2 ⟨rfl, hb⟩
  have B2 := Kp.mk (HL.out.2.trans (hb.mono HL.out.2.size)); clear hb
  go_wp2
  go_ret2
  exact ⟨rfl, B2.out⟩
set_option maxRecDepth 100000 in
set_option maxHeartbeats 4000000 in
theorem ref_do_5 (b c : BitVec 32) (w : World) :
    Calls Tryz.prog 37 #[.int .i64 5, .int .u32 (b.toNat : Int), .int .u32 (c.toNat : Int)] w fun e w' => e = .returned (.tuple #[.int .u32 ((b ^^^ c).toNat : Int), .int .i64 0]) ∧ Below w.heap.size w w' := by
  have hzv := zvT
  obtain ⟨s, hs⟩ : ∃ s, s = c.toNat % 32 := ⟨_, rfl⟩
  have hs1 : (c.toNat : Int) % 32 = (s : Int) := by omega
  have HS : Kp (s = c.toNat % 32) := ⟨hs⟩
  have hs32 : (s : Int) < 32 := by omega
  have hs0 : (0 : Int) ≤ (s : Int) := by omega
  clear hs
  go_enter Tryz.func37, Tryz.ntmps37
  go_wp2_with fail
  refine (ref_row b _).mono ?_
  rintro e w1 ⟨rfl, hb⟩
  have HB1 := Kp.mk hb
  clear hb
  unfold rowVB arrT
  have HL := Kp.mk (row_laid HB1.out (fun i => b.getLsbD i))
  go_wp2_with (first
    | (refine wpList_store_row rfl 128 _ _ rfl w1.heap.size (Alu.rowL fun i => b.getLsbD i).toArray rfl rfl 128 _ (RowT.zero w1).block (infoT _) (by simp [Alu.rowL_length]) (arrT_one _) ?_)
    | (refine wpList_load_row rfl 128 _ rfl w1.heap.size rfl 128 (Alu.rowL fun i => b.getLsbD i).toArray (0, 0) _ HL.out.1.block Tryz.underlying128 rfl (infoT _) ?_))
  refine (ref_logic5 b c _).mono ?_
  rintro e w2 ⟨rfl, hb⟩
  have B2 := Kp.mk (HL.out.2.trans (hb.mono HL.out.2.size)); clear hb
  go_wp2
  go_ret2
  exact ⟨rfl, B2.out⟩
set_option maxRecDepth 100000 in
set_option maxHeartbeats 4000000 in
theorem ref_do_6 (b c : BitVec 32) (w : World) :
    Calls Tryz.prog 37 #[.int .i64 6, .int .u32 (b.toNat : Int), .int .u32 (c.toNat : Int)] w fun e w' => e = .returned (.tuple #[.int .u32 ((b <<< (c.toNat % 32)).toNat : Int), .int .i64 0]) ∧ Below w.heap.size w w' := by
  have hzv := zvT
  obtain ⟨s, hs⟩ : ∃ s, s = c.toNat % 32 := ⟨_, rfl⟩
  have hs1 : (c.toNat : Int) % 32 = (s : Int) := by omega
  have HS : Kp (s = c.toNat % 32) := ⟨hs⟩
  have hs32 : (s : Int) < 32 := by omega
  have hs0 : (0 : Int) ≤ (s : Int) := by omega
  obtain ⟨Z, hZ⟩ : ∃ Z, Z = b <<< (c.toNat % 32) := ⟨_, rfl⟩
  have HN : Kp (∀ i, i < 32 → Alu.moved (fun i => b.getLsbD i) (s : Int) false i = Z.getLsbD i) := ⟨fun i hi => by rw [hZ, ← hs]; exact Alu.moved_shl b s i hi⟩
  rw [← hZ]
  clear hZ
  clear hs
  go_enter Tryz.func37, Tryz.ntmps37
  go_wp2_with fail
  refine (ref_row b _).mono ?_
  rintro e w1 ⟨rfl, hb⟩
  have HB1 := Kp.mk hb
  clear hb
  unfold rowVB arrT
  have HL := Kp.mk (row_laid HB1.out (fun i => b.getLsbD i))
  go_wp2_with (first
    | (refine wpList_store_row rfl 128 _ _ rfl w1.heap.size (Alu.rowL fun i => b.getLsbD i).toArray rfl rfl 128 _ (RowT.zero w1).block (infoT _) (by simp [Alu.rowL_length]) (arrT_one _) ?_)
    | (refine wpList_load_row rfl 128 _ rfl w1.heap.size rfl 128 (Alu.rowL fun i => b.getLsbD i).toArray (0, 0) _ HL.out.1.block Tryz.underlying128 rfl (infoT _) ?_))
  refine (ref_move (fun i => b.getLsbD i) (s : Int) false _ (by omega)).mono ?_
  rintro e w2 ⟨rfl, hb⟩
  have B2 := Kp.mk (HL.out.2.trans (hb.mono HL.out.2.size)); clear hb
  go_wp2_with fail
  refine (ref_number _ Z _ HN.out).mono ?_
  rintro e w3 ⟨rfl, hb⟩
  have B3 := Kp.mk (B2.out.trans (hb.mono B2.out.size)); clear hb
  go_wp2
  go_ret2
  exact ⟨rfl, B3.out⟩
set_option maxRecDepth 100000 in
set_option maxHeartbeats 4000000 in
theorem ref_do_7 (b c : BitVec 32) (w : World) :
    Calls Tryz.prog 37 #[.int .i64 7, .int .u32 (b.toNat : Int), .int .u32 (c.toNat : Int)] w fun e w' => e = .returned (.tuple #[.int .u32 ((b >>> (c.toNat % 32)).toNat : Int), .int .i64 0]) ∧ Below w.heap.size w w' := by
  have hzv := zvT
  obtain ⟨s, hs⟩ : ∃ s, s = c.toNat % 32 := ⟨_, rfl⟩
  have hs1 : (c.toNat : Int) % 32 = (s : Int) := by omega
  have HS : Kp (s = c.toNat % 32) := ⟨hs⟩
  have hs32 : (s : Int) < 32 := by omega
  have hs0 : (0 : Int) ≤ (s : Int) := by omega
  obtain ⟨Z, hZ⟩ : ∃ Z, Z = b >>> (c.toNat % 32) := ⟨_, rfl⟩
  have HN : Kp (∀ i, i < 32 → Alu.moved (fun i => b.getLsbD i) (-(s : Int)) false i = Z.getLsbD i) := ⟨fun i hi => by rw [hZ, ← hs]; exact Alu.moved_shr b s i hi⟩
  rw [← hZ]
  clear hZ
  clear hs
  go_enter Tryz.func37, Tryz.ntmps37
  go_wp2_with fail
  refine (ref_row b _).mono ?_
  rintro e w1 ⟨rfl, hb⟩
  have HB1 := Kp.mk hb
  clear hb
  unfold rowVB arrT
  have HL := Kp.mk (row_laid HB1.out (fun i => b.getLsbD i))
  go_wp2_with (first
    | (refine wpList_store_row rfl 128 _ _ rfl w1.heap.size (Alu.rowL fun i => b.getLsbD i).toArray rfl rfl 128 _ (RowT.zero w1).block (infoT _) (by simp [Alu.rowL_length]) (arrT_one _) ?_)
    | (refine wpList_load_row rfl 128 _ rfl w1.heap.size rfl 128 (Alu.rowL fun i => b.getLsbD i).toArray (0, 0) _ HL.out.1.block Tryz.underlying128 rfl (infoT _) ?_))
  refine (ref_move (fun i => b.getLsbD i) (-(s : Int)) false _ (by omega)).mono ?_
  rintro e w2 ⟨rfl, hb⟩
  have B2 := Kp.mk (HL.out.2.trans (hb.mono HL.out.2.size)); clear hb
  go_wp2_with fail
  refine (ref_number _ Z _ HN.out).mono ?_
  rintro e w3 ⟨rfl, hb⟩
  have B3 := Kp.mk (B2.out.trans (hb.mono B2.out.size)); clear hb
  go_wp2
  go_ret2
  exact ⟨rfl, B3.out⟩
set_option maxRecDepth 100000 in
set_option maxHeartbeats 4000000 in
theorem ref_do_8 (b c : BitVec 32) (w : World) :
    Calls Tryz.prog 37 #[.int .i64 8, .int .u32 (b.toNat : Int), .int .u32 (c.toNat : Int)] w fun e w' => e = .returned (.tuple #[.int .u32 ((b.sshiftRight (c.toNat % 32)).toNat : Int), .int .i64 0]) ∧ Below w.heap.size w w' := by
  have hzv := zvT
  obtain ⟨s, hs⟩ : ∃ s, s = c.toNat % 32 := ⟨_, rfl⟩
  have hs1 : (c.toNat : Int) % 32 = (s : Int) := by omega
  have HS : Kp (s = c.toNat % 32) := ⟨hs⟩
  have hs32 : (s : Int) < 32 := by omega
  have hs0 : (0 : Int) ≤ (s : Int) := by omega
  obtain ⟨Z, hZ⟩ : ∃ Z, Z = b.sshiftRight (c.toNat % 32) := ⟨_, rfl⟩
  have HN : Kp (∀ i, i < 32 → Alu.moved (fun i => b.getLsbD i) (-(s : Int)) (b.getLsbD 31) i = Z.getLsbD i) := ⟨fun i hi => by rw [hZ, ← hs]; exact Alu.moved_sar b s i hi⟩
  rw [← hZ]
  clear hZ
  clear hs
  go_enter Tryz.func37, Tryz.ntmps37
  go_wp2_with fail
  refine (ref_row b _).mono ?_
  rintro e w1 ⟨rfl, hb⟩
  have HB1 := Kp.mk hb
  clear hb
  unfold rowVB arrT
  have HL := Kp.mk (row_laid HB1.out (fun i => b.getLsbD i))
  have hc31 := HL.out.1.cell 31 (by omega)
  obtain ⟨fl, hfl⟩ : ∃ fl, fl = b.getLsbD 31 := ⟨_, rfl⟩
  rw [← hfl] at hc31 HN
  clear hfl
  go_wp2_with (first
    | (refine wpList_store_row rfl 128 _ _ rfl w1.heap.size (Alu.rowL fun i => b.getLsbD i).toArray rfl rfl 128 _ (RowT.zero w1).block (infoT _) (by simp [Alu.rowL_length]) (arrT_one _) ?_)
    | (refine wpList_load_row rfl 128 _ rfl w1.heap.size rfl 128 (Alu.rowL fun i => b.getLsbD i).toArray (0, 0) _ HL.out.1.block Tryz.underlying128 rfl (infoT _) ?_))
  refine (ref_move (fun i => b.getLsbD i) (-(s : Int)) fl _ (by omega)).mono ?_
  rintro e w2 ⟨rfl, hb⟩
  have B2 := Kp.mk (HL.out.2.trans (hb.mono HL.out.2.size)); clear hb
  go_wp2_with fail
  refine (ref_number _ Z _ HN.out).mono ?_
  rintro e w3 ⟨rfl, hb⟩
  have B3 := Kp.mk (B2.out.trans (hb.mono B2.out.size)); clear hb
  go_wp2
  go_ret2
  exact ⟨rfl, B3.out⟩
set_option maxRecDepth 100000 in
set_option maxHeartbeats 4000000 in
theorem ref_do_9 (b c : BitVec 32) (w : World) :
    Calls Tryz.prog 37 #[.int .i64 9, .int .u32 (b.toNat : Int), .int .u32 (c.toNat : Int)] w fun e w' => e = .returned (.tuple #[.int .u32 ((b * c).toNat : Int), .int .i64 0]) ∧ Below w.heap.size w w' := by
  have hzv := zvT
  obtain ⟨s, hs⟩ : ∃ s, s = c.toNat % 32 := ⟨_, rfl⟩
  have hs1 : (c.toNat : Int) % 32 = (s : Int) := by omega
  have HS : Kp (s = c.toNat % 32) := ⟨hs⟩
  have hs32 : (s : Int) < 32 := by omega
  have hs0 : (0 : Int) ≤ (s : Int) := by omega
  clear hs
  go_enter Tryz.func37, Tryz.ntmps37
  go_wp2_with fail
  refine (ref_row b _).mono ?_
  rintro e w1 ⟨rfl, hb⟩
  have HB1 := Kp.mk hb
  clear hb
  unfold rowVB arrT
  have HL := Kp.mk (row_laid HB1.out (fun i => b.getLsbD i))
  go_wp2_with (first
    | (refine wpList_store_row rfl 128 _ _ rfl w1.heap.size (Alu.rowL fun i => b.getLsbD i).toArray rfl rfl 128 _ (RowT.zero w1).block (infoT _) (by simp [Alu.rowL_length]) (arrT_one _) ?_)
    | (refine wpList_load_row rfl 128 _ rfl w1.heap.size rfl 128 (Alu.rowL fun i => b.getLsbD i).toArray (0, 0) _ HL.out.1.block Tryz.underlying128 rfl (infoT _) ?_))
  refine (ref_mul b c _).mono ?_
  rintro e w2 ⟨⟨h, l, rfl, hl⟩, hb⟩
  have B2 := Kp.mk (HL.out.2.trans (hb.mono HL.out.2.size)); clear hb
  have HLO := Kp.mk (Alu.lo_mul hl)
  clear hl
  go_wp2
  go_ret2
  exact ⟨by rw [← HLO.out]; rfl, B2.out⟩
set_option maxRecDepth 100000 in
set_option maxHeartbeats 4000000 in
theorem ref_do_10 (b c : BitVec 32) (w : World) (hc0 : c ≠ 0#32) :
    Calls Tryz.prog 37 #[.int .i64 10, .int .u32 (b.toNat : Int), .int .u32 (c.toNat : Int)] w fun e w' => e = .returned (.tuple #[.int .u32 ((b / c).toNat : Int), .int .i64 0]) ∧ Below w.heap.size w w' := by
  have hzv := zvT
  obtain ⟨s, hs⟩ : ∃ s, s = c.toNat % 32 := ⟨_, rfl⟩
  have hs1 : (c.toNat : Int) % 32 = (s : Int) := by omega
  have HS : Kp (s = c.toNat % 32) := ⟨hs⟩
  have hs32 : (s : Int) < 32 := by omega
  have hs0 : (0 : Int) ≤ (s : Int) := by omega
  have HCN := Kp.mk hc0
  clear hc0
  clear hs
  go_enter Tryz.func37, Tryz.ntmps37
  go_wp2_with fail
  refine (ref_row b _).mono ?_
  rintro e w1 ⟨rfl, hb⟩
  have HB1 := Kp.mk hb
  clear hb
  unfold rowVB arrT
  have HL := Kp.mk (row_laid HB1.out (fun i => b.getLsbD i))
  go_wp2_with (first
    | (refine wpList_store_row rfl 128 _ _ rfl w1.heap.size (Alu.rowL fun i => b.getLsbD i).toArray rfl rfl 128 _ (RowT.zero w1).block (infoT _) (by simp [Alu.rowL_length]) (arrT_one _) ?_)
    | (refine wpList_load_row rfl 128 _ rfl w1.heap.size rfl 128 (Alu.rowL fun i => b.getLsbD i).toArray (0, 0) _ HL.out.1.block Tryz.underlying128 rfl (infoT _) ?_))
  refine (ref_divide10 b c _ HCN.out).mono ?_
  rintro e w2 ⟨rfl, hb⟩
  have B2 := Kp.mk (HL.out.2.trans (hb.mono HL.out.2.size)); clear hb
  go_wp2
  go_ret2
  exact ⟨rfl, B2.out⟩
set_option maxRecDepth 100000 in
set_option maxHeartbeats 4000000 in
theorem ref_do_10_no (b c : BitVec 32) (w : World) (hc0 : c = 0#32) :
    Calls Tryz.prog 37 #[.int .i64 10, .int .u32 (b.toNat : Int), .int .u32 (c.toNat : Int)] w fun e w' => e = .returned (.tuple #[.int .u32 ((0#32).toNat : Int), .int .i64 20]) ∧ Below w.heap.size w w' := by
  have hzv := zvT
  obtain ⟨s, hs⟩ : ∃ s, s = c.toNat % 32 := ⟨_, rfl⟩
  have hs1 : (c.toNat : Int) % 32 = (s : Int) := by omega
  have HS : Kp (s = c.toNat % 32) := ⟨hs⟩
  have hs32 : (s : Int) < 32 := by omega
  have hs0 : (0 : Int) ≤ (s : Int) := by omega
  have HCN := Kp.mk hc0
  clear hc0
  clear hs
  go_enter Tryz.func37, Tryz.ntmps37
  go_wp2_with fail
  refine (ref_row b _).mono ?_
  rintro e w1 ⟨rfl, hb⟩
  have HB1 := Kp.mk hb
  clear hb
  unfold rowVB arrT
  have HL := Kp.mk (row_laid HB1.out (fun i => b.getLsbD i))
  go_wp2_with (first
    | (refine wpList_store_row rfl 128 _ _ rfl w1.heap.size (Alu.rowL fun i => b.getLsbD i).toArray rfl rfl 128 _ (RowT.zero w1).block (infoT _) (by simp [Alu.rowL_length]) (arrT_one _) ?_)
    | (refine wpList_load_row rfl 128 _ rfl w1.heap.size rfl 128 (Alu.rowL fun i => b.getLsbD i).toArray (0, 0) _ HL.out.1.block Tryz.underlying128 rfl (infoT _) ?_))
  refine (ref_divide_no 10 b c _ HCN.out).mono ?_
  rintro e w2 ⟨rfl, hw⟩
  have hb : Below ((w1.alloc (.cells zT 128)).setRow w1.heap.size (Alu.rowL fun i => b.getLsbD i).toArray).heap.size ((w1.alloc (.cells zT 128)).setRow w1.heap.size (Alu.rowL fun i => b.getLsbD i).toArray) w2 := by rw [hw]; exact Below.refl _ _
  clear hw
  have B2 := Kp.mk (HL.out.2.trans (hb.mono HL.out.2.size)); clear hb
  go_wp2
  go_ret2
  exact ⟨rfl, B2.out⟩
set_option maxRecDepth 100000 in
set_option maxHeartbeats 4000000 in
theorem ref_do_11 (b c : BitVec 32) (w : World) (hc0 : c ≠ 0#32) :
    Calls Tryz.prog 37 #[.int .i64 11, .int .u32 (b.toNat : Int), .int .u32 (c.toNat : Int)] w fun e w' => e = .returned (.tuple #[.int .u32 ((BitVec.ofInt 32 (b.toInt.tdiv c.toInt)).toNat : Int), .int .i64 0]) ∧ Below w.heap.size w w' := by
  have hzv := zvT
  obtain ⟨s, hs⟩ : ∃ s, s = c.toNat % 32 := ⟨_, rfl⟩
  have hs1 : (c.toNat : Int) % 32 = (s : Int) := by omega
  have HS : Kp (s = c.toNat % 32) := ⟨hs⟩
  have hs32 : (s : Int) < 32 := by omega
  have hs0 : (0 : Int) ≤ (s : Int) := by omega
  have CD := fun w => ref_divide11 b c w hc0
  obtain ⟨z, hz⟩ : ∃ z, z = BitVec.ofInt 32 (b.toInt.tdiv c.toInt) := ⟨_, rfl⟩
  rw [← hz] at CD
  rw [← hz]
  have KD := Kp.mk CD
  clear CD hz hc0
  clear hs
  go_enter Tryz.func37, Tryz.ntmps37
  go_wp2_with fail
  refine (ref_row b _).mono ?_
  rintro e w1 ⟨rfl, hb⟩
  have HB1 := Kp.mk hb
  clear hb
  unfold rowVB arrT
  have HL := Kp.mk (row_laid HB1.out (fun i => b.getLsbD i))
  go_wp2_with (first
    | (refine wpList_store_row rfl 128 _ _ rfl w1.heap.size (Alu.rowL fun i => b.getLsbD i).toArray rfl rfl 128 _ (RowT.zero w1).block (infoT _) (by simp [Alu.rowL_length]) (arrT_one _) ?_)
    | (refine wpList_load_row rfl 128 _ rfl w1.heap.size rfl 128 (Alu.rowL fun i => b.getLsbD i).toArray (0, 0) _ HL.out.1.block Tryz.underlying128 rfl (infoT _) ?_))
  refine (KD.out _).mono ?_
  rintro e w2 ⟨rfl, hb⟩
  have B2 := Kp.mk (HL.out.2.trans (hb.mono HL.out.2.size)); clear hb
  go_wp2
  go_ret2
  exact ⟨rfl, B2.out⟩
set_option maxRecDepth 100000 in
set_option maxHeartbeats 4000000 in
theorem ref_do_11_no (b c : BitVec 32) (w : World) (hc0 : c = 0#32) :
    Calls Tryz.prog 37 #[.int .i64 11, .int .u32 (b.toNat : Int), .int .u32 (c.toNat : Int)] w fun e w' => e = .returned (.tuple #[.int .u32 ((0#32).toNat : Int), .int .i64 20]) ∧ Below w.heap.size w w' := by
  have hzv := zvT
  obtain ⟨s, hs⟩ : ∃ s, s = c.toNat % 32 := ⟨_, rfl⟩
  have hs1 : (c.toNat : Int) % 32 = (s : Int) := by omega
  have HS : Kp (s = c.toNat % 32) := ⟨hs⟩
  have hs32 : (s : Int) < 32 := by omega
  have hs0 : (0 : Int) ≤ (s : Int) := by omega
  have HCN := Kp.mk hc0
  clear hc0
  clear hs
  go_enter Tryz.func37, Tryz.ntmps37
  go_wp2_with fail
  refine (ref_row b _).mono ?_
  rintro e w1 ⟨rfl, hb⟩
  have HB1 := Kp.mk hb
  clear hb
  unfold rowVB arrT
  have HL := Kp.mk (row_laid HB1.out (fun i => b.getLsbD i))
  go_wp2_with (first
    | (refine wpList_store_row rfl 128 _ _ rfl w1.heap.size (Alu.rowL fun i => b.getLsbD i).toArray rfl rfl 128 _ (RowT.zero w1).block (infoT _) (by simp [Alu.rowL_length]) (arrT_one _) ?_)
    | (refine wpList_load_row rfl 128 _ rfl w1.heap.size rfl 128 (Alu.rowL fun i => b.getLsbD i).toArray (0, 0) _ HL.out.1.block Tryz.underlying128 rfl (infoT _) ?_))
  refine (ref_divide_no 11 b c _ HCN.out).mono ?_
  rintro e w2 ⟨rfl, hw⟩
  have hb : Below ((w1.alloc (.cells zT 128)).setRow w1.heap.size (Alu.rowL fun i => b.getLsbD i).toArray).heap.size ((w1.alloc (.cells zT 128)).setRow w1.heap.size (Alu.rowL fun i => b.getLsbD i).toArray) w2 := by rw [hw]; exact Below.refl _ _
  clear hw
  have B2 := Kp.mk (HL.out.2.trans (hb.mono HL.out.2.size)); clear hb
  go_wp2
  go_ret2
  exact ⟨rfl, B2.out⟩
set_option maxRecDepth 100000 in
set_option maxHeartbeats 4000000 in
theorem ref_do_12 (b c : BitVec 32) (w : World) (hc0 : c ≠ 0#32) :
    Calls Tryz.prog 37 #[.int .i64 12, .int .u32 (b.toNat : Int), .int .u32 (c.toNat : Int)] w fun e w' => e = .returned (.tuple #[.int .u32 ((b % c).toNat : Int), .int .i64 0]) ∧ Below w.heap.size w w' := by
  have hzv := zvT
  obtain ⟨s, hs⟩ : ∃ s, s = c.toNat % 32 := ⟨_, rfl⟩
  have hs1 : (c.toNat : Int) % 32 = (s : Int) := by omega
  have HS : Kp (s = c.toNat % 32) := ⟨hs⟩
  have hs32 : (s : Int) < 32 := by omega
  have hs0 : (0 : Int) ≤ (s : Int) := by omega
  have HCN := Kp.mk hc0
  clear hc0
  clear hs
  go_enter Tryz.func37, Tryz.ntmps37
  go_wp2_with fail
  refine (ref_row b _).mono ?_
  rintro e w1 ⟨rfl, hb⟩
  have HB1 := Kp.mk hb
  clear hb
  unfold rowVB arrT
  have HL := Kp.mk (row_laid HB1.out (fun i => b.getLsbD i))
  go_wp2_with (first
    | (refine wpList_store_row rfl 128 _ _ rfl w1.heap.size (Alu.rowL fun i => b.getLsbD i).toArray rfl rfl 128 _ (RowT.zero w1).block (infoT _) (by simp [Alu.rowL_length]) (arrT_one _) ?_)
    | (refine wpList_load_row rfl 128 _ rfl w1.heap.size rfl 128 (Alu.rowL fun i => b.getLsbD i).toArray (0, 0) _ HL.out.1.block Tryz.underlying128 rfl (infoT _) ?_))
  refine (ref_divide12 b c _ HCN.out).mono ?_
  rintro e w2 ⟨rfl, hb⟩
  have B2 := Kp.mk (HL.out.2.trans (hb.mono HL.out.2.size)); clear hb
  go_wp2
  go_ret2
  exact ⟨rfl, B2.out⟩
set_option maxRecDepth 100000 in
set_option maxHeartbeats 4000000 in
theorem ref_do_12_no (b c : BitVec 32) (w : World) (hc0 : c = 0#32) :
    Calls Tryz.prog 37 #[.int .i64 12, .int .u32 (b.toNat : Int), .int .u32 (c.toNat : Int)] w fun e w' => e = .returned (.tuple #[.int .u32 ((0#32).toNat : Int), .int .i64 20]) ∧ Below w.heap.size w w' := by
  have hzv := zvT
  obtain ⟨s, hs⟩ : ∃ s, s = c.toNat % 32 := ⟨_, rfl⟩
  have hs1 : (c.toNat : Int) % 32 = (s : Int) := by omega
  have HS : Kp (s = c.toNat % 32) := ⟨hs⟩
  have hs32 : (s : Int) < 32 := by omega
  have hs0 : (0 : Int) ≤ (s : Int) := by omega
  have HCN := Kp.mk hc0
  clear hc0
  clear hs
  go_enter Tryz.func37, Tryz.ntmps37
  go_wp2_with fail
  refine (ref_row b _).mono ?_
  rintro e w1 ⟨rfl, hb⟩
  have HB1 := Kp.mk hb
  clear hb
  unfold rowVB arrT
  have HL := Kp.mk (row_laid HB1.out (fun i => b.getLsbD i))
  go_wp2_with (first
    | (refine wpList_store_row rfl 128 _ _ rfl w1.heap.size (Alu.rowL fun i => b.getLsbD i).toArray rfl rfl 128 _ (RowT.zero w1).block (infoT _) (by simp [Alu.rowL_length]) (arrT_one _) ?_)
    | (refine wpList_load_row rfl 128 _ rfl w1.heap.size rfl 128 (Alu.rowL fun i => b.getLsbD i).toArray (0, 0) _ HL.out.1.block Tryz.underlying128 rfl (infoT _) ?_))
  refine (ref_divide_no 12 b c _ HCN.out).mono ?_
  rintro e w2 ⟨rfl, hw⟩
  have hb : Below ((w1.alloc (.cells zT 128)).setRow w1.heap.size (Alu.rowL fun i => b.getLsbD i).toArray).heap.size ((w1.alloc (.cells zT 128)).setRow w1.heap.size (Alu.rowL fun i => b.getLsbD i).toArray) w2 := by rw [hw]; exact Below.refl _ _
  clear hw
  have B2 := Kp.mk (HL.out.2.trans (hb.mono HL.out.2.size)); clear hb
  go_wp2
  go_ret2
  exact ⟨rfl, B2.out⟩
set_option maxRecDepth 100000 in
set_option maxHeartbeats 4000000 in
theorem ref_do_13 (b c : BitVec 32) (w : World) (hc0 : c ≠ 0#32) :
    Calls Tryz.prog 37 #[.int .i64 13, .int .u32 (b.toNat : Int), .int .u32 (c.toNat : Int)] w fun e w' => e = .returned (.tuple #[.int .u32 ((BitVec.ofInt 32 (b.toInt.tmod c.toInt)).toNat : Int), .int .i64 0]) ∧ Below w.heap.size w w' := by
  have hzv := zvT
  obtain ⟨s, hs⟩ : ∃ s, s = c.toNat % 32 := ⟨_, rfl⟩
  have hs1 : (c.toNat : Int) % 32 = (s : Int) := by omega
  have HS : Kp (s = c.toNat % 32) := ⟨hs⟩
  have hs32 : (s : Int) < 32 := by omega
  have hs0 : (0 : Int) ≤ (s : Int) := by omega
  have CD := fun w => ref_divide13 b c w hc0
  obtain ⟨z, hz⟩ : ∃ z, z = BitVec.ofInt 32 (b.toInt.tmod c.toInt) := ⟨_, rfl⟩
  rw [← hz] at CD
  rw [← hz]
  have KD := Kp.mk CD
  clear CD hz hc0
  clear hs
  go_enter Tryz.func37, Tryz.ntmps37
  go_wp2_with fail
  refine (ref_row b _).mono ?_
  rintro e w1 ⟨rfl, hb⟩
  have HB1 := Kp.mk hb
  clear hb
  unfold rowVB arrT
  have HL := Kp.mk (row_laid HB1.out (fun i => b.getLsbD i))
  go_wp2_with (first
    | (refine wpList_store_row rfl 128 _ _ rfl w1.heap.size (Alu.rowL fun i => b.getLsbD i).toArray rfl rfl 128 _ (RowT.zero w1).block (infoT _) (by simp [Alu.rowL_length]) (arrT_one _) ?_)
    | (refine wpList_load_row rfl 128 _ rfl w1.heap.size rfl 128 (Alu.rowL fun i => b.getLsbD i).toArray (0, 0) _ HL.out.1.block Tryz.underlying128 rfl (infoT _) ?_))
  refine (KD.out _).mono ?_
  rintro e w2 ⟨rfl, hb⟩
  have B2 := Kp.mk (HL.out.2.trans (hb.mono HL.out.2.size)); clear hb
  go_wp2
  go_ret2
  exact ⟨rfl, B2.out⟩
set_option maxRecDepth 100000 in
set_option maxHeartbeats 4000000 in
theorem ref_do_13_no (b c : BitVec 32) (w : World) (hc0 : c = 0#32) :
    Calls Tryz.prog 37 #[.int .i64 13, .int .u32 (b.toNat : Int), .int .u32 (c.toNat : Int)] w fun e w' => e = .returned (.tuple #[.int .u32 ((0#32).toNat : Int), .int .i64 20]) ∧ Below w.heap.size w w' := by
  have hzv := zvT
  obtain ⟨s, hs⟩ : ∃ s, s = c.toNat % 32 := ⟨_, rfl⟩
  have hs1 : (c.toNat : Int) % 32 = (s : Int) := by omega
  have HS : Kp (s = c.toNat % 32) := ⟨hs⟩
  have hs32 : (s : Int) < 32 := by omega
  have hs0 : (0 : Int) ≤ (s : Int) := by omega
  have HCN := Kp.mk hc0
  clear hc0
  clear hs
  go_enter Tryz.func37, Tryz.ntmps37
  go_wp2_with fail
  refine (ref_row b _).mono ?_
  rintro e w1 ⟨rfl, hb⟩
  have HB1 := Kp.mk hb
  clear hb
  unfold rowVB arrT
  have HL := Kp.mk (row_laid HB1.out (fun i => b.getLsbD i))
  go_wp2_with (first
    | (refine wpList_store_row rfl 128 _ _ rfl w1.heap.size (Alu.rowL fun i => b.getLsbD i).toArray rfl rfl 128 _ (RowT.zero w1).block (infoT _) (by simp [Alu.rowL_length]) (arrT_one _) ?_)
    | (refine wpList_load_row rfl 128 _ rfl w1.heap.size rfl 128 (Alu.rowL fun i => b.getLsbD i).toArray (0, 0) _ HL.out.1.block Tryz.underlying128 rfl (infoT _) ?_))
  refine (ref_divide_no 13 b c _ HCN.out).mono ?_
  rintro e w2 ⟨rfl, hw⟩
  have hb : Below ((w1.alloc (.cells zT 128)).setRow w1.heap.size (Alu.rowL fun i => b.getLsbD i).toArray).heap.size ((w1.alloc (.cells zT 128)).setRow w1.heap.size (Alu.rowL fun i => b.getLsbD i).toArray) w2 := by rw [hw]; exact Below.refl _ _
  clear hw
  have B2 := Kp.mk (HL.out.2.trans (hb.mono HL.out.2.size)); clear hb
  go_wp2
  go_ret2
  exact ⟨rfl, B2.out⟩
set_option maxRecDepth 100000 in
set_option maxHeartbeats 4000000 in
theorem ref_do_14 (b c : BitVec 32) (w : World) :
    Calls Tryz.prog 37 #[.int .i64 14, .int .u32 (b.toNat : Int), .int .u32 (c.toNat : Int)] w fun e w' => e = .returned (.tuple #[.int .u32 ((if b.toNat < c.toNat then 1#32 else 0#32).toNat : Int), .int .i64 0]) ∧ Below w.heap.size w w' := by
  have hzv := zvT
  obtain ⟨s, hs⟩ : ∃ s, s = c.toNat % 32 := ⟨_, rfl⟩
  have hs1 : (c.toNat : Int) % 32 = (s : Int) := by omega
  have HS : Kp (s = c.toNat % 32) := ⟨hs⟩
  have hs32 : (s : Int) < 32 := by omega
  have hs0 : (0 : Int) ≤ (s : Int) := by omega
  obtain ⟨t, ht⟩ : ∃ t, t = decide ((b.toNat : Int) < (c.toNat : Int)) := ⟨_, rfl⟩
  have ht1 : decide ((b.toNat : Int) < (c.toNat : Int)) = t := ht.symm
  have ht2 : decide (b.toNat < c.toNat) = t := by rw [ht]; simp
  obtain ⟨z, hz⟩ : ∃ z, z = (if b.toNat < c.toNat then 1#32 else 0#32 : BitVec 32) := ⟨_, rfl⟩
  have HT : Kp (tr t = (z.toNat : Int)) := ⟨by rw [hz, ← ht2]; by_cases h : b.toNat < c.toNat <;> simp [h, tr]⟩
  rw [← hz]
  clear ht hz
  clear hs
  go_enter Tryz.func37, Tryz.ntmps37
  go_wp2_with fail
  refine (ref_row b _).mono ?_
  rintro e w1 ⟨rfl, hb⟩
  have HB1 := Kp.mk hb
  clear hb
  unfold rowVB arrT
  have HL := Kp.mk (row_laid HB1.out (fun i => b.getLsbD i))
  go_wp2_with (first
    | (refine wpList_store_row rfl 128 _ _ rfl w1.heap.size (Alu.rowL fun i => b.getLsbD i).toArray rfl rfl 128 _ (RowT.zero w1).block (infoT _) (by simp [Alu.rowL_length]) (arrT_one _) ?_)
    | (refine wpList_load_row rfl 128 _ rfl w1.heap.size rfl 128 (Alu.rowL fun i => b.getLsbD i).toArray (0, 0) _ HL.out.1.block Tryz.underlying128 rfl (infoT _) ?_))
  refine (ref_truth t _).mono ?_
  rintro e w2 ⟨rfl, hw⟩
  obtain rfl := hw.symm
  clear hw
  go_wp2
  go_ret2
  exact ⟨by rw [← HT.out]; rfl, HL.out.2⟩
set_option maxRecDepth 100000 in
set_option maxHeartbeats 4000000 in
theorem ref_do_15 (b c : BitVec 32) (w : World) :
    Calls Tryz.prog 37 #[.int .i64 15, .int .u32 (b.toNat : Int), .int .u32 (c.toNat : Int)] w fun e w' => e = .returned (.tuple #[.int .u32 ((if b.toInt < c.toInt then 1#32 else 0#32).toNat : Int), .int .i64 0]) ∧ Below w.heap.size w w' := by
  have hzv := zvT
  obtain ⟨s, hs⟩ : ∃ s, s = c.toNat % 32 := ⟨_, rfl⟩
  have hs1 : (c.toNat : Int) % 32 = (s : Int) := by omega
  have HS : Kp (s = c.toNat % 32) := ⟨hs⟩
  have hs32 : (s : Int) < 32 := by omega
  have hs0 : (0 : Int) ≤ (s : Int) := by omega
  obtain ⟨t, ht⟩ : ∃ t, t = decide (b.toInt < c.toInt) := ⟨_, rfl⟩
  have ht1 : decide (b.toInt < c.toInt) = t := ht.symm
  obtain ⟨z, hz⟩ : ∃ z, z = (if b.toInt < c.toInt then 1#32 else 0#32 : BitVec 32) := ⟨_, rfl⟩
  have HT : Kp (tr t = (z.toNat : Int)) := ⟨by rw [hz, ht]; by_cases h : b.toInt < c.toInt <;> simp [h, tr]⟩
  have SB := Kp.mk (fun w => ref_signed b w)
  have SC := Kp.mk (fun w => ref_signed c w)
  rw [← hz]
  clear ht hz
  clear hs
  go_enter Tryz.func37, Tryz.ntmps37
  go_wp2_with fail
  refine (ref_row b _).mono ?_
  rintro e w1 ⟨rfl, hb⟩
  have HB1 := Kp.mk hb
  clear hb
  unfold rowVB arrT
  have HL := Kp.mk (row_laid HB1.out (fun i => b.getLsbD i))
  go_wp2_with (first
    | (refine wpList_store_row rfl 128 _ _ rfl w1.heap.size (Alu.rowL fun i => b.getLsbD i).toArray rfl rfl 128 _ (RowT.zero w1).block (infoT _) (by simp [Alu.rowL_length]) (arrT_one _) ?_)
    | (refine wpList_load_row rfl 128 _ rfl w1.heap.size rfl 128 (Alu.rowL fun i => b.getLsbD i).toArray (0, 0) _ HL.out.1.block Tryz.underlying128 rfl (infoT _) ?_))
  refine (SB.out _).mono ?_
  rintro e w4 ⟨rfl, hw⟩
  obtain rfl := hw.symm
  clear hw
  go_wp2_with fail
  refine (SC.out _).mono ?_
  rintro e w4 ⟨rfl, hw⟩
  obtain rfl := hw.symm
  clear hw
  go_wp2_with fail
  refine (ref_truth t _).mono ?_
  rintro e w2 ⟨rfl, hw⟩
  obtain rfl := hw.symm
  clear hw
  go_wp2
  go_ret2
  exact ⟨by rw [← HT.out]; rfl, HL.out.2⟩
set_option maxRecDepth 100000 in
set_option maxHeartbeats 4000000 in
theorem ref_do_no (op : Int) (b c : BitVec 32) (w : World) (hop : ¬ (1 ≤ op ∧ op ≤ 15)) :
    Calls Tryz.prog 37 #[.int .i64 op, .int .u32 (b.toNat : Int), .int .u32 (c.toNat : Int)] w fun e w' => e = .returned (.tuple #[.int .u32 0, .int .i64 7]) ∧ Below w.heap.size w w' := by
  have hzv := zvT
  obtain ⟨s, hs⟩ : ∃ s, s = c.toNat % 32 := ⟨_, rfl⟩
  have hs1 : (c.toNat : Int) % 32 = (s : Int) := by omega
  have HS : Kp (s = c.toNat % 32) := ⟨hs⟩
  have hs32 : (s : Int) < 32 := by omega
  have hs0 : (0 : Int) ≤ (s : Int) := by omega
  have n1 : (op == 1) = false := by rw [beq_eq_false_iff_ne]; omega
  have n2 : (op == 2) = false := by rw [beq_eq_false_iff_ne]; omega
  have n3 : (op == 3) = false := by rw [beq_eq_false_iff_ne]; omega
  have n4 : (op == 4) = false := by rw [beq_eq_false_iff_ne]; omega
  have n5 : (op == 5) = false := by rw [beq_eq_false_iff_ne]; omega
  have n6 : (op == 6) = false := by rw [beq_eq_false_iff_ne]; omega
  have n7 : (op == 7) = false := by rw [beq_eq_false_iff_ne]; omega
  have n8 : (op == 8) = false := by rw [beq_eq_false_iff_ne]; omega
  have n9 : (op == 9) = false := by rw [beq_eq_false_iff_ne]; omega
  have n10 : (op == 10) = false := by rw [beq_eq_false_iff_ne]; omega
  have n11 : (op == 11) = false := by rw [beq_eq_false_iff_ne]; omega
  have n12 : (op == 12) = false := by rw [beq_eq_false_iff_ne]; omega
  have n13 : (op == 13) = false := by rw [beq_eq_false_iff_ne]; omega
  have n14 : (op == 14) = false := by rw [beq_eq_false_iff_ne]; omega
  have n15 : (op == 15) = false := by rw [beq_eq_false_iff_ne]; omega
  clear hop
  clear hs
  go_enter Tryz.func37, Tryz.ntmps37
  go_wp2_with fail
  refine (ref_row b _).mono ?_
  rintro e w1 ⟨rfl, hb⟩
  have HB1 := Kp.mk hb
  clear hb
  unfold rowVB arrT
  have HL := Kp.mk (row_laid HB1.out (fun i => b.getLsbD i))
  go_wp2_with (first
    | (refine wpList_store_row rfl 128 _ _ rfl w1.heap.size (Alu.rowL fun i => b.getLsbD i).toArray rfl rfl 128 _ (RowT.zero w1).block (infoT _) (by simp [Alu.rowL_length]) (arrT_one _) ?_)
    | (refine wpList_load_row rfl 128 _ rfl w1.heap.size rfl 128 (Alu.rowL fun i => b.getLsbD i).toArray (0, 0) _ HL.out.1.block Tryz.underlying128 rfl (infoT _) ?_))
  go_ret2
  exact ⟨rfl, HL.out.2⟩
end Go.Proofs.YtadikbmbadldpaaGreatDoor
namespace Go.Proofs.YtadikbmbadldpaaGreatDoor
open Go Go.RowKit
set_option linter.unusedVariables false

set_option maxRecDepth 100000 in
theorem ref_test_48 (b c : BitVec 32) (w : World) :
    Calls Tryz.prog 42 #[.int .i64 48, .int .u32 (b.toNat : Int), .int .u32 (c.toNat : Int)] w fun e w' => e = .returned (.tuple #[.bool (b.toNat == c.toNat), .int .i64 0]) ∧ w' = w := by
  obtain ⟨t, ht⟩ : ∃ t, t = (b.toNat == c.toNat) := ⟨_, rfl⟩
  have t1 : ((b.toNat : Int) == (c.toNat : Int)) = t := by rw [ht, Bool.eq_iff_iff]; simp <;> omega
  rw [← ht]
  clear ht
  go_enter Tryz.func42, Tryz.ntmps42
  go_wp2
  go_ret2
  exact ⟨rfl, rfl⟩
set_option maxRecDepth 100000 in
theorem ref_test_49 (b c : BitVec 32) (w : World) :
    Calls Tryz.prog 42 #[.int .i64 49, .int .u32 (b.toNat : Int), .int .u32 (c.toNat : Int)] w fun e w' => e = .returned (.tuple #[.bool (b.toNat != c.toNat), .int .i64 0]) ∧ w' = w := by
  obtain ⟨t, ht⟩ : ∃ t, t = (b.toNat != c.toNat) := ⟨_, rfl⟩
  have t1 : ((b.toNat : Int) != (c.toNat : Int)) = t := by rw [ht, Bool.eq_iff_iff]; simp <;> omega
  rw [← ht]
  clear ht
  go_enter Tryz.func42, Tryz.ntmps42
  go_wp2
  go_ret2
  exact ⟨rfl, rfl⟩
set_option maxRecDepth 100000 in
theorem ref_test_50 (b c : BitVec 32) (w : World) :
    Calls Tryz.prog 42 #[.int .i64 50, .int .u32 (b.toNat : Int), .int .u32 (c.toNat : Int)] w fun e w' => e = .returned (.tuple #[.bool (decide (b.toNat < c.toNat)), .int .i64 0]) ∧ w' = w := by
  obtain ⟨t, ht⟩ : ∃ t, t = (decide (b.toNat < c.toNat)) := ⟨_, rfl⟩
  have t1 : decide ((b.toNat : Int) < (c.toNat : Int)) = t := by rw [ht]; simp
  have t2 : decide (b.toNat < c.toNat) = t := ht.symm
  rw [← ht]
  clear ht
  go_enter Tryz.func42, Tryz.ntmps42
  go_wp2
  go_ret2
  exact ⟨rfl, rfl⟩
set_option maxRecDepth 100000 in
theorem ref_test_52 (b c : BitVec 32) (w : World) :
    Calls Tryz.prog 42 #[.int .i64 52, .int .u32 (b.toNat : Int), .int .u32 (c.toNat : Int)] w fun e w' => e = .returned (.tuple #[.bool (decide (c.toNat ≤ b.toNat)), .int .i64 0]) ∧ w' = w := by
  obtain ⟨t, ht⟩ : ∃ t, t = (decide (c.toNat ≤ b.toNat)) := ⟨_, rfl⟩
  have t1 : decide ((c.toNat : Int) ≤ (b.toNat : Int)) = t := by rw [ht]; simp
  have t2 : decide (c.toNat ≤ b.toNat) = t := ht.symm
  rw [← ht]
  clear ht
  go_enter Tryz.func42, Tryz.ntmps42
  go_wp2
  go_ret2
  exact ⟨rfl, rfl⟩
set_option maxRecDepth 100000 in
theorem ref_test_51 (b c : BitVec 32) (w : World) :
    Calls Tryz.prog 42 #[.int .i64 51, .int .u32 (b.toNat : Int), .int .u32 (c.toNat : Int)] w fun e w' => e = .returned (.tuple #[.bool (decide (b.toInt < c.toInt)), .int .i64 0]) ∧ w' = w := by
  obtain ⟨t, ht⟩ : ∃ t, t = (decide (b.toInt < c.toInt)) := ⟨_, rfl⟩
  have t1 : decide (b.toInt < c.toInt) = t := ht.symm
  rw [← ht]
  clear ht
  go_enter Tryz.func42, Tryz.ntmps42
  go_wp2_with fail
  refine (ref_signed b _).mono ?_
  rintro e w1 ⟨rfl, hw⟩
  obtain rfl := hw.symm
  clear hw
  go_wp2_with fail
  refine (ref_signed c _).mono ?_
  rintro e w1 ⟨rfl, hw⟩
  obtain rfl := hw.symm
  clear hw
  go_wp2
  go_ret2
  exact ⟨rfl, rfl⟩
set_option maxRecDepth 100000 in
theorem ref_test_53 (b c : BitVec 32) (w : World) :
    Calls Tryz.prog 42 #[.int .i64 53, .int .u32 (b.toNat : Int), .int .u32 (c.toNat : Int)] w fun e w' => e = .returned (.tuple #[.bool (decide (c.toInt ≤ b.toInt)), .int .i64 0]) ∧ w' = w := by
  obtain ⟨t, ht⟩ : ∃ t, t = (decide (c.toInt ≤ b.toInt)) := ⟨_, rfl⟩
  have t1 : decide (c.toInt ≤ b.toInt) = t := ht.symm
  rw [← ht]
  clear ht
  go_enter Tryz.func42, Tryz.ntmps42
  go_wp2_with fail
  refine (ref_signed b _).mono ?_
  rintro e w1 ⟨rfl, hw⟩
  obtain rfl := hw.symm
  clear hw
  go_wp2_with fail
  refine (ref_signed c _).mono ?_
  rintro e w1 ⟨rfl, hw⟩
  obtain rfl := hw.symm
  clear hw
  go_wp2
  go_ret2
  exact ⟨rfl, rfl⟩
set_option maxRecDepth 100000 in
theorem ref_test_no (op : Int) (b c : BitVec 32) (w : World) (hop : ¬ (48 ≤ op ∧ op ≤ 53)) :
    Calls Tryz.prog 42 #[.int .i64 op, .int .u32 (b.toNat : Int), .int .u32 (c.toNat : Int)] w fun e w' => e = .returned (.tuple #[.bool false, .int .i64 7]) ∧ w' = w := by
  have n48 : (op == 48) = false := by rw [beq_eq_false_iff_ne]; omega
  have n49 : (op == 49) = false := by rw [beq_eq_false_iff_ne]; omega
  have n50 : (op == 50) = false := by rw [beq_eq_false_iff_ne]; omega
  have n51 : (op == 51) = false := by rw [beq_eq_false_iff_ne]; omega
  have n52 : (op == 52) = false := by rw [beq_eq_false_iff_ne]; omega
  have n53 : (op == 53) = false := by rw [beq_eq_false_iff_ne]; omega
  clear hop
  go_enter Tryz.func42, Tryz.ntmps42
  go_wp2
  go_ret2
  exact ⟨rfl, rfl⟩
end Go.Proofs.YtadikbmbadldpaaGreatDoor
namespace Go.Proofs.YtadikbmbadldpaaGreatDoor
open Go Go.RowKit
set_option linter.unusedVariables false

/-- A string's bytes. -/
def strF (s : ByteArray) (j : Nat) : BitVec 8 := (s.data.toList.getD j 0).toBitVec
theorem strF_take (D : ByteArray) (p : Nat) (h : p ≤ D.size) : (D.data.toList.map fun x => Value.int .u8 (x.toNat : Int)).take p = cellsB (strF D) p := by
  have hl : D.data.toList.length = D.size := rfl
  apply List.ext_getElem
  · simp [cellsB_length]; omega
  · intro i h1 h2
    rw [cellsB_length] at h2
    have h3 : i < D.data.toList.length := by omega
    simp only [List.getElem_take, List.getElem_map, cellsB, List.getElem_range, strF, List.getD_eq_getElem?_getD, List.getElem?_eq_getElem h3, Option.getD_some]
    rfl
theorem strF_extract (D : ByteArray) (p : Nat) (j : Nat) (h : p + j < D.size) : strF (D.extract p D.size) j = strF D (p + j) := by
  unfold strF
  have hl : D.data.toList.length = D.size := rfl
  have e : (D.extract p D.size).data = D.data.extract p D.size := by simp [ByteArray.data_extract]
  rw [e]
  simp only [List.getD_eq_getElem?_getD, Array.toList_extract, List.extract_eq_take_drop, List.getElem?_take, List.getElem?_drop]
  have : j < D.size - p := by omega
  simp only [this, if_true]
theorem extract_size (D : ByteArray) (p : Nat) : (D.extract p D.size).size = D.size - p := by simp [ByteArray.size_extract]
theorem slice_str (D : ByteArray) (p : Nat) (h : p ≤ D.size) (w : World) : (Instr.sliceAt 9 (.string D) (some (.int .i64 (p : Int))) none none).run Tryz.prog w = .ok (.string (D.extract p D.size)) w := by
  rw [run_sliceAt_string _ _ _ _ _ _ Tryz.underlying9, run_slice_string_l (P := Tryz.prog) w 9 D Tryz.underlying9 .i64 (p : Int) (by omega) (by omega)]
  rfl
theorem str_empty (D : ByteArray) : D.toList.isEmpty = decide (D.size = 0) := by
  rw [ByteArray.toList_eq]
  have hl : D.data.toList.length = D.size := rfl
  cases h : D.data.toList with
  | nil => rw [h] at hl; simp [← hl]
  | cons x r =>
    rw [h] at hl
    have : ¬ D.size = 0 := by rw [← hl]; simp
    simp [this]
theorem sizeRunU8 : ∀ w, (Go.sizeOf 5).run Tryz.prog w = .ok 1 w := by
  intro w
  cases hi : Tryz.prog.info? 5 with
  | none => exact absurd sizeU8 (by rw [hi]; simp)
  | some i =>
    have hs : i.size = 1 := by have := sizeU8; rw [hi] at this; simpa using this
    simp [sizeOf, typeInfo, hi, hs]
end Go.Proofs.YtadikbmbadldpaaGreatDoor
namespace Go.Proofs.YtadikbmbadldpaaGreatDoor
open Go Go.RowKit
set_option linter.unusedVariables false

theorem row_put (p : PageV) (r : Nat) (c : BitVec 8) : (putPg p r c).row = (PageV.row { p with data := fun x => if x = r then c else p.data x }).set 1 (.bool true) := rfl
set_option maxRecDepth 100000 in
set_option maxHeartbeats 4000000 in
theorem ref_put (w : World) (B g n cap : Nat) (P : Nat → PageV) (h : OwnP w B (.slice (some ⟨g, 0, none⟩) n cap) n P) (hn : n ≤ 1759218604441) (y : Nat) (c : BitVec 8) (hq : y / 64 < n) :
    Calls Tryz.prog 68 #[.slice (some ⟨g, 0, none⟩) n cap, .int .i64 (y : Int), .int .u8 (c.toNat : Int)] w fun e w' => e = .returned (.tuple #[]) ∧ OwnP w' B (.slice (some ⟨g, 0, none⟩) n cap) n (putB P y c) ∧ Touch g w w' := by
  obtain ⟨Q, hQ⟩ : ∃ Q, Q = putB P y c := ⟨_, rfl⟩
  obtain ⟨q, hqq⟩ : ∃ q, q = y / 64 := ⟨_, rfl⟩
  obtain ⟨r, hrr⟩ : ∃ r, r = y % 64 := ⟨_, rfl⟩
  have hQ2 : Q = upd P q (putPg (P q) r c) := by rw [hQ, hqq, hrr]; rfl
  rw [← hQ]
  rw [← hqq] at hq
  have hr : r < 64 := by omega
  have hq1 : (y : Int) / 64 = (q : Int) := by omega
  have hr1 : (y : Int) % 64 = (r : Int) := by omega
  have k1 : w.cell? ⟨g, q * 66 + 2 + r, none⟩ = some (.int .u8 (((P q).data r).toNat : Int)) := by
    have := h.cell q (r + 2) hq (by omega)
    rw [PageV.row_data _ _ hr] at this
    rw [← this]
    congr 2
    omega
  have k2 : w.frozen? ⟨g, q * 66 + 2 + r, none⟩ = false := h.frozen _
  have h1 : OwnP (w.setCell ⟨g, q * 66 + 2 + r, none⟩ (.int .u8 (c.toNat : Int))) B (.slice (some ⟨g, 0, none⟩) n cap) n (upd P q { P q with data := fun x => if x = r then c else (P q).data x }) := by
    have := OwnP.stored h q (r + 2) hq (by omega) _ _ (row_set_data (P q) r c)
    rw [show q * 66 + (r + 2) = q * 66 + 2 + r by omega] at this
    exact this
  have ht1 := Touch.setCell g (q * 66 + 2 + r) w (.int .u8 (c.toNat : Int))
  obtain ⟨w1, hw1⟩ : ∃ w1, w1 = w.setCell ⟨g, q * 66 + 2 + r, none⟩ (.int .u8 (c.toNat : Int)) := ⟨_, rfl⟩
  have HW1 := Kp.mk hw1
  rw [← hw1] at h1 ht1
  have k3 : w1.cell? ⟨g, q * 66 + 1, none⟩ = some (.bool (P q).dirty) := by
    have := h1.cell q 1 hq (by decide)
    rw [upd_at] at this
    rw [this]; rfl
  have k4 : w1.frozen? ⟨g, q * 66 + 1, none⟩ = false := h1.frozen _
  have h2 : OwnP (w1.setCell ⟨g, q * 66 + 1, none⟩ (.bool true)) B (.slice (some ⟨g, 0, none⟩) n cap) n Q := by
    rw [hQ2]
    exact OwnP.upd_stored q _ _ _ 1 h1 hq (by decide) (row_put (P q) r c)
  have H2 := Kp.mk (And.intro h2 (ht1.trans (Touch.setCell g (q * 66 + 1) w1 (.bool true))))
  obtain ⟨d, hd⟩ : ∃ d, d = (P q).dirty := ⟨_, rfl⟩
  obtain ⟨e, he⟩ : ∃ e : Int, e = (((P q).data r).toNat : Int) := ⟨_, rfl⟩
  rw [← hd] at k3
  rw [← he] at k1
  clear hqq hrr hQ hQ2 h h1 h2 ht1 hw1 hd he
  go_enter Tryz.func68, Tryz.ntmps68
  go_wp2_with (rw [← HW1.out])
  go_end0
  exact ⟨rfl, H2.out.1, H2.out.2⟩
/-- The document's Store, on the way: the last bytes put. -/
def storeQ (P : Nat → PageV) (ad s x t : Nat) : Nat → PageV := bif decide (t < s) then upd P (ad / 64) { putD (P (ad / 64)) (ad % 64) s t x with dirty := true } else P
theorem storeQ_all (P : Nat → PageV) (ad s x : Nat) : storeQ P ad s x s = P := by simp [storeQ]
theorem storeQ_zero (P : Nat → PageV) (ad s x : Nat) (h : 0 < s) : storeQ P ad s x 0 = Pg.store P ad s x := by
  rw [store_eq]; simp [storeQ, h]
theorem storeQ_step (P : Nat → PageV) (ad s x t : Nat) (ht : t < s) (hr : ad % 64 + s ≤ 64) : putB (storeQ P ad s x (t + 1)) (ad + t) (BitVec.ofNat 8 (x / 256 ^ (s - 1 - t))) = storeQ P ad s x t := by
  have e1 : (ad + t) / 64 = ad / 64 := by omega
  have e2 : (ad + t) % 64 = ad % 64 + t := by omega
  unfold putB
  rw [e1, e2]
  unfold storeQ
  simp only [ht, decide_true, cond_true]
  by_cases h : t + 1 < s
  · simp only [h, decide_true, cond_true]
    rw [upd_upd, upd_at]
    congr 1
    unfold putPg
    have hd : (fun y => if y = ad % 64 + t then BitVec.ofNat 8 (x / 256 ^ (s - 1 - t)) else (putD (P (ad / 64)) (ad % 64) s (t + 1) x).data y) = (putD (P (ad / 64)) (ad % 64) s t x).data := by
      funext y
      exact (putD_at _ _ _ _ _ y ht).symm
    show PageV.mk _ true (fun y => if y = ad % 64 + t then BitVec.ofNat 8 (x / 256 ^ (s - 1 - t)) else (putD (P (ad / 64)) (ad % 64) s (t + 1) x).data y) = _
    rw [hd]
    rfl
  · have hs : s = t + 1 := by omega
    subst hs
    simp only [Nat.lt_irrefl, decide_false, cond_false]
    congr 1
    unfold putPg
    have hd : (fun y => if y = ad % 64 + t then BitVec.ofNat 8 (x / 256 ^ (t + 1 - 1 - t)) else (P (ad / 64)).data y) = (putD (P (ad / 64)) (ad % 64) (t + 1) t x).data := by
      funext y
      rw [putD_at _ _ _ _ _ y (by omega), putD_all]
    rw [hd]
    rfl
set_option maxRecDepth 100000 in
set_option maxHeartbeats 4000000 in
theorem ref_store_yes (a : Option Addr) (n cap : Nat) (P : Nat → PageV) (w : World) (h : RdP w a n cap P) (ad s x : Nat) (had : ad < 4294967296) (hs : okSize s) (hx : x < 4294967296) (h0 : lookF P n ad s 1 = 0) :
    Calls Tryz.prog 41 #[.slice a n cap, .int .u32 (ad : Int), .int .i64 (s : Int), .int .u32 (x : Int)] w fun e w' => ∃ v, e = .returned (.tuple #[v, .int .i64 0, .int .i64 0]) ∧ OwnP w' w.heap.size v n (Pg.store P ad s x) ∧ Below w.heap.size w w' := by
  have hn := h.bound
  obtain ⟨z1, z2, z3⟩ := lookF_zero.1 h0
  have hf0 : faultP P n ad 1 = 0 := faultP_zero.2 ⟨z2, z3⟩
  have K := Kp.mk (ref_byte a n cap P w h ad 1 (by omega) (by decide))
  rw [hf0] at K
  have KC := Kp.mk (ref_copy a n cap P w h)
  have hr := hs.room z1
  have hs1 := hs.le
  have HS : Kp (∀ t, t < s → putB (storeQ P ad s x (t + 1)) (ad + t) (BitVec.ofNat 8 (x / 256 ^ (s - 1 - t))) = storeQ P ad s x t) := ⟨fun t ht => storeQ_step P ad s x t ht hr⟩
  have HQ0 : Kp (storeQ P ad s x s = P) := ⟨storeQ_all _ _ _ _⟩
  have HQ1 : Kp (storeQ P ad s x 0 = Pg.store P ad s x) := ⟨storeQ_zero _ _ _ _ (by omega)⟩
  have HIN : Kp (∀ t, t < s → (ad + t) / 64 < n) := ⟨fun t ht => by omega⟩
  have hm1 : (ad : Int) % (s : Int) = 0 := by omega
  have H0n : Kp (0 < n) := ⟨by omega⟩
  obtain ⟨Q, hQ⟩ : ∃ Q, Q = storeQ P ad s x := ⟨_, rfl⟩
  rw [← hQ] at HS HQ0 HQ1
  obtain ⟨S, hS⟩ : ∃ S, S = Pg.store P ad s x := ⟨_, rfl⟩
  rw [← hS] at HQ1 ⊢
  have hcase : (((s : Int) != 1) = false) ∨ (((s : Int) != 1) = true ∧ ((s : Int) != 2) = false) ∨ (((s : Int) != 1) = true ∧ ((s : Int) != 2) = true ∧ ((s : Int) != 4) = false) := by
    rcases hs with rfl | rfl | rfl
    · exact .inl (by decide)
    · exact .inr (.inl ⟨by decide, by decide⟩)
    · exact .inr (.inr ⟨by decide, by decide, by decide⟩)
  have HIN1 := Kp.mk hs1
  clear h h0 hf0 z1 z2 z3 hQ hS hr hs
  rcases hcase with n1 | ⟨n1, n2⟩ | ⟨n1, n2, n4⟩
  all_goals (
    go_enter Tryz.func41, Tryz.ntmps41
    go_wp2_with (refine K.out.mono ?_; rintro e w' ⟨rfl, hw⟩; obtain rfl := hw.symm)
    refine KC.out.mono ?_
    rintro e w1 ⟨v, rfl, ho, hb⟩
    obtain ⟨g, cap2, rfl, hg, _⟩ := ho.shape H0n.out
    have HO : Kp (OwnP w1 w.heap.size (.slice (some ⟨g, 0, none⟩) n cap2) n (Q s)) := ⟨by rw [HQ0.out]; exact ho⟩
    have HB := Kp.mk hb
    have HG := Kp.mk hg
    clear ho hb hg
    go_wp2
    go_loopw [13, 14] (fun v i wr => ∃ t y : Nat, t ≤ s ∧ i = .int .i64 ((t : Int) - 1) ∧ v = .int .i64 (y : Int) ∧ Kp (y = x / 256 ^ (s - t)) ∧ y < 4294967296 ∧ Kp (OwnP wr w.heap.size (.slice (some ⟨g, 0, none⟩) n cap2) n (Q t)) ∧ Kp (Below w.heap.size w wr)) (fun _ i _ => (intOf i + 1).toNat)
    case atStart => exact ⟨s, x, by omega, by go_num, rfl, ⟨by simp⟩, hx, HO, HB⟩
    case round =>
      obtain ⟨t, y, ht, rfl, rfl, HY, hy, HO, HB⟩ := hrel
      rcases t with _ | t
      · have HO1 : Kp (OwnP wr w.heap.size (.slice (some ⟨g, 0, none⟩) n cap2) n S) := ⟨by rw [← HQ1.out]; exact HO.out⟩
        go_wp2
        go_ret3
        exact ⟨_, rfl, HO1.out, HB.out⟩
      · have e : ((t + 1 : Nat) : Int) - 1 = (t : Int) := by omega
        rw [e]
        obtain ⟨c, hc⟩ : ∃ c, c = BitVec.ofNat 8 y := ⟨_, rfl⟩
        have hc8 : (y : Int) % 256 = (c.toNat : Int) := by rw [hc, BitVec.toNat_ofNat]; omega
        have hc9 : (c.toNat : Int) % 256 = (c.toNat : Int) := by have := c.isLt; omega
        obtain ⟨z, hz⟩ : ∃ z, z = y / 256 := ⟨_, rfl⟩
        have hz1 : (y : Int) / 256 = (z : Int) := by rw [hz]; omega
        have HZ : Kp (z = x / 256 ^ (s - t)) := ⟨by
          have e2 : s - t = (s - (t + 1)) + 1 := by omega
          rw [hz, HY.out, e2, Nat.pow_succ, Nat.div_div_eq_div_mul]⟩
        have hz2 : z < 4294967296 := by rw [hz]; omega
        obtain ⟨y2, hy2⟩ : ∃ y2, y2 = ad + t := ⟨_, rfl⟩
        have hy3 : (ad : Int) + (t : Int) = (y2 : Int) := by omega
        have KP := Kp.mk (ref_put wr w.heap.size g n cap2 (Q (t + 1)) HO.out hn y2 c (by rw [hy2]; exact HIN.out t (by omega)))
        have HQt : Kp (putB (Q (t + 1)) y2 c = Q t) := ⟨by
          have := HS.out t (by omega)
          rw [← hy2] at this
          rw [← this, hc, HY.out, show s - 1 - t = s - (t + 1) by omega]⟩
        have hb0 : decide ((t : Int) ≥ 0) = true := decide_eq_true (by omega)
        have hts : t < s := by omega
        clear hc hz hy2 ht
        go_wp2_with fail
        refine KP.out.mono ?_
        rintro e w2 ⟨rfl, ho, htt⟩
        have HO2 : Kp (OwnP w2 w.heap.size (.slice (some ⟨g, 0, none⟩) n cap2) n (Q t)) := ⟨by rw [← HQt.out]; exact ho⟩
        have HB2 := Kp.mk (HB.out.trans (htt.below _ HG.out HB.out.size))
        clear ho htt
        go_wp2_with fail
        go_roundw
        case rel => exact ⟨t, z, by omega, rfl, rfl, HZ, hz2, HO2, HB2⟩
        case measure => simp [intOf])
set_option maxRecDepth 100000 in
set_option maxHeartbeats 4000000 in
theorem ref_store_no (a : Option Addr) (n cap : Nat) (P : Nat → PageV) (w : World) (h : RdP w a n cap P) (ad s x : Nat) (had : ad < 4294967296) (hs : okSize s) (h0 : lookF P n ad s 1 ≠ 0) :
    Calls Tryz.prog 41 #[.slice a n cap, .int .u32 (ad : Int), .int .i64 (s : Int), .int .u32 (x : Int)] w fun e w' => e = .returned (.tuple #[.slice none 0 0, .int .i64 (lookF P n ad s 1 : Nat), .int .i64 0]) ∧ w' = w := by
  have K := Kp.mk (ref_byte a n cap P w h ad 1 (by omega) (by decide))
  obtain ⟨m, hm⟩ : ∃ m, m = ad % s := ⟨_, rfl⟩
  have hm1 : (ad : Int) % (s : Int) = (m : Int) := by rw [hm]; omega
  obtain ⟨f, hf⟩ : ∃ f : Nat, f = lookF P n ad s 1 := ⟨_, rfl⟩
  rw [← hf]
  rw [← hf] at h0
  unfold lookF at hf
  rw [← hm] at hf
  by_cases hm0 : m = 0
  · subst hm0
    have hff : f = faultP P n ad 1 := by rw [hf]; simp
    rw [← hff] at K
    have hne : ((f : Int) != 0) = true := by simp; omega
    clear hf hff h0 h hm
    rcases hs with rfl | rfl | rfl <;>
    · go_enter Tryz.func41, Tryz.ntmps41
      go_wp2_with (refine K.out.mono ?_; rintro e w' ⟨rfl, hw⟩; obtain rfl := hw.symm)
      go_ret3
      exact ⟨rfl, rfl⟩
  · have hff : f = 2 := by rw [hf]; simp [hm0]
    subst hff
    have hmz : ((m : Int) != 0) = true := by simp; omega
    clear hf h0 h hm K
    rcases hs with rfl | rfl | rfl <;>
    · go_enter Tryz.func41, Tryz.ntmps41
      go_wp2
      all_goals (go_ret3; exact ⟨rfl, rfl⟩)
set_option maxRecDepth 100000 in
set_option maxHeartbeats 4000000 in
theorem ref_store_bad (a : Option Addr) (n cap : Nat) (w : World) (ad : Nat) (s : Int) (x : Nat) (h1 : s ≠ 1) (h2 : s ≠ 2) (h4 : s ≠ 4) :
    Calls Tryz.prog 41 #[.slice a n cap, .int .u32 (ad : Int), .int .i64 s, .int .u32 (x : Int)] w fun e w' => e = .returned (.tuple #[.slice none 0 0, .int .i64 0, .int .i64 12]) ∧ w' = w := by
  have n1 : (s != 1) = true := by simpa using h1
  have n2 : (s != 2) = true := by simpa using h2
  have n4 : (s != 4) = true := by simpa using h4
  clear h1 h2 h4
  go_enter Tryz.func41, Tryz.ntmps41
  go_wp2
  go_ret3
  exact ⟨rfl, rfl⟩
end Go.Proofs.YtadikbmbadldpaaGreatDoor
namespace Go.Proofs.YtadikbmbadldpaaGreatDoor
open Go Go.RowKit
set_option linter.unusedVariables false

def stC (k s c : Int) : List Value := [.int .i64 k, .int .i64 s, .int .i64 c]
/-- The document's machine, known whole. -/
def RMachAt (w : World) (b : Nat) (v : Value) (q : ProcV) (k s c : Int) : Prop := Blk w b (v :: (q.row ++ stC k s c)).toArray 49
section
variable {w : World} {b : Nat} {v : Value} {q : ProcV} {k s c : Int}
theorem RMachAt.pages (h : RMachAt w b v q k s c) : w.cell? ⟨b, 0, none⟩ = some v := Blk.cell h 0 v rfl
theorem RMachAt.reg (h : RMachAt w b v q k s c) (i : Nat) (hi : i < 16) : w.cell? ⟨b, 1 + i, none⟩ = some (.int .u32 ((q.r i).toNat : Int)) := by
  refine Blk.cell h (1 + i) _ ?_
  have := q.row_reg i hi
  rw [show 1 + i = i + 1 by omega]
  simp only [List.getElem?_toArray, List.getElem?_cons_succ]
  rw [List.getElem?_append_left (by rw [q.row_length]; omega)]
  exact this
theorem RMachAt.pc (h : RMachAt w b v q k s c) : w.cell? ⟨b, 17, none⟩ = some (.int .u32 (q.pc.toNat : Int)) := by
  refine Blk.cell h 17 _ ?_
  have := q.row_pc
  simp only [List.getElem?_toArray, List.getElem?_cons_succ]
  rw [List.getElem?_append_left (by rw [q.row_length]; omega)]
  exact this
theorem RMachAt.st0 (h : RMachAt w b v q k s c) : w.cell? ⟨b, 22, none⟩ = some (.int .i64 k) := by
  refine Blk.cell h 22 _ ?_
  simp only [List.getElem?_toArray, List.getElem?_cons_succ]
  rw [List.getElem?_append_right (by rw [q.row_length]; omega), q.row_length]
  rfl
theorem RMachAt.st1 (h : RMachAt w b v q k s c) : w.cell? ⟨b, 23, none⟩ = some (.int .i64 s) := by
  refine Blk.cell h 23 _ ?_
  simp only [List.getElem?_toArray, List.getElem?_cons_succ]
  rw [List.getElem?_append_right (by rw [q.row_length]; omega), q.row_length]
  rfl
theorem RMachAt.st2 (h : RMachAt w b v q k s c) : w.cell? ⟨b, 24, none⟩ = some (.int .i64 c) := by
  refine Blk.cell h 24 _ ?_
  simp only [List.getElem?_toArray, List.getElem?_cons_succ]
  rw [List.getElem?_append_right (by rw [q.row_length]; omega), q.row_length]
  rfl
theorem RMachAt.free (h : RMachAt w b v q k s c) (i : Nat) : w.frozen? ⟨b, i, none⟩ = false := Blk.free h i
theorem RMachAt.put (h : RMachAt w b v q k s c) (i : Nat) (x : BitVec 32) (hi : i < 16) : RMachAt (w.setCell ⟨b, 1 + i, none⟩ (.int .u32 (x.toNat : Int))) b v (q.put i x) k s c := by
  have := Blk.set h (1 + i) (.int .u32 (x.toNat : Int))
  unfold RMachAt
  rw [← q.row_put i x hi, ← List.set_append_left _ _ (by rw [q.row_length]; omega)]
  simpa [Nat.add_comm 1 i] using this
theorem RMachAt.go (h : RMachAt w b v q k s c) (x : BitVec 32) : RMachAt (w.setCell ⟨b, 17, none⟩ (.int .u32 (x.toNat : Int))) b v (q.go x) k s c := by
  have := Blk.set h 17 (.int .u32 (x.toNat : Int))
  unfold RMachAt
  rw [← q.row_go x, ← List.set_append_left _ _ (by rw [q.row_length]; omega)]
  simpa using this
theorem RMachAt.page (h : RMachAt w b v q k s c) (v' : Value) : RMachAt (w.setCell ⟨b, 0, none⟩ v') b v' q k s c := by
  have := Blk.set h 0 v'
  unfold RMachAt
  simpa using this
theorem RMachAt.stop (h : RMachAt w b v q k s c) (k' s' c' : Int) : RMachAt (((w.setCell ⟨b, 22, none⟩ (.int .i64 k')).setCell ⟨b, 23, none⟩ (.int .i64 s')).setCell ⟨b, 24, none⟩ (.int .i64 c')) b v q k' s' c' := by
  have := Blk.set (Blk.set (Blk.set h 22 (.int .i64 k')) 23 (.int .i64 s')) 24 (.int .i64 c')
  unfold RMachAt
  have e : ((((v :: (q.row ++ stC k s c)).toArray.setIfInBounds 22 (.int .i64 k')).setIfInBounds 23 (.int .i64 s')).setIfInBounds 24 (.int .i64 c')) = (v :: (q.row ++ stC k' s' c')).toArray := by
    simp only [List.setIfInBounds_toArray, List.set_cons_succ]
    rw [List.set_append_right _ _ (by rw [q.row_length]; omega), List.set_append_right _ _ (by rw [q.row_length]; omega), List.set_append_right _ _ (by rw [q.row_length]; omega), q.row_length]
    rfl
  rw [← e]
  exact this
theorem RMachAt.later {w' : World} (h : RMachAt w b v q k s c) (hb : Below w.heap.size w w') : RMachAt w' b v q k s c := Blk.later h hb
theorem RMachAt.lt (h : RMachAt w b v q k s c) : b < w.heap.size := Blk.lt h
end
/-- The document's machine of the call's own: its pages too. -/
structure RSt (W0 : BaseW) (w : World) (b : Nat) (v : Value) (n : Nat) (P : Nat → PageV) (q : ProcV) (k s c : Int) : Prop where
  mach : RMachAt w b v q k s c
  own : OwnP w W0.heap.size v n P
  far : v.ownBlock ≠ some b
  base : W0.heap.size ≤ b
  below : Below W0.heap.size W0.w w
  keep : ∀ c ∈ W0.cs, Blk w c.1 c.2.1 c.2.2 ∧ c.1 ≠ b ∧ v.ownBlock ≠ some c.1
section
variable {W : BaseW} {w : World} {b : Nat} {v : Value} {n : Nat} {P : Nat → PageV} {q : ProcV} {k s c : Int}
theorem RSt.later {w' : World} (h : RSt W w b v n P q k s c) (hb : Below w.heap.size w w') : RSt W w' b v n P q k s c :=
  ⟨h.mach.later hb, h.own.later hb, h.far, h.base, h.below.trans (hb.mono h.below.size), fun c hc => ⟨(h.keep c hc).1.later hb, (h.keep c hc).2⟩⟩
theorem RSt.put (h : RSt W w b v n P q k s c) (i : Nat) (x : BitVec 32) (hi : i < 16) : RSt W (w.setCell ⟨b, 1 + i, none⟩ (.int .u32 (x.toNat : Int))) b v n P (q.put i x) k s c :=
  ⟨h.mach.put i x hi, h.own.other b _ _ h.far, h.far, h.base, h.below.setCell (p := ⟨b, 1 + i, none⟩) h.base _, fun c hc => ⟨(h.keep c hc).1.other _ _ _ (h.keep c hc).2.1, (h.keep c hc).2⟩⟩
theorem RSt.go (h : RSt W w b v n P q k s c) (x : BitVec 32) : RSt W (w.setCell ⟨b, 17, none⟩ (.int .u32 (x.toNat : Int))) b v n P (q.go x) k s c :=
  ⟨h.mach.go x, h.own.other b _ _ h.far, h.far, h.base, h.below.setCell (p := ⟨b, 17, none⟩) h.base _, fun c hc => ⟨(h.keep c hc).1.other _ _ _ (h.keep c hc).2.1, (h.keep c hc).2⟩⟩
theorem RSt.stop (h : RSt W w b v n P q k s c) (k' s' c' : Int) : RSt W (((w.setCell ⟨b, 22, none⟩ (.int .i64 k')).setCell ⟨b, 23, none⟩ (.int .i64 s')).setCell ⟨b, 24, none⟩ (.int .i64 c')) b v n P q k' s' c' :=
  ⟨h.mach.stop k' s' c', ((h.own.other b _ _ h.far).other b _ _ h.far).other b _ _ h.far, h.far, h.base, ((h.below.setCell (p := ⟨b, 22, none⟩) h.base _).setCell (p := ⟨b, 23, none⟩) h.base _).setCell (p := ⟨b, 24, none⟩) h.base _, fun c hc => ⟨(((h.keep c hc).1.other _ _ _ (h.keep c hc).2.1).other _ _ _ (h.keep c hc).2.1).other _ _ _ (h.keep c hc).2.1, (h.keep c hc).2⟩⟩
theorem RSt.page (h : RSt W w b v n P q k s c) {v' : Value} {P' : Nat → PageV} (ho : OwnP w W.heap.size v' n P') (hf : v'.ownBlock ≠ some b) (hk : ∀ c ∈ W.cs, v'.ownBlock ≠ some c.1) : RSt W (w.setCell ⟨b, 0, none⟩ v') b v' n P' q k s c :=
  ⟨h.mach.page v', ho.other b _ _ hf, hf, h.base, h.below.setCell (p := ⟨b, 0, none⟩) h.base _, fun c hc => ⟨(h.keep c hc).1.other _ _ _ (h.keep c hc).2.1, (h.keep c hc).2.1, hk c hc⟩⟩
theorem RSt.lt (h : RSt W w b v n P q k s c) : b < w.heap.size := h.mach.lt
theorem RSt.other5 (h : RSt W w b v n P q k s c) (g : Nat) (x0 x1 x2 x3 x4 : Value) (hv : v.ownBlock ≠ some g) (hb : b ≠ g) (hg : W.heap.size ≤ g) (hk : ∀ c ∈ W.cs, c.1 ≠ g) : RSt W (set5 w g x0 x1 x2 x3 x4) b v n P q k s c :=
  ⟨((((Blk.other h.mach g 0 x0 hb).other g 1 x1 hb).other g 2 x2 hb).other g 3 x3 hb).other g 4 x4 hb, ((((h.own.other g 0 x0 hv).other g 1 x1 hv).other g 2 x2 hv).other g 3 x3 hv).other g 4 x4 hv, h.far, h.base, below_set5 h.below g _ _ _ _ _ hg, fun c hc => ⟨(((((h.keep c hc).1.other g 0 x0 (hk c hc)).other g 1 x1 (hk c hc)).other g 2 x2 (hk c hc)).other g 3 x3 (hk c hc)).other g 4 x4 (hk c hc), (h.keep c hc).2⟩⟩
theorem RSt.withB (h : RSt W w b v n P q k s c) (g : Nat) (cs : Array Value) (T : TypeId) (hb : Blk w g cs T) (h1 : g ≠ b) (h2 : v.ownBlock ≠ some g) : RSt ⟨W.w, (g, cs, T) :: W.cs⟩ w b v n P q k s c :=
  ⟨h.mach, h.own, h.far, h.base, h.below, fun c hc => by
    rcases List.mem_cons.1 hc with rfl | hc
    · exact ⟨hb, h1, h2⟩
    · exact h.keep c hc⟩
theorem RSt.tail {x : Nat × Array Value × TypeId} {z : World} {cs : List (Nat × Array Value × TypeId)} (h : RSt ⟨z, x :: cs⟩ w b v n P q k s c) : RSt ⟨z, cs⟩ w b v n P q k s c :=
  ⟨h.mach, h.own, h.far, h.base, h.below, fun c hc => h.keep c (List.mem_cons_of_mem _ hc)⟩
theorem RSt.head {g : Nat} {is : Array Value} {T : TypeId} {z : World} {cs : List (Nat × Array Value × TypeId)} (h : RSt ⟨z, (g, is, T) :: cs⟩ w b v n P q k s c) : Blk w g is T := (h.keep (g, is, T) (List.mem_cons_self ..)).1
end
set_option maxRecDepth 100000 in
theorem ref6_set {W : BaseW} {w : World} {b : Nat} {v : Value} {n : Nat} {P : Nat → PageV} {q : ProcV} {k s c : Int} (h : RSt W w b v n P q k s c) (i : Nat) (hi : i < 16) (x : BitVec 32) :
    Calls Tryz.prog 38 #[.pointer (some ⟨b, 0, none⟩), .int .i64 (i : Int), .int .u32 (x.toNat : Int)] w fun e w' => e = .returned (.tuple #[]) ∧ RSt W w' b v n P (q.set i x) k s c := by
  unfold ProcV.set
  by_cases hz : i = 0
  · rw [if_pos hz]
    have t0 : ((i : Int) != 0) = false := by rw [hz]; rfl
    have H := Kp.mk h
    clear h hz hi
    go_enter Tryz.func38, Tryz.ntmps38
    go_wp2
    go_end0
    exact ⟨rfl, H.out⟩
  · rw [if_neg hz]
    have t0 : ((i : Int) != 0) = true := by simp; omega
    have t1 : (i : Int) < 16 := by omega
    have t2 : (0 : Int) ≤ (i : Int) := by omega
    have c0 := h.mach.reg i hi
    have f0 := h.mach.free (1 + i)
    have H := Kp.mk (h.put i x hi)
    clear h hz hi
    go_enter Tryz.func38, Tryz.ntmps38
    go_wp2
    go_end0
    exact ⟨rfl, H.out⟩
set_option maxRecDepth 100000 in
theorem ref6_fault {W : BaseW} {w : World} {b : Nat} {v : Value} {n : Nat} {P : Nat → PageV} {q : ProcV} {k s c : Int} (h : RSt W w b v n P q k s c) (f : Int) :
    Calls Tryz.prog 35 #[.pointer (some ⟨b, 0, none⟩), .int .i64 f] w fun e w' => e = .returned (.tuple #[]) ∧ RSt W w' b v n P q 2 1 f := by
  have c0 := h.mach.st0
  have c1 := h.mach.st1
  have c2 := h.mach.st2
  have f0 := h.mach.free 22
  have f1 := h.mach.free 23
  have f2 := h.mach.free 24
  have H := Kp.mk (h.stop 2 1 f)
  clear h
  go_enter Tryz.func35, Tryz.ntmps35
  go_wp2
  go_end0
  exact ⟨rfl, H.out⟩
set_option maxRecDepth 100000 in
theorem ref6_word (imm : Int) (h0 : -32768 ≤ imm) (h1 : imm ≤ 65535) (x : BitVec 32) (hx : x = BitVec.ofInt 32 imm) (w : World) :
    Calls Tryz.prog 36 #[.int .i64 imm] w fun e w' => e = .returned (.int .u32 (x.toNat : Int)) ∧ w' = w := by
  have px : imm % (4294967296 : Int) = (x.toNat : Int) := by rw [hx]; exact u32_of_imm imm
  by_cases hn : imm < 0
  · have g0 : decide (imm < 0) = true := decide_eq_true hn
    obtain ⟨y, hy⟩ : ∃ y, y = imm + 4294967296 := ⟨_, rfl⟩
    have py : Int64.ofInt imm = Int64.ofInt imm := rfl
    have p1 : (imm + 4294967296) % (4294967296 : Int) = (x.toNat : Int) := by omega
    have b1 : -9223372036854775808 ≤ imm + 4294967296 := by omega
    have b2 : imm + 4294967296 < 9223372036854775808 := by omega
    clear hx py
    go_enter Tryz.func36, Tryz.ntmps36
    go_wp2
    go_ret
    exact ⟨by first | rfl | exact ret_int (by omega), rfl⟩
  · have g0 : decide (imm < 0) = false := decide_eq_false hn
    clear hx
    go_enter Tryz.func36, Tryz.ntmps36
    go_wp2
    go_ret
    exact ⟨by first | rfl | exact ret_int (by omega), rfl⟩
set_option maxRecDepth 100000 in
theorem ref6_size (op : Int) (h1 : 32 ≤ op) (h2 : op ≤ 37) (w : World) : Calls Tryz.prog 40 #[.int .i64 op] w fun e w' => e = .returned (.int .i64 (widthN op : Nat)) ∧ w' = w := by
  have h : op = 32 ∨ op = 33 ∨ op = 34 ∨ op = 35 ∨ op = 36 ∨ op = 37 := by omega
  rcases h with rfl | rfl | rfl | rfl | rfl | rfl
  all_goals
    clear h1 h2
    go_enter Tryz.func40, Tryz.ntmps40
    go_wp2
    go_ret
    exact ⟨rfl, rfl⟩
theorem ref_do_all (op : Int) (h1 : 1 ≤ op) (h2 : op ≤ 15) (b c : BitVec 32) (w : World) :
    Calls Tryz.prog 37 #[.int .i64 op, .int .u32 (b.toNat : Int), .int .u32 (c.toNat : Int)] w fun e w' => e = .returned (.tuple #[.int .u32 ((Alu.do_ op b c).1.toNat : Int), .int .i64 ((Alu.do_ op b c).2 : Nat)]) ∧ Below w.heap.size w w' := by
  have h : op = 1 ∨ op = 2 ∨ op = 3 ∨ op = 4 ∨ op = 5 ∨ op = 6 ∨ op = 7 ∨ op = 8 ∨ op = 9 ∨ op = 10 ∨ op = 11 ∨ op = 12 ∨ op = 13 ∨ op = 14 ∨ op = 15 := by omega
  rcases h with rfl | rfl | rfl | rfl | rfl | rfl | rfl | rfl | rfl | rfl | rfl | rfl | rfl | rfl | rfl
  · exact ref_do_1 b c w
  · exact ref_do_2 b c w
  · exact ref_do_3 b c w
  · exact ref_do_4 b c w
  · exact ref_do_5 b c w
  · exact ref_do_6 b c w
  · exact ref_do_7 b c w
  · exact ref_do_8 b c w
  · exact ref_do_9 b c w
  · by_cases hc : c = 0#32
    · rw [show Alu.do_ 10 b c = (0#32, 20) by simp [Alu.do_, hc]]; exact ref_do_10_no b c w hc
    · rw [show Alu.do_ 10 b c = (b / c, 0) by simp [Alu.do_, hc]]; exact ref_do_10 b c w hc
  · by_cases hc : c = 0#32
    · rw [show Alu.do_ 11 b c = (0#32, 20) by simp [Alu.do_, hc]]; exact ref_do_11_no b c w hc
    · rw [show Alu.do_ 11 b c = (BitVec.ofInt 32 (b.toInt.tdiv c.toInt), 0) by simp [Alu.do_, hc]]; exact ref_do_11 b c w hc
  · by_cases hc : c = 0#32
    · rw [show Alu.do_ 12 b c = (0#32, 20) by simp [Alu.do_, hc]]; exact ref_do_12_no b c w hc
    · rw [show Alu.do_ 12 b c = (b % c, 0) by simp [Alu.do_, hc]]; exact ref_do_12 b c w hc
  · by_cases hc : c = 0#32
    · rw [show Alu.do_ 13 b c = (0#32, 20) by simp [Alu.do_, hc]]; exact ref_do_13_no b c w hc
    · rw [show Alu.do_ 13 b c = (BitVec.ofInt 32 (b.toInt.tmod c.toInt), 0) by simp [Alu.do_, hc]]; exact ref_do_13 b c w hc
  · exact ref_do_14 b c w
  · exact ref_do_15 b c w
theorem ref_test_all (op : Int) (h1 : 48 ≤ op) (h2 : op ≤ 53) (b c : BitVec 32) (w : World) :
    Calls Tryz.prog 42 #[.int .i64 op, .int .u32 (b.toNat : Int), .int .u32 (c.toNat : Int)] w fun e w' => e = .returned (.tuple #[.bool (Alu.test op b c).1, .int .i64 0]) ∧ w' = w := by
  have h : op = 48 ∨ op = 49 ∨ op = 50 ∨ op = 51 ∨ op = 52 ∨ op = 53 := by omega
  rcases h with rfl | rfl | rfl | rfl | rfl | rfl
  · exact ref_test_48 b c w
  · exact ref_test_49 b c w
  · exact ref_test_50 b c w
  · exact ref_test_51 b c w
  · exact ref_test_52 b c w
  · exact ref_test_53 b c w
end Go.Proofs.YtadikbmbadldpaaGreatDoor
