
/- Appending bytes to a row of the call's own, whatever is appended: nil, empty, or not. -/
import Derived.Test.YtadikbmbadldpaaGreatDoorProg
import Derived.Test.YtadikbmbadldpaaGreatDoorBase
import Derived.Laws.AppendOwnNone
namespace Go.Proofs.YtadikbmbadldpaaGreatDoor
open Go Go.RowKit
set_option linter.unusedVariables false

theorem infoU8 : (Tryz.prog.info? 5).map (fun i => (i.zero, i.size, i.bytes)) = some (some (.int .u8 0), 1, 1) := by kernel_rfl
theorem append_bytes {w : World} {ops : Array Oper} {rest : List Oper} {o : Oper} {a : Act} {Q : Exit → Act → World → Prop} (hgd : o.guard = none) (s x : Operand)
    (ho : o.op = .call { callee := .builtin .append, args := #[s, x], argTypes := #[64, 64] })
    (base : Nat) (v : Value) (n : Nat) (xs : List Value) (hs : a.eval s = v) (hown : w.ownsRow base 5 1 v n xs)
    (ad : Option Addr) (m c : Nat) (l : List (BitVec 8)) (hx : a.eval x = .slice ad m c) (hr : RdB w ad m c l)
    (hb : n + m ≤ 140737488355328) (hbase : base ≤ w.heap.size)
    (h : ∀ v' w', w'.ownsRow base 5 1 v' (n + m) (xs ++ bv l) → w.grownBy w' v.ownBlock → (v' = .slice none 0 0 → v = .slice none 0 0) → wpList Tryz.prog ops Q rest (a.put o.dst v') w') : wpList Tryz.prog ops Q (o :: rest) a w := by
  obtain ⟨i, hi, hz0, hz1, hz2⟩ := info_parts infoU8
  cases ad with
  | none =>
    have hc := hr.nil rfl
    have hm : m = 0 := by have := hr.fits; omega
    have hl : l = [] := List.eq_nil_of_length_eq_zero (by rw [hr.len]; exact hm)
    subst hc; subst hm; subst hl
    refine wpList_append_own_none hgd s x 64 ho base 5 i 1 Tryz.underlying64 hi v n xs hs hown hx ?_
    exact h v w (by simpa [bv] using hown) (World.grownBy.refl _ _) (fun h => h)
  | some x0 =>
    refine wpList_append_own w hgd s x 64 ho base 5 i (.int .u8 0) 1 1 Tryz.underlying64 hi hz0 hz1 hz2 rfl (by decide) v n xs hs hown x0 m c (bv l) hx (by rw [bv_length, hr.len, Nat.mul_one]) ?_ (bv_one l) (by unfold maxLen; omega) (by omega) hbase ?_
    · intro j u hu
      have hj : j < l.length := by
        have := (List.getElem?_eq_some_iff.1 hu).1
        rwa [bv_length] at this
      rw [bv_get l j hj] at hu
      have hj' : j < m := by rw [← hr.len]; exact hj
      obtain ⟨b, off, e, hc⟩ := hr.cells (by omega)
      obtain rfl := Option.some.inj e
      have e1 : (⟨b, off, none⟩ : Addr).add j = ⟨b, off + j, none⟩ := by unfold Addr.add; split <;> simp_all
      rw [e1, hc j hj', hu]
    · exact fun v' w' h1 h2 h3 => h v' w' h1 h2 (fun e => (h3.1 e).1)
/-- A row of the call's own that is not nil: where it lies. -/
theorem own_shape {w : World} {B : Nat} {E : TypeId} {v : Value} {n : Nat} {xs : List Value} (h : w.ownsRow B E 1 v n xs) (hv : v ≠ .slice none 0 0) : ∃ g cap, v = .slice (some ⟨g, 0, none⟩) n cap ∧ B ≤ g ∧ g < w.heap.size ∧ n ≤ cap ∧ cap ≤ maxLen := by
  rcases h.2 with ⟨h', _⟩ | ⟨g, cap, cur, h', hb, hg, hn, hm, _⟩
  · exact absurd h' hv
  · exact ⟨g, cap, h', hb, (Array.getElem?_eq_some_iff.1 hg).1, hn, hm⟩
/-- 'append([]byte{}, b...)'. -/
theorem append_fresh {w0 : World} {ops : Array Oper} {rest : List Oper} {o : Oper} {a : Act} {Q : Exit → Act → World → Prop} (hgd : o.guard = none) (s x : Operand)
    (ho : o.op = .call { callee := .builtin .append, args := #[s, x], argTypes := #[64, 64] })
    (hs : a.eval s = .slice (some ⟨w0.heap.size, 0, none⟩) 0 0)
    (ad : Option Addr) (m c : Nat) (l : List (BitVec 8)) (hx : a.eval x = .slice ad m c) (hr : RdB w0 ad m c l)
    (h : ∀ g c' w', Kp (w'.ownsRow w0.heap.size 5 1 (.slice (some ⟨g, 0, none⟩) m c') m (bv l)) → Kp (Below w0.heap.size w0 w') → w0.heap.size ≤ g → g < w'.heap.size → m ≤ c' → wpList Tryz.prog ops Q rest (a.put o.dst (.slice (some ⟨g, 0, none⟩) m c')) w') :
    wpList Tryz.prog ops Q (o :: rest) a (w0.alloc (.cells #[] 5)) := by
  have hown := (World.ownsRow_lit w0 #[] 0 (base := w0.heap.size) (e := 5) (size := 1) (Nat.le_refl _) (by decide) rfl)
  have b0 : Below w0.heap.size w0 (w0.alloc (.cells #[] 5)) := (Below.refl _ _).alloc (Nat.le_refl _) _
  refine append_bytes hgd s x ho w0.heap.size _ 0 _ hs hown ad m c l hx (hr.later b0) (by have := hr.bound; omega) (by simp) ?_
  intro v' w1 hown' hg hne
  have hv : v' ≠ .slice none 0 0 := fun e => by have := hne e; simp at this
  obtain ⟨g, c', rfl, hBg, hgl, hnc, _⟩ := own_shape hown' hv
  rw [Nat.zero_add] at hown' hnc ⊢
  exact h g c' w1 ⟨by simpa using hown'⟩ ⟨b0.grown hg (by simp) (fun k hk => by simp [Value.ownBlock] at hk; omega)⟩ hBg hgl hnc
end Go.Proofs.YtadikbmbadldpaaGreatDoor
