/- A list of strings of the call's own that is cut at its front and grown at its end. -/
import Derived.Test.YtjlgnbjfgeppcaaDoorPortGet
namespace Go.Proofs.YtjlgnbjfgeppcaaDoor
open Go Go.RowKit
set_option linter.unusedVariables false

/-- Strings of the call's own, somewhere in a block of its own. -/
def OwnO (w : World) (B : Nat) (v : Value) (l : List ByteArray) : Prop :=
  (v = .slice none 0 0 ∧ l = []) ∨
  ∃ g off cap cur, v = .slice (some ⟨g, off, none⟩) l.length cap ∧ B ≤ g ∧ Blk w g cur 9 ∧ l.length ≤ cap ∧ off + cap ≤ cur.size ∧ cap ≤ maxLen ∧ ∀ i, i < l.length → cur[off + i]? = some (.string (l.getD i noS))
theorem OwnO.shape {w : World} {B : Nat} {v : Value} {l : List ByteArray} (h : OwnO w B v l) : ∃ a c m, Kp (m = l.length) ∧ v = .slice a m c := by
  rcases h with ⟨hv, hl⟩ | ⟨g, off, cap, cur, hv, _⟩
  · subst hl; exact ⟨none, 0, 0, ⟨rfl⟩, hv⟩
  · exact ⟨_, _, _, ⟨rfl⟩, hv⟩
theorem OwnO.nil (w : World) (B : Nat) : OwnO w B (.slice none 0 0) [] := .inl ⟨rfl, rfl⟩
theorem OwnO.kept {w w' : World} {B : Nat} {v : Value} {l : List ByteArray} (h : OwnO w B v l) (hk : ∀ g, g < w.heap.size → v.ownBlock = some g → w'.heap[g]? = w.heap[g]?) : OwnO w' B v l := by
  rcases h with h | ⟨g, off, cap, cur, hv, hB, hb, r⟩
  · exact .inl h
  · refine .inr ⟨g, off, cap, cur, hv, hB, ?_, r⟩
    exact (hk g hb.lt (by rw [hv]; rfl)).trans hb
theorem OwnO.later {w w' : World} {B : Nat} {v : Value} {l : List ByteArray} (h : OwnO w B v l) (hb : Below w.heap.size w w') : OwnO w' B v l := h.kept fun g hg _ => hb.block g hg
theorem OwnO.far2 {w : World} {B : Nat} {v : Value} {l : List ByteArray} (h : OwnO w B v l) (b : Nat) (x0 x1 : Value) (hb : v.ownBlock ≠ some b) : OwnO ((w.setCell ⟨b, 0, none⟩ x0).setCell ⟨b, 1, none⟩ x1) B v l :=
  h.kept fun g hg e => (heap_setCell_other _ ⟨b, 1, none⟩ g _ (by rintro rfl; exact hb e)).trans (heap_setCell_other _ ⟨b, 0, none⟩ g _ (by rintro rfl; exact hb e))
theorem OwnO.lt {w : World} {B : Nat} {v : Value} {l : List ByteArray} (h : OwnO w B v l) {g : Nat} (hg : v.ownBlock = some g) : B ≤ g ∧ g < w.heap.size := by
  rcases h with ⟨hv, _⟩ | ⟨g', off, cap, cur, hv, hB, hb, _⟩
  · rw [hv] at hg; simp [Value.ownBlock] at hg
  · rw [hv] at hg
    simp [Value.ownBlock] at hg
    subst hg
    exact ⟨hB, hb.lt⟩
theorem OwnO.rd {w : World} {B : Nat} {a : Option Addr} {n c : Nat} {l : List ByteArray} (h : OwnO w B (.slice a n c) l) (hn : l.length ≤ 8796093022208) (hs : ∀ s ∈ l, s.size < 9223372036854775808) : RdS w a n c l := by
  rcases h with ⟨hv, hl⟩ | ⟨g, off, cap, cur, hv, hB, hb, hc, ho, hm, hcs⟩
  · simp only [Value.slice.injEq] at hv
    obtain ⟨rfl, rfl, rfl⟩ := hv
    subst hl
    exact rdNil w
  · simp only [Value.slice.injEq] at hv
    obtain ⟨rfl, rfl, rfl⟩ := hv
    exact ⟨rfl, hc, hn, hs, (fun h => by cases h), fun h0 => ⟨g, off, rfl, fun i hi => hb.cell (off + i) _ (hcs i hi)⟩⟩
theorem OwnO.of {w : World} {B : Nat} {v : Value} {l : List ByteArray} (h : OwnS w B v l) : OwnO w B v l := by
  rcases h.2 with ⟨hv, h0⟩ | ⟨g, cap, cur, hv, hB, hb, hc, hm, hsz, ht⟩
  · exact .inl ⟨hv, List.eq_nil_of_length_eq_zero h0⟩
  · refine .inr ⟨g, 0, cap, cur, hv, hB, hb, hc, by rw [hsz]; omega, hm, fun i hi => ?_⟩
    have h1 := sv_get l i hi
    rw [← ht] at h1
    rw [List.getElem?_take, if_pos (by omega)] at h1
    rw [Nat.zero_add]
    simpa using h1
/-- 'line[1:]'. -/
theorem OwnO.tail {w : World} {B : Nat} {a : Option Addr} {n c : Nat} {l : List ByteArray} (h : OwnO w B (.slice a n c) l) (hn : 0 < n) :
    ∃ ta, OwnO w B (.slice ta (n - 1) (c - 1)) (l.drop 1) ∧ (Value.slice ta (n - 1) (c - 1)).ownBlock = (Value.slice a n c).ownBlock ∧ ∀ w', (Instr.sliceAt 27 (.slice a n c) (some (.int .i64 1)) none none).run Tryd.prog w' = .ok (.slice ta (n - 1) (c - 1)) w' := by
  rcases h with ⟨hv, hl⟩ | ⟨g, off, cap, cur, hv, hB, hb, hc, ho, hm, hcs⟩
  · simp only [Value.slice.injEq] at hv; omega
  · simp only [Value.slice.injEq] at hv
    obtain ⟨rfl, rfl, rfl⟩ := hv
    have he : Tryd.prog.elem 27 = 9 := by kernel_rfl
    have hrun : ∀ w', (Instr.sliceAt 27 (.slice (some ⟨g, off, none⟩) l.length c) (some (.int .i64 1)) none none).run Tryd.prog w' = .ok (.slice (if c = 1 then some ⟨g, off, none⟩ else (some (⟨g, off, none⟩ : Addr)).map (·.add (1 * 1))) (l.length - 1) (c - 1)) w' := fun w' => by
      rw [run_sliceAt_slice _ _ _ _ _ _ (by rw [he]; exact Tryd.underlying27), run_slice_l (P := Tryd.prog) w' 27 _ l.length c (by rw [he]; exact Tryd.underlying27) .i64 1 (by omega) (by omega)]
      rw [he]
      obtain ⟨i, hi, _, hz1, _⟩ := info_parts infoStr
      simp [sizeOf, typeInfo, hi, hz1, sliced, Result.andThen]
    have hlen : (l.drop 1).length = l.length - 1 := by simp
    by_cases h1 : c = 1
    · refine ⟨some ⟨g, off, none⟩, .inr ⟨g, off, c - 1, cur, by rw [hlen], hB, hb, by rw [hlen]; omega, by omega, by omega, fun i hi => ?_⟩, rfl, fun w' => by rw [hrun, if_pos h1]⟩
      rw [hlen] at hi; omega
    · refine ⟨some ⟨g, off + 1, none⟩, .inr ⟨g, off + 1, c - 1, cur, by rw [hlen], hB, hb, by rw [hlen]; omega, by omega, by omega, fun i hi => ?_⟩, rfl, fun w' => by rw [hrun, if_neg h1]; simp [Addr.add]⟩
      rw [Nat.add_assoc, hcs (1 + i) (by rw [hlen] at hi; omega)]
      simp [List.getD_eq_getElem?_getD, Nat.add_comm]
/-- 'append(line, s)': within the room, or in a new row. -/
theorem step_append_line {ops : Array Oper} {w : World} {o : Oper} {a : Act} {K : Act → World → Prop} {Q : Exit → Act → World → Prop} {E : Prop} (hgd : o.guard = none) (s x : Operand)
    (ho : o.op = .call { callee := .builtin .append, args := #[s, x], argTypes := #[27, 27] })
    (B : Nat) (v : Value) (l : List ByteArray) (hs : a.eval s = v) (hown : OwnO w B v l) (ad : Addr) (D : ByteArray) (hx : a.eval x = .slice (some ad) 1 1) (hc : w.cell? ad = some (.string D)) (hD : D.size < 9223372036854775808)
    (hl : l.length ≤ 100000) (hls : ∀ s ∈ l, s.size < 9223372036854775808) (hB : B ≤ w.heap.size)
    (h : ∀ v' w', OwnO w' B v' (l ++ [D]) → w.grownBy w' v.ownBlock → (v'.ownBlock = v.ownBlock ∨ ∀ g, v'.ownBlock = some g → w.heap.size ≤ g) → K (a.put o.dst v') w') :
    if Region.wanted o (yielded ops a.tmps) = true then Oper.wp Tryd.prog o a w K Q else E := by
  have hw : Region.wanted o (yielded ops a.tmps) = true := by simp [Region.wanted, hgd]
  rw [if_pos hw]
  obtain ⟨i, hi, hz0, hz1, hz2⟩ := info_parts infoStr
  have hnews : ∀ j u, (sv [D])[j]? = some u → w.cell? (ad.add j) = some u := by
    intro j u hu
    have hj : j = 0 := by
      have := (List.getElem?_eq_some_iff.1 hu).1
      simp [sv] at this; omega
    subst hj
    simp [sv] at hu
    subst hu
    have e : ad.add 0 = ad := by unfold Addr.add; split <;> simp_all
    rw [e]; exact hc
  rcases hown with ⟨hv, hl0⟩ | ⟨g, off, cap, cur, hv, hBg, hb, hlc, hoc, hm, hcs⟩
  · subst hv; subst hl0
    obtain ⟨v', w', hrun, r1, r2, _⟩ := run_append_own (P := Tryd.prog) w w.heap.size 27 o.type 9 i (.string noS) 1 16 Tryd.underlying27 hi hz0 hz1 hz2 rfl (by decide) (.slice none 0 0) 0 [] (World.ownsRow_nil w _ _ _) ad 1 1 (sv [D]) (by simp [sv]) hnews (sv_one _) (by unfold maxLen; omega) (by omega) (Nat.le_refl _)
    unfold Oper.wp
    simp [execOp, ho, resolve, invoke, builtin, hs, hx, hrun, Result.andThen]
    have hO : OwnS w' w.heap.size v' [D] := by unfold OwnS; simpa using r1
    exact h _ _ (OwnO.of (hO.mono hB)) r2 (.inr fun g hg => ownS_base hO hg)
  · subst hv
    by_cases hroom : l.length + 1 ≤ cap
    · have hrun := run_append_room_cells (P := Tryd.prog) w 27 o.type 9 i Tryd.underlying27 hi g off l.length cap ad 1 1 (sv [D]) (by simp [sv, hz1]) hnews (sv_one _) hroom (fun j hj => by
        have hj : j = 0 := by simp [sv] at hj; omega
        subst hj
        rw [hz1, Nat.mul_one, Nat.add_zero]
        have : off + l.length < cur.size := by omega
        rw [hb.cell (off + l.length) (cur[off + l.length]'this) (Array.getElem?_eq_getElem this)]; rfl) (fun j _ => hb.free _)
      unfold Oper.wp
      simp [execOp, ho, resolve, invoke, builtin, hs, hx, hrun, Result.andThen]
      rw [hz1, Nat.mul_one]
      have hset : Blk (w.setCells g (off + l.length) (sv [D])) g (cur.setIfInBounds (off + l.length) (.string D)) 9 := hb.set _ _
      refine h _ _ (.inr ⟨g, off, cap, _, by simp, hBg, hset, by simp; omega, by rw [Array.size_setIfInBounds]; exact hoc, hm, fun j hj => ?_⟩) ⟨rfl, rfl, rfl, by simp [sv, World.setCells], fun k hk hne => ?_⟩ (.inl rfl)
      · by_cases hjl : j < l.length
        · rw [Array.getElem?_setIfInBounds_ne (by omega), hcs j hjl]
          simp [List.getD_eq_getElem?_getD, List.getElem?_append_left hjl]
        · have : j = l.length := by simp at hj; omega
          subst this
          rw [Array.getElem?_setIfInBounds_self_of_lt (by omega)]
          simp [List.getD_eq_getElem?_getD]
      · exact heap_setCell_other w ⟨g, off + l.length, none⟩ k _ (by rintro rfl; exact hne rfl)
    · obtain ⟨v', w', hrun, r1, r2⟩ := run_append_arg_grows (P := Tryd.prog) w 27 o.type 9 i (.string noS) 1 16 Tryd.underlying27 hi hz0 hz1 hz2 rfl (by decide) ⟨g, off, none⟩ l.length cap (sv l) (by rw [sv_length, Nat.mul_one]) (fun j u hu => by
        have hj : j < l.length := by
          have := (List.getElem?_eq_some_iff.1 hu).1
          rwa [sv_length] at this
        rw [sv_get l j hj] at hu
        have e1 : (⟨g, off, none⟩ : Addr).add j = ⟨g, off + j, none⟩ := by unfold Addr.add; split <;> simp_all
        rw [e1, hb.cell (off + j) _ (hcs j hj), hu]) ad 1 1 (sv [D]) (by simp [sv]) hnews (by omega) (by unfold maxLen; omega) (by omega)
      unfold Oper.wp
      simp [execOp, ho, resolve, invoke, builtin, hs, hx, hrun, Result.andThen]
      have hO : OwnS w' w.heap.size v' (l ++ [D]) := by
        unfold OwnS
        rw [sv_append, List.length_append]
        exact r1
      exact h _ _ (OwnO.of (hO.mono hB)) ⟨r2.os, r2.tape, r2.output, r2.size, fun k hk _ => r2.block k hk (by simp)⟩ (.inr fun g' hg => ownS_base hO hg)
end Go.Proofs.YtjlgnbjfgeppcaaDoor
