/- Arrive and Emit on both sides: one contract for good and bad lists; appending read rows to an empty slice. -/
import Derived.Test.YtjlgnbjfgeppcaaDoorEmR
namespace Go.Proofs.YtjlgnbjfgeppcaaDoor
open Go Go.RowKit
set_option linter.unusedVariables false

theorem bal {w v : World} (h : Below w.heap.size w v) (o : Obj) : Below w.heap.size w (v.alloc o) := h.alloc h.size _
theorem bdr {w v : World} (h : Below w.heap.size w v) : Below w.heap.size w v.drew := h.drew
theorem bthen {w v x : World} (h : Below w.heap.size w v) (h2 : Below v.heap.size v x) : Below w.heap.size w x := h.trans (h2.mono h.size)
/-- Read rows appended to an empty slice. -/
theorem step_append_rd {ops : Array Oper} {w : World} {o : Oper} {a : Act} {K : Act → World → Prop} {Q : Exit → Act → World → Prop} {Ex : Prop} (hgd : o.guard = none) (s x : Operand) (t E : TypeId) (k bytes : Nat) (z : Value)
    (ho : o.op = .call { callee := .builtin .append, args := #[s, x], argTypes := #[t, t] }) (ht : Tryd.prog.underlying t = some (.slice E)) (hinfo : (Tryd.prog.info? E).map (fun i => (i.zero, i.size, i.bytes)) = some (some z, k, bytes)) (hz : z.cells.size = k) (hk : 0 < k)
    (y0 : Addr) (hs : a.eval s = .slice (some y0) 0 0) (ad : Option Addr) (m c : Nat) (R : Nat → List Value) (hx : a.eval x = .slice ad m c) (hr : RdRows w k ad m c R) (hl : ∀ i, (R i).length = k) (hby : m * bytes ≤ 140737488355328)
    (h : ∀ a' c' w', RdRows w' k a' m c' R → Below w.heap.size w w' → K (a.put o.dst (.slice a' m c')) w') :
    if Region.wanted o (yielded ops a.tmps) = true then Oper.wp Tryd.prog o a w K Q else Ex := by
  have hw : Region.wanted o (yielded ops a.tmps) = true := by simp [Region.wanted, hgd]
  rw [if_pos hw]
  obtain ⟨i, hi, hz0, hz1, hz2⟩ := info_parts hinfo
  have hf := hr.fits
  have hbd := hr.bound
  by_cases hm : m = 0
  · subst hm
    have hrun : (Builtin.append_ #[t, t] o.type #[.slice (some y0) 0 0, .slice ad 0 c]).run Tryd.prog w = .ok (.slice (some y0) 0 0) w := by
      refine run_append_nothing w t t o.type E i ht hi (some y0) 0 0 (Nat.le_refl _) _ ?_
      cases ad with
      | none => exact Src.ofNil w ht c
      | some x0 => exact Src.ofSlice w ht x0 0 c [] (by simp) (by simp) (by simp)
    unfold Oper.wp
    simp [execOp, ho, resolve, invoke, builtin, hs, hx, hrun, Result.andThen]
    exact h _ _ _ ⟨Nat.le_refl _, by omega, (fun h => by cases h), fun h => by omega⟩ (Below.refl _ _)
  · obtain ⟨b, off, hae, hc⟩ := hr.cells (by omega)
    subst hae
    have hlen : ∀ r ∈ (List.range m).map R, r.length = k := fun r hr => by
      obtain ⟨i, _, rfl⟩ := List.mem_map.1 hr; exact hl i
    have hnl : (flatR ((List.range m).map R)).length = m * k := by rw [flatR_length k _ hlen]; simp
    have hget : ∀ i j, i < m → j < k → (flatR ((List.range m).map R))[i * k + j]? = (R i)[j]? := fun i j hi hj => by
      rw [flatR_get k _ hlen i j (by simpa using hi) hj]
      simp [List.getD_eq_getElem?_getD, hi]
    have hnews : ∀ j u, (flatR ((List.range m).map R))[j]? = some u → w.cell? ((⟨b, off, none⟩ : Addr).add j) = some u := by
      intro j u hu
      have hj : j < m * k := by rw [← hnl]; exact (List.getElem?_eq_some_iff.1 hu).1
      have h1 : j / k < m := Nat.div_lt_of_lt_mul (by rw [Nat.mul_comm]; exact hj)
      have h2 : j % k < k := Nat.mod_lt _ hk
      have h3 : j / k * k + j % k = j := by rw [Nat.mul_comm]; exact Nat.div_add_mod j k
      rw [← h3, hget _ _ h1 h2] at hu
      have h4 := hc (j / k) h1 (j % k) u hu
      have e1 : (⟨b, off, none⟩ : Addr).add j = ⟨b, off + j, none⟩ := by unfold Addr.add; split <;> simp_all
      rw [e1, ← h3, ← Nat.add_assoc]
      exact h4
    obtain ⟨v', w', hrun, r1, r2⟩ := run_append_arg_grows (P := Tryd.prog) w t o.type E i z k bytes ht hi hz0 hz1 hz2 hz hk y0 0 0 [] (by simp) (by simp) ⟨b, off, none⟩ m c (flatR ((List.range m).map R)) hnl hnews (by omega) (by unfold maxLen; omega) (by simpa using hby)
    rw [Nat.zero_add, List.nil_append] at r1
    have hb' := below_grown r2
    rcases r1.2 with ⟨_, h0⟩ | ⟨g, cap, cur, hv, hB, hh, hcp, hmx, hsz, htk⟩
    · omega
    · subst hv
      unfold Oper.wp
      simp [execOp, ho, resolve, invoke, builtin, hs, hx, hrun, Result.andThen]
      refine h _ _ _ ⟨hcp, hbd, (fun h => by cases h), fun _ => ⟨g, 0, rfl, fun i hi j u hu => ?_⟩⟩ hb'
      have hj : j < k := by
        have := (List.getElem?_eq_some_iff.1 hu).1
        rwa [hl] at this
      have hlt : i * k + j < m * k := by
        have : (i + 1) * k ≤ m * k := Nat.mul_le_mul_right _ hi
        rw [Nat.add_mul, Nat.one_mul] at this
        omega
      rw [Nat.zero_add, World.ownsRow.cellAt r1 (i * k + j) hlt, hget i j hi hj]
      exact hu
theorem infoPlan : (Tryd.prog.info? 23).map (fun i => (i.zero, i.size, i.bytes)) = some (some (.agg (rowK 0 0 0 0)), 4, 32) := by kernel_rfl
theorem RdPl.rows {w : World} {a : Option Addr} {n cap : Nat} {P : Nat → PortP} (h : RdPl w a n cap P) : RdRows w 4 a n cap (fun i => (P i).row) := ⟨h.fits, by have := h.bound; omega, h.nil, h.cells⟩
theorem RdPl.of_rows {w : World} {a : Option Addr} {n cap : Nat} {P : Nat → PortP} (h : RdRows w 4 a n cap (fun i => (P i).row)) (hn : n ≤ 4398046511104) : RdPl w a n cap P := ⟨h.fits, hn, h.nil, h.cells⟩
theorem RdRows.congr {w : World} {k : Nat} {a : Option Addr} {n cap : Nat} {R R' : Nat → List Value} (h : RdRows w k a n cap R) (he : ∀ i, i < n → R i = R' i) : RdRows w k a n cap R' :=
  ⟨h.fits, h.bound, h.nil, fun hn => by
    obtain ⟨b, off, e, hc⟩ := h.cells hn
    exact ⟨b, off, e, fun i hi => by rw [← he i hi]; exact hc i hi⟩⟩
theorem RdPo.congr {w : World} {a : Option Addr} {n cap : Nat} {V V' : Nat → PortV} (h : RdPo w a n cap V) (he : ∀ i, i < n → V i = V' i) : RdPo w a n cap V' :=
  ⟨h.fits, h.bound, h.nil, fun hn => by
    obtain ⟨b, off, e, hc⟩ := h.cells hn
    exact ⟨b, off, e, fun i hi => by rw [← he i hi]; exact hc i hi⟩, fun i hi => by rw [← he i hi]; exact h.rd i hi⟩
theorem AllE.same {P : Nat → PortP} {V V' : Nat → PortV} {n m c : Nat} {pl : Int} (h : AllE P V n m c pl) (he : ∀ i, (V' i).l = (V i).l ∧ (V' i).g = (V i).g) : AllE P V' n m c pl := by
  cases h with
  | len h => exact .len h
  | plan k h1 h2 h3 h4 => exact .plan k h1 h2 h3 h4
  | state k h1 h2 h3 h4 h5 => exact .state k h1 h2 h3 (by rw [(he k).1, (he k).2]; exact h4) (fun i hi => by rw [(he i).1, (he i).2]; exact h5 i hi)
  | good h1 h2 h3 => exact .good h1 h2 (fun i hi => by rw [(he i).1, (he i).2]; exact h3 i hi)
theorem agedS_same {P : Nat → PortP} {V V' : Nat → PortV} (he : ∀ i, (V' i).l = (V i).l ∧ (V' i).g = (V i).g) : agedS P V' = agedS P V := funext fun i => by unfold agedS; rw [(he i).1, (he i).2]
theorem outS_same {P : Nat → PortP} {V V' : Nat → PortV} (he : ∀ i, (V' i).l = (V i).l ∧ (V' i).g = (V i).g) : outS P V' = outS P V := funext fun i => by unfold outS; rw [(he i).1, (he i).2]
theorem outM_same {P : Nat → PortP} {V V' : Nat → PortV} (he : ∀ i, (V' i).l = (V i).l ∧ (V' i).g = (V i).g) (n : Nat) : outM P V' n = outM P V n := by
  induction n with
  | zero => rfl
  | succ n ih => show outM P V' n ++ (bif inK (P n).kind then [] else (V' n).l.map _) = outM P V n ++ _; rw [ih, (he n).1]
/-- Two slices that can be read: ports, and rows. -/
def Two (w : World) (v d : Value) (n : Nat) (S : Nat → PortS) (k nl : Nat) (R : Nat → List Value) : Prop :=
  ∃ aa ac da dc U, v = .slice aa n ac ∧ RdPo w aa n ac U ∧ (∀ j, j < n → (U j).l = (S j).l ∧ (U j).g = (S j).g) ∧ d = .slice da nl dc ∧ RdRows w k da nl dc R
theorem two_nil (w : World) (S : Nat → PortS) (k : Nat) (R : Nat → List Value) : Two w (.slice none 0 0) (.slice none 0 0) 0 S k 0 R :=
  ⟨none, 0, none, 0, fun _ => ⟨none, 0, 0, 0, []⟩, rfl, ⟨by omega, by omega, fun _ => rfl, fun h => by omega, fun i hi => by omega⟩, fun j hj => by omega, rfl, ⟨by omega, by omega, fun _ => rfl, fun h => by omega⟩⟩
theorem two_of {w w' : World} {E : TypeId} {k n : Nat} {S : Nat → PortS} {v d : Value} {L : List (List Value)} {U : Nat → PortV} (h : ArrI w w' E k S n v L d U) (hn : n ≤ 4398046511104) (hs : ∀ i, i < n → (S i).l.length ≤ 8796093022208 ∧ ∀ s ∈ (S i).l, s.size < 9223372036854775808) (hL : L.length ≤ 5864062014805) :
    Two w' v d n S k L.length (fun i => L.getD i []) := by
  obtain ⟨aa, ac, rfl⟩ := h.po.shape
  obtain ⟨da, dc, m, hm, rfl⟩ := h.dr.shape
  obtain rfl := hm.out
  exact ⟨aa, ac, da, dc, U, rfl, h.po.rd hn (fun i hi => by rw [(h.is i hi).1]; exact hs i hi), h.is, rfl, h.dr.rd hL⟩
theorem Two.congr {w : World} {v d : Value} {n : Nat} {S : Nat → PortS} {k nl : Nat} {R R' : Nat → List Value} (h : Two w v d n S k nl R) (he : ∀ i, i < nl → R i = R' i) : Two w v d n S k nl R' := by
  obtain ⟨aa, ac, da, dc, U, h1, h2, h3, h4, h5⟩ := h
  exact ⟨aa, ac, da, dc, U, h1, h2, h3, h4, h5.congr he⟩
theorem getD_map {α β : Type} (f : α → β) (L : List α) (x : α) (y : β) (i : Nat) (hi : i < L.length) : (L.map f).getD i y = f (L.getD i x) := by
  simp [List.getD_eq_getElem?_getD, hi]
def zRep : RepV := ⟨0, 0, 0#32, 0#32⟩
def zMsg : MsgV := ⟨0, ⟨#[]⟩⟩
/-- The lengths behind Arrive and Emit. -/
def cutN (c n : Nat) : Nat := bif decide (c = 0) then n else 0
theorem cutN0 (n : Nat) : cutN 0 n = n := rfl
theorem cutNs {c : Nat} (h : c ≠ 0) (n : Nat) : cutN c n = 0 := by unfold cutN; rw [decide_eq_false h]; rfl
section
variable (A : Nat → Addr) (pa : Option Addr) (n pc : Nat) (P : Nat → PortP) (qa : Option Addr) (m qc : Nat) (V : Nat → PortV) (ma : Option Addr) (mn mc : Nat) (C : Nat → MsgV) (w : World) (h : RdPl w pa n pc P) (h2 : RdPo w qa m qc V) (c : Nat) (pl : Int) (hA : AllE P V n m c pl)
include h h2 hA
theorem port_arrive_two (h3 : RdRows w 2 ma mn mc (fun i => (C i).row)) (hs : ∀ i, i < mn → (C i).data.size < 9223372036854775808) (hE : Errs w allCodes A) :
    Calls Tryd.prog 40 #[.slice pa n pc, .slice qa m qc, .slice ma mn mc] w fun e w' => ∃ v d ev, e = .returned (.tuple #[v, d, ev]) ∧ ErrP w' A c pl ev ∧ Two w' v d (cutN c n) (arrS P n (agedS P V) C mn) 4 (cutN c (arrD P n (agedS P V) C mn).length) (fun i => ((arrD P n (agedS P V) C mn).getD i zRep).row) ∧ Below w.heap.size w w' := by
  by_cases hc : c = 0
  · subst hc
    have hg : pl = -1 ∧ n = m ∧ AllGood P V n := by
      rcases allE_cases hA with ⟨h, _⟩ | ⟨_, h0, h1, h2⟩
      · exact absurd rfl h
      · exact ⟨h0, h1, h2⟩
    obtain ⟨rfl, rfl, hgood⟩ := hg
    refine (port_arrive A pa n pc P qa n qc V ma mn mc C w h h2 h3 hs hA hE).mono fun e w' ⟨v, d, U, he, hI⟩ => ⟨v, d, _, he, .inl ⟨rfl, rfl, rfl⟩, ?_, hI.below⟩
    have hT := two_of hI h.bound (fun i hi => good_rd (arr_good (C := C) (fun j hj => aged_good hgood j hj) mn i hi)) (by rw [List.length_map]; have := arrD_len P n (agedS P V) C mn; have := h3.bound; omega)
    rw [List.length_map] at hT
    rw [cutN0, cutN0]
    exact hT.congr fun i hi => getD_map RepV.row _ zRep [] i hi
  · rw [cutNs hc, cutNs hc]
    exact (port_arrive_bad A pa n pc P qa m qc V ma mn mc w h h2 c pl hA hE hc).mono fun e w' ⟨ev, he, hp, hb⟩ => ⟨_, _, ev, he, hp, two_nil _ _ _ _, hb⟩
theorem ref_arrive_two (h3 : RdRows w 2 ma mn mc (fun i => (C i).row)) (hs : ∀ i, i < mn → (C i).data.size < 9223372036854775808) :
    Calls Tryd.prog 42 #[.slice pa n pc, .slice qa m qc, .slice ma mn mc] w fun e w' => ∃ v d, e = .returned (.tuple #[v, d, .agg (errA c pl)]) ∧ Two w' v d (cutN c n) (arrS P n (agedS P V) C mn) 4 (cutN c (arrD P n (agedS P V) C mn).length) (fun i => ((arrD P n (agedS P V) C mn).getD i zRep).row) ∧ Below w.heap.size w w' := by
  by_cases hc : c = 0
  · subst hc
    have hg : pl = -1 ∧ n = m ∧ AllGood P V n := by
      rcases allE_cases hA with ⟨h, _⟩ | ⟨_, h0, h1, h2⟩
      · exact absurd rfl h
      · exact ⟨h0, h1, h2⟩
    obtain ⟨rfl, rfl, hgood⟩ := hg
    refine (ref_arrive pa n pc P qa n qc V ma mn mc C w h h2 h3 hs hA).mono fun e w' ⟨v, d, U, he, hI⟩ => ⟨v, d, he, ?_, hI.below⟩
    have hT := two_of hI h.bound (fun i hi => good_rd (arr_good (C := C) (fun j hj => aged_good hgood j hj) mn i hi)) (by rw [List.length_map]; have := arrD_len P n (agedS P V) C mn; have := h3.bound; omega)
    rw [List.length_map] at hT
    rw [cutN0, cutN0]
    exact hT.congr fun i hi => getD_map RepV.row _ zRep [] i hi
  · rw [cutNs hc, cutNs hc]
    exact (ref_arrive_bad pa n pc P qa m qc V ma mn mc w h h2 c pl hA hc).mono fun e w' ⟨he, hb⟩ => ⟨_, _, he, two_nil _ _ _ _, hb⟩
omit h h2 in
theorem out_small (hc : c = 0) : ∀ i, i < n → (outS P V i).l.length ≤ 8796093022208 ∧ ∀ s ∈ (outS P V i).l, s.size < 9223372036854775808 := by
  subst hc
  intro i hi
  rcases allE_cases hA with ⟨h, _⟩ | ⟨_, h0, h1, hgood⟩
  · exact absurd rfl h
  · unfold outS
    cases inK (P i).kind
    · exact ⟨by simp, by simp⟩
    · exact good_rd (hgood i hi)
theorem port_emit_two (hM : 8 * n ≤ 5864062014805) (hE : Errs w allCodes A) :
    Calls Tryd.prog 46 #[.slice pa n pc, .slice qa m qc] w fun e w' => ∃ v d ev, e = .returned (.tuple #[v, d, ev]) ∧ ErrP w' A c pl ev ∧ Two w' v d (cutN c n) (outS P V) 2 (cutN c (outM P V n).length) (fun i => ((outM P V n).getD i zMsg).row) ∧ Below w.heap.size w w' := by
  by_cases hc : c = 0
  · have hsm := out_small n P m V c pl hA hc
    subst hc
    have hg : pl = -1 ∧ n = m ∧ AllGood P V n := by
      rcases allE_cases hA with ⟨h, _⟩ | ⟨_, h0, h1, h2⟩
      · exact absurd rfl h
      · exact ⟨h0, h1, h2⟩
    obtain ⟨rfl, rfl, hgood⟩ := hg
    refine (port_emit A pa n pc P qa n qc V w h h2 hA hM hE).mono fun e w' ⟨v, d, U, he, hI⟩ => ⟨v, d, _, he, .inl ⟨rfl, rfl, rfl⟩, ?_, hI.below⟩
    have hT := two_of hI h.bound hsm (by unfold rowsM; rw [List.length_map]; have := outM_len hgood n (Nat.le_refl _); omega)
    unfold rowsM at hT
    rw [List.length_map] at hT
    rw [cutN0, cutN0]
    exact hT.congr fun i hi => getD_map MsgV.row _ zMsg [] i hi
  · rw [cutNs hc, cutNs hc]
    exact (port_emit_bad A pa n pc P qa m qc V w h h2 c pl hA hE hc).mono fun e w' ⟨ev, he, hp, hb⟩ => ⟨_, _, ev, he, hp, two_nil _ _ _ _, hb⟩
theorem ref_emit_two (hM : 8 * n ≤ 5864062014805) :
    Calls Tryd.prog 47 #[.slice pa n pc, .slice qa m qc] w fun e w' => ∃ v d, e = .returned (.tuple #[v, d, .agg (errA c pl)]) ∧ Two w' v d (cutN c n) (outS P V) 2 (cutN c (outM P V n).length) (fun i => ((outM P V n).getD i zMsg).row) ∧ Below w.heap.size w w' := by
  by_cases hc : c = 0
  · have hsm := out_small n P m V c pl hA hc
    subst hc
    have hg : pl = -1 ∧ n = m ∧ AllGood P V n := by
      rcases allE_cases hA with ⟨h, _⟩ | ⟨_, h0, h1, h2⟩
      · exact absurd rfl h
      · exact ⟨h0, h1, h2⟩
    obtain ⟨rfl, rfl, hgood⟩ := hg
    refine (ref_emit pa n pc P qa n qc V w h h2 hA hM).mono fun e w' ⟨v, d, U, he, hI⟩ => ⟨v, d, he, ?_, hI.below⟩
    have hT := two_of hI h.bound hsm (by unfold rowsM; rw [List.length_map]; have := outM_len hgood n (Nat.le_refl _); omega)
    unfold rowsM at hT
    rw [List.length_map] at hT
    rw [cutN0, cutN0]
    exact hT.congr fun i hi => getD_map MsgV.row _ zMsg [] i hi
  · rw [cutNs hc, cutNs hc]
    exact (ref_emit_bad pa n pc P qa m qc V w h h2 c pl hA hc).mono fun e w' ⟨he, hb⟩ => ⟨_, _, he, two_nil _ _ _ _, hb⟩
end
/-- The law's copiedAll: ports of its own, the same lists and ages. -/
theorem law_copiedAll2 (qa : Option Addr) (n qc : Nat) (V : Nat → PortV) (w : World) (h : RdPo w qa n qc V) :
    Calls Tryd.prog 41 #[.slice qa n qc] w fun e w' => ∃ oa oc U, e = .returned (.slice oa n oc) ∧ RdPo w' oa n oc U ∧ (∀ i, (U i).l = (V i).l ∧ (U i).g = (V i).g) ∧ Below w.heap.size w w' := by
  refine (law_copiedAll qa n qc V w h).mono fun e w' ⟨v, he, U, hU, hUV, hb⟩ => ?_
  obtain ⟨oa, oc, rfl⟩ := hU.shape
  have hr := hU.rd h.bound (fun i hi => by rw [(hUV i hi).1]; exact rd_lens (h.rd i hi))
  refine ⟨oa, oc, fun i => if i < n then U i else V i, he, hr.congr fun i hi => by rw [if_pos hi], fun i => ?_, hb⟩
  by_cases hi : i < n
  · simp only [if_pos hi]; exact hUV i hi
  · simp [hi]
end Go.Proofs.YtjlgnbjfgeppcaaDoor
