/- PageCompares, walked. -/
import Derived.Test.YtkkclkmiaenipaaDoorPageAlike
import Derived.Test.YtkkclkmiaenipaaDoorErrCode5
namespace Go.Proofs.YtkkclkmiaenipaaDoor
open Go Go.RowKit
set_option linter.unusedVariables false

/-- A page as a literal. -/
theorem build_lit {ops : Array Oper} {rest : List Oper} {o : Oper} {a : Act} {w : World} {Q : Exit → Act → World → Prop} (hg : o.guard = none) (parts : Array (Nat × Operand)) (ho : o.op = .build 36 parts) (p : PageV)
    (hf : Tryd.prog.built 36 (parts.map fun (i, x) => (i, a.eval x)).toList = some p.row.toArray)
    (h : wpList Tryd.prog ops Q rest (a.put o.dst (.agg p.row.toArray)) w) : wpList Tryd.prog ops Q (o :: rest) a w :=
  wpList_build hg 36 parts ho (by rw [hf]; rfl) (by rw [hf]; exact h)
theorem RdP.lit1 (w : World) (p : PageV) : RdP (w.alloc (.cells p.row.toArray 36)) (some ⟨w.heap.size, 0, none⟩) 1 1 (fun _ => p) :=
  ⟨by omega, by omega, (fun h => by cases h), fun _ => ⟨w.heap.size, 0, rfl, fun i hi j u hu => by
    have : i = 0 := by omega
    subst this
    rw [Nat.zero_mul, Nat.zero_add, World.cell?_alloc_new]
    simpa using hu⟩⟩
theorem rowSize (p : PageV) : p.row.toArray.size = 66 := by simp [PageV.row_length]
abbrev litA : PageV := ⟨1, true, fun _ => 0#8⟩
abbrev litB : PageV := ⟨1, false, fun _ => 0#8⟩
theorem builtA : Tryd.prog.built 36 [(0, .int .i64 1), (1, .bool true)] = some litA.row.toArray := by kernel_rfl
theorem builtB : Tryd.prog.built 36 [(0, .int .i64 1)] = some litB.row.toArray := by kernel_rfl
set_option maxRecDepth 100000 in
set_option maxHeartbeats 4000000 in
theorem law_PageCompares (A : Nat → Addr) (a1 : Option Addr) (n c1 : Nat) (P : Nat → PageV) (a2 : Option Addr) (m c2 : Nat) (Q : Nat → PageV) (w : World) (h1 : RdP w a1 n c1 P) (h2 : RdP w a2 m c2 Q) (hE : Errs w allCodes A) (hT : TypeVar w) :
    Calls Tryd.prog 6 #[.slice a1 n c1, .slice a2 m c2] w fun e w' => e = .returned (.bool true) ∧ Below w.heap.size w w' := by
  have H1 := Kp.mk h1
  have H2 := Kp.mk h2
  have HE := Kp.mk hE
  have HT := Kp.mk hT
  obtain ⟨r, hr⟩ : ∃ r : Bool, (r = true ↔ n = m ∧ ∀ i, i < n → (P i).like (Q i) = true) := ⟨decide (n = m ∧ ∀ i, i < n → (P i).like (Q i) = true), by simp⟩
  have HR := Kp.mk hr
  obtain ⟨L, c, hL⟩ : ∃ (L : List Nat) (c : Nat), (n = m ∧ L = diffs P Q n ∧ c = 0) ∨ (n ≠ m ∧ L = [] ∧ c = 5) := by
    by_cases e : n = m
    · exact ⟨_, _, .inl ⟨e, rfl, rfl⟩⟩
    · exact ⟨_, _, .inr ⟨e, rfl, rfl⟩⟩
  have HL := Kp.mk hL
  have hLen : L.length ≤ 17592186044416 := by
    rcases hL with ⟨_, rfl, _⟩ | ⟨_, rfl, _⟩
    · have := diffs_length P Q n; have := h1.bound; omega
    · simp
  have hc : c ≤ 20 := by rcases hL with ⟨_, _, rfl⟩ | ⟨_, _, rfl⟩ <;> omega
  clear h1 h2 hE hT hr hL
  have HLen := Kp.mk hLen
  have HCC := Kp.mk hc
  clear hLen hc
  obtain ⟨w1, e1⟩ : ∃ w1, w1 = w.alloc (.cells litA.row.toArray 36) := ⟨_, rfl⟩
  obtain ⟨w2, e2⟩ : ∃ w2, w2 = w1.alloc (.cells litB.row.toArray 36) := ⟨_, rfl⟩
  have b1 : Below w.heap.size w w1 := by rw [e1]; exact (Below.refl _ _).alloc (Nat.le_refl _) _
  have b2 : Below w1.heap.size w1 w2 := by rw [e2]; exact (Below.refl _ _).alloc (Nat.le_refl _) _
  have R1 : RdP w2 (some ⟨w.heap.size, 0, none⟩) 1 1 (fun _ => litA) := RdP.later (by rw [e1]; exact RdP.lit1 w litA) b2
  have R2 : RdP w2 (some ⟨w1.heap.size, 0, none⟩) 1 1 (fun _ => litB) := by rw [e2]; exact RdP.lit1 w1 litB
  have K1 := Kp.mk (page_alike _ _ 1 1 1 1 _ _ w2 R1 R2 true ⟨fun _ => ⟨rfl, fun i hi => by simp [PageV.like, dataEq_refl]⟩, fun _ => rfl⟩)
  have B2 := Kp.mk (b1.trans (b2.mono b1.size))
  have E1 := Kp.mk e1
  have E2 := Kp.mk e2
  clear R1 R2 b1 b2 e1 e2
  have hrr : (r == r) = true := by simp
  have hcc : ((c : Int) == (c : Int)) = true := by simp
  go_enter Tryd.func6, Tryd.ntmps6
  go_wp2_with (first
    | (refine build_lit rfl _ rfl litA builtA ?_)
    | (refine build_lit rfl _ rfl litB builtB ?_)
    | (refine build_page rfl _ rfl litA.row.toArray rfl (rowSize _) ?_; rw [← E1.out])
    | (refine build_page rfl _ rfl litB.row.toArray rfl (rowSize _) ?_; rw [← E2.out])
    | (refine K1.out.mono ?_; rintro e w3 ⟨rfl, hb⟩; have B3 := Kp.mk (B2.out.trans (hb.mono B2.out.size)); clear hb))
  refine (ref_differ _ _ _ _ _ _ _ _ w3 (H1.out.later B3.out) (H2.out.later B3.out) L c HL.out).mono ?_
  rintro e w4 ⟨v4, rfl, o4, hb⟩
  have O4 := Kp.mk o4
  have B4 := Kp.mk (B3.out.trans (hb.mono B3.out.size))
  clear o4 hb
  go_wp2_with fail
  refine (ref_alike _ _ _ _ _ _ _ _ w4 (H1.out.later B4.out) (H2.out.later B4.out) r HR.out).mono ?_
  rintro e w5 ⟨rfl, hd⟩
  have O5 := Kp.mk (O4.out.later hd.below)
  have B5 := Kp.mk (B4.out.trans (hd.below.mono B4.out.size))
  clear hd
  go_wp2_with fail
  refine (ref_copy _ _ _ _ w5 (H1.out.later B5.out)).mono ?_
  rintro e w6 ⟨v6, rfl, o6, hb⟩
  have O6 := Kp.mk (O5.out.later hb)
  have B6 := Kp.mk (B5.out.trans (hb.mono B5.out.size))
  obtain ⟨x6, y6, rfl, r6⟩ := o6.rd H1.out.bound
  have R6 := Kp.mk r6
  clear o6 hb r6
  go_wp2_with fail
  refine (ref_copy _ _ _ _ w6 (H2.out.later B6.out)).mono ?_
  rintro e w7 ⟨v7, rfl, o7, hb⟩
  have O7 := Kp.mk (O6.out.later hb)
  have B7 := Kp.mk (B6.out.trans (hb.mono B6.out.size))
  have Q6 := Kp.mk (R6.out.later hb)
  obtain ⟨x7, y7, rfl, r7⟩ := o7.rd H2.out.bound
  have R7 := Kp.mk r7
  clear o7 hb r7
  go_wp2_with fail
  refine (page_differ A _ _ _ _ _ _ _ _ w7 Q6.out R7.out L c HL.out ((HE.out.later B7.out).sub (by decide))).mono ?_
  rintro e w8 ⟨v8, rfl, o8, hb⟩
  have O8 := Kp.mk (O7.out.later hb)
  have S8 := Kp.mk o8
  have B8 := Kp.mk (B7.out.trans (hb.mono B7.out.size))
  clear o8 hb
  go_wp2_with fail
  refine (ref_copy _ _ _ _ w8 (H1.out.later B8.out)).mono ?_
  rintro e w9 ⟨v9, rfl, o9, hb⟩
  have O9 := Kp.mk (O8.out.later hb)
  have S9 := Kp.mk (S8.out.later hb)
  have B9 := Kp.mk (B8.out.trans (hb.mono B8.out.size))
  obtain ⟨x9, y9, rfl, r9⟩ := o9.rd H1.out.bound
  have R9 := Kp.mk r9
  clear o9 hb r9
  go_wp2_with fail
  refine (ref_copy _ _ _ _ w9 (H2.out.later B9.out)).mono ?_
  rintro e wa ⟨va, rfl, oa, hb⟩
  have Oa := Kp.mk (O9.out.later hb)
  have Sa := Kp.mk (S9.out.later hb)
  have Ba := Kp.mk (B9.out.trans (hb.mono B9.out.size))
  have Qa := Kp.mk (R9.out.later hb)
  obtain ⟨xa, ya, rfl, ra⟩ := oa.rd H2.out.bound
  have Ra := Kp.mk ra
  clear oa hb ra
  go_wp2_with fail
  refine (page_alike _ _ _ _ _ _ _ _ wa Qa.out Ra.out r HR.out).mono ?_
  rintro e wb ⟨rfl, hb⟩
  have Ob := Kp.mk (Oa.out.later hb)
  have Sb := Kp.mk (Sa.out.later hb)
  have Bb := Kp.mk (Ba.out.trans (hb.mono Ba.out.size))
  clear hb
  go_wp2_with fail
  refine (law_ints _ _ L _ _ wb Sb.out Ob.out HLen.out).mono ?_
  rintro e wc ⟨rfl, hd⟩
  have Bc := Kp.mk (Bb.out.trans (hd.below.mono Bb.out.size))
  clear hd
  go_wp2_with fail
  refine (law_code A c wc HCC.out (HE.out.later Bc.out) (HT.out.later Bc.out)).mono ?_
  rintro e wd ⟨rfl, hb⟩
  have Bd := Kp.mk (Bc.out.trans (hb.mono Bc.out.size))
  clear hb
  go_wp2
  go_ret
  exact ⟨rfl, Bd.out⟩
end Go.Proofs.YtkkclkmiaenipaaDoor
