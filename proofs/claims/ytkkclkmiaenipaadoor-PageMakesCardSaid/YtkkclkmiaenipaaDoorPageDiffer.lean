/- Pages that differ: the document's Differ, the program's. -/
import Derived.Test.YtkkclkmiaenipaaDoorPageCopy
import Derived.Test.YtkkclkmiaenipaaDoorPageEq
import Derived.Test.YtkkclkmiaenipaaDoorQuietLoad
namespace Go.Proofs.YtkkclkmiaenipaaDoor
open Go Go.RowKit
set_option linter.unusedVariables false

/-- Numbers of pages as cells. -/
def nv (l : List Nat) : List Value := l.map fun (i : Nat) => .int .i64 (i : Int)
theorem nv_length (l : List Nat) : (nv l).length = l.length := by simp [nv]
theorem nv_append (l m : List Nat) : nv (l ++ m) = nv l ++ nv m := by simp [nv]
theorem nv_one (l : List Nat) : ∀ u ∈ nv l, u.oneCell' = true := by
  intro u hu
  simp only [nv, List.mem_map] at hu
  obtain ⟨c, _, rfl⟩ := hu
  rfl
/-- Numbers of the call's own. -/
def OwnI (w : World) (B : Nat) (v : Value) (l : List Nat) : Prop := w.ownsRow B 3 1 v l.length (nv l)
theorem OwnI.nil (w : World) (B : Nat) : OwnI w B (.slice none 0 0) [] := World.ownsRow_nil w B _ _
theorem OwnI.later {w w1 : World} {B : Nat} {v : Value} {l : List Nat} (h : OwnI w B v l) (hb : Below w.heap.size w w1) : OwnI w1 B v l := by
  refine ⟨h.1, ?_⟩
  rcases h.2 with h' | ⟨g, cap, cur, hv, hg, hh, r⟩
  · exact .inl h'
  · exact .inr ⟨g, cap, cur, hv, hg, (hb.block _ (Array.getElem?_eq_some_iff.1 hh).1).trans hh, r⟩
theorem OwnI.mono {w : World} {B B' : Nat} {v : Value} {l : List Nat} (h : OwnI w B v l) (hB : B' ≤ B) : OwnI w B' v l := by
  refine ⟨h.1, ?_⟩
  rcases h.2 with h' | ⟨g, cap, cur, hv, hg, r⟩
  · exact .inl h'
  · exact .inr ⟨g, cap, cur, hv, by omega, r⟩
theorem infoInt : (Tryd.prog.info? 3).map (fun i => (i.zero, i.size, i.bytes)) = some (some (.int .i64 0), 1, 8) := by kernel_rfl
/-- Appending one number. -/
theorem append_num {w : World} {ops : Array Oper} {rest : List Oper} {o : Oper} {a : Act} {Q : Exit → Act → World → Prop} (hgd : o.guard = none) (s x : Operand)
    (ho : o.op = .call { callee := .builtin .append, args := #[s, x], argTypes := #[48, 48] })
    (w0 : World) (i : Nat) (hw : w = w0.alloc (.cells #[.int .i64 (i : Int)] 3))
    (base : Nat) (v : Value) (l : List Nat) (hs : a.eval s = v) (hown : OwnI w0 base v l) (hx : a.eval x = .slice (some ⟨w0.heap.size, 0, none⟩) 1 1)
    (hl : l.length + 1 ≤ 17592186044416) (hbase : base ≤ w0.heap.size)
    (h : ∀ v' w', OwnI w' base v' (l ++ [i]) → Below base w0 w' → wpList Tryd.prog ops Q rest (a.put o.dst v') w') : wpList Tryd.prog ops Q (o :: rest) a w := by
  subst hw
  obtain ⟨i', hi, hz0, hz1, hz2⟩ := info_parts infoInt
  have b1 : Below w0.heap.size w0 (w0.alloc (.cells #[.int .i64 (i : Int)] 3)) := (Below.refl _ _).alloc (Nat.le_refl _) _
  have hown1 := hown.later b1
  refine wpList_append_own _ hgd s x 48 ho base 3 i' (.int .i64 0) 1 8 Tryd.underlying48 hi hz0 hz1 hz2 rfl (by decide) v l.length (nv l) hs hown1 ⟨w0.heap.size, 0, none⟩ 1 1 [.int .i64 (i : Int)] hx rfl ?_ (by intro u hu; simp only [List.mem_singleton] at hu; subst hu; rfl) (by unfold maxLen; omega) (by omega) (by have := b1.size; omega) ?_
  · intro j u hu
    rw [Addr.add_mid, Nat.zero_add, World.cell?_alloc_new]
    simpa using hu
  · intro v' w' h1 h2 _
    refine h v' w' ?_ ((b1.mono hbase).grown h2 (by have := b1.size; omega) (fun k hk => own_base66 hown hk))
    unfold OwnI
    rw [nv_append, List.length_append]
    simpa [nv] using h1
/-- The pages of the first n that differ. -/
def diffs (P Q : Nat → PageV) : Nat → List Nat
  | 0 => []
  | n + 1 => diffs P Q n ++ bif dataEq (P n).data (Q n).data then [] else [n]
theorem diffs_length (P Q : Nat → PageV) (n : Nat) : (diffs P Q n).length ≤ n := by
  induction n with
  | zero => simp [diffs]
  | succ n ih =>
    rw [diffs, List.length_append]
    cases dataEq (P n).data (Q n).data <;> simp <;> omega
theorem diffs_same {P Q : Nat → PageV} {n : Nat} (h : dataEq (P n).data (Q n).data = true) : diffs P Q (n + 1) = diffs P Q n := by rw [diffs, h]; simp
theorem diffs_more {P Q : Nat → PageV} {n : Nat} (h : dataEq (P n).data (Q n).data = false) : diffs P Q (n + 1) = diffs P Q n ++ [n] := by rw [diffs, h]; simp
/-- A page's bytes, where they lie. -/
theorem data_in {w : World} {b o : Nat} {p : PageV} (h : w.rangeAt b o p.row) : w.rangeAt b (o + 2) (dataL p.data) := by
  intro j v hv
  have h2 := h (j + 2) v (by simp only [PageV.row, List.getElem?_cons_succ]; exact hv)
  rw [← h2]
  congr 2
  omega
theorem data_at {w : World} {b o : Nat} {p : PageV} (h : w.rangeAt b o p.row) : ∀ w', (∃ n, w' = w.drewN n) → w'.rangeAt b (o + 2) (dataL p.data) := by
  rintro w' ⟨q, rfl⟩
  exact data_in (prange_later h (Drew.below ⟨q, rfl⟩))
theorem dataLen (p : PageV) : (Tryd.prog.info? 34).map (·.size) = some (dataL p.data).length := by rw [dataL_length]; exact infoData
set_option maxRecDepth 100000 in
set_option maxHeartbeats 4000000 in
theorem ref_differ (a1 a2 : Option Addr) (n m c1 c2 : Nat) (P Q : Nat → PageV) (w : World) (h1 : RdP w a1 n c1 P) (h2 : RdP w a2 m c2 Q) (L : List Nat) (c : Nat)
    (h : (n = m ∧ L = diffs P Q n ∧ c = 0) ∨ (n ≠ m ∧ L = [] ∧ c = 5)) :
    Calls Tryd.prog 28 #[.slice a1 n c1, .slice a2 m c2] w fun e w' => ∃ v, e = .returned (.tuple #[v, .int .i64 (c : Int)]) ∧ OwnI w' w.heap.size v L ∧ Below w.heap.size w w' := by
  have H1 := Kp.mk h1
  have H2 := Kp.mk h2
  have hn := h1.bound
  clear h1 h2
  rcases h with ⟨rfl, hL, rfl⟩ | ⟨hne, rfl, rfl⟩
  · have HL := Kp.mk hL
    clear hL
    have hb : ((n : Int) != (n : Int)) = false := by simp
    have hg := guardData
    have he := data_eq 9998
    go_enter Tryd.func28, Tryd.ntmps28
    go_wp2
    go_loopw [6, 7] (fun v i wr => ∃ k : Nat, k ≤ n ∧ i = .int .i64 k ∧ Kp (OwnI wr w.heap.size v (diffs P Q k)) ∧ Kp (Below w.heap.size w wr)) (fun _ i _ => n - (intOf i).toNat)
    case atStart => exact ⟨0, by omega, rfl, ⟨OwnI.nil _ _⟩, ⟨Below.refl _ _⟩⟩
    case round =>
      obtain ⟨k, hk, rfl, HO, HB⟩ := hrel
      by_cases hlt : k < n
      · have hb : decide ((k : Int) < n) = true := decide_eq_true (by omega)
        obtain ⟨b1, o1, ha1, _⟩ := H1.out.cells (by omega)
        obtain ⟨b2, o2, ha2, _⟩ := H2.out.cells (by omega)
        have L1 := Kp.mk (data_at (prange_later (H1.out.page ha1 k hlt) HB.out))
        have L2 := Kp.mk (data_at (prange_later (H2.out.page ha2 k hlt) HB.out))
        subst ha1
        subst ha2
        obtain ⟨d, hd⟩ : ∃ d, d = dataEq (P k).data (Q k).data := ⟨_, rfl⟩
        have HD := Kp.mk hd
        have he' := fun w => he (P k).data (Q k).data w
        rw [← hd] at he'
        clear he hd
        go_wp2
        refine wp_region_quiet_lit (by kernel_rfl) (by kernel_rfl) ?_
        repeat (first
          | ((first
              | (refine quiet_load rfl 34 _ rfl b1 (o1 + k * 66 + 2) rfl (dataL (P k).data) _ L1.out Tryd.underlying34 rfl (dataLen _) ?_)
              | (refine quiet_load rfl 34 _ rfl b2 (o2 + k * 66 + 2) rfl (dataL (Q k).data) _ L2.out Tryd.underlying34 rfl (dataLen _) ?_)); simp only [Act.put, List.setIfInBounds_toArray, List.set_cons_zero, List.set_cons_succ])
          | quiet_step (fail))
        refine wpQuiet_nil ?_
        rintro _ ⟨nq, rfl⟩
        have HD1 := Kp.mk (Drew.below (w := wr) ⟨nq, rfl⟩)
        obtain ⟨w2, hw2⟩ : ∃ w2, w2 = wr.drewN nq := ⟨_, rfl⟩
        rw [← hw2] at HD1 ⊢
        clear hw2
        have HO2 := Kp.mk (HO.out.later HD1.out)
        have HB2 := Kp.mk (HB.out.trans (HD1.out.mono HB.out.size))
        have HLen := Kp.mk (diffs_length P Q k)
        cases d
        · go_wp2_with (refine append_num rfl _ _ rfl w2 k rfl w.heap.size _ (diffs P Q k) rfl HO2.out rfl (by have := HLen.out; omega) HB2.out.size ?_; rintro v' w3 ho3 hb3)
          have HO3 : Kp (OwnI w3 w.heap.size v' (diffs P Q (k + 1))) := ⟨by rw [diffs_more HD.out.symm]; exact ho3⟩
          have HB3 := Kp.mk (HB2.out.trans hb3)
          clear ho3 hb3
          go_roundw
          case rel => exact ⟨k + 1, by omega, by go_num, HO3, HB3⟩
          case measure => simp [intOf]; omega
        · have HO3 : Kp (OwnI w2 w.heap.size u6 (diffs P Q (k + 1))) := ⟨by rw [diffs_same HD.out.symm]; exact HO2.out⟩
          go_wp2
          go_roundw
          case rel => exact ⟨k + 1, by omega, by go_num, HO3, HB2⟩
          case measure => simp [intOf]; omega
      · have : k = n := by omega
        subst this
        have hb : decide ((k : Int) < k) = false := by simp
        go_wp2
        go_ret2
        exact ⟨_, rfl, by rw [HL.out]; exact HO.out, HB.out⟩
  · have hb : ((n : Int) != (m : Int)) = true := by simp; omega
    go_enter Tryd.func28, Tryd.ntmps28
    go_wp2
    go_ret2
    exact ⟨_, rfl, OwnI.nil _ _, Below.refl _ _⟩
end Go.Proofs.YtkkclkmiaenipaaDoor
