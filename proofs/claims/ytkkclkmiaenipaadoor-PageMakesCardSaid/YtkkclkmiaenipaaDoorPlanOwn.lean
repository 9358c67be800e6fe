/- Plans of the call's own; a plan as a literal; equality of plans. -/
import Derived.Test.YtkkclkmiaenipaaDoorRefMake
namespace Go.Proofs.YtkkclkmiaenipaaDoor
open Go Go.RowKit
set_option linter.unusedVariables false

def plansL (C : Nat → PlanV) : Nat → List Value
  | 0 => []
  | n + 1 => plansL C n ++ (C n).row
theorem PlanV.row_length (p : PlanV) : p.row.length = 2 := rfl
theorem plansL_length (C : Nat → PlanV) (n : Nat) : (plansL C n).length = n * 2 := by
  induction n with
  | zero => rfl
  | succ n ih => rw [plansL, List.length_append, ih, PlanV.row_length, Nat.add_mul]
theorem plansL_get (C : Nat → PlanV) (n i j : Nat) (hi : i < n) (hj : j < 2) : (plansL C n)[i * 2 + j]? = (C i).row[j]? := by
  induction n with
  | zero => omega
  | succ n ih =>
    rw [plansL]
    by_cases e : i = n
    · subst e
      rw [List.getElem?_append_right (by rw [plansL_length]; omega), plansL_length, Nat.add_sub_cancel_left]
    · rw [List.getElem?_append_left (by rw [plansL_length]; omega)]
      exact ih (by omega)
theorem plansL_one (C : Nat → PlanV) (n : Nat) : ∀ u ∈ plansL C n, u.oneCell' = true := by
  induction n with
  | zero => intro u hu; cases hu
  | succ n ih =>
    intro u hu
    rw [plansL, List.mem_append] at hu
    rcases hu with hu | hu
    · exact ih u hu
    · simp only [PlanV.row, List.mem_cons, List.not_mem_nil, or_false] at hu
      rcases hu with rfl | rfl <;> rfl
theorem RdK.at {w : World} {a : Option Addr} {n cap : Nat} {C : Nat → PlanV} (h : RdK w a n cap C) {x : Addr} (ha : a = some x) (j : Nat) (u : Value) (hu : (plansL C n)[j]? = some u) : w.cell? (x.add j) = some u := by
  have hj : j < n * 2 := by
    have := (List.getElem?_eq_some_iff.1 hu).1
    rwa [plansL_length] at this
  obtain ⟨b, off, e, hc⟩ := h.cells (by omega)
  rw [ha] at e
  obtain rfl := Option.some.inj e
  have e1 : j / 2 * 2 + j % 2 = j := by omega
  have hg := plansL_get C n (j / 2) (j % 2) (by omega) (by omega)
  rw [e1, hu] at hg
  have := hc (j / 2) (by omega) (j % 2) u hg.symm
  rw [Addr.add_mid, ← this]
  congr 2
  omega
/-- Plans of the call's own can be read. -/
theorem own_plans {w : World} {B : Nat} {v : Value} {n : Nat} {C : Nat → PlanV} (h : w.ownsRow B 58 2 v n (plansL C n)) (hn : n ≤ 5864062014805) (hf : ∀ i, i < n → (C i).init.size < 9223372036854775808) : ∃ a cap, v = .slice a n cap ∧ RdK w a n cap C := by
  rcases h.2 with ⟨hv, h0⟩ | ⟨g, cap, cur, hv, hb, hh, hff, hm, hcs, ht⟩
  · subst h0
    exact ⟨none, 0, hv, by omega, by omega, fun _ => rfl, hf, fun h => by omega⟩
  · subst hv
    refine ⟨_, _, rfl, hff, hn, (fun h => by cases h), hf, fun _ => ⟨g, 0, rfl, fun i hi j u hu => ?_⟩⟩
    have hj : j < 2 := by
      have := (List.getElem?_eq_some_iff.1 hu).1
      rwa [PlanV.row_length] at this
    rw [Nat.zero_add, World.ownsRow.cellAt h (i * 2 + j) (by omega), plansL_get C n i j hi hj]
    exact hu
theorem infoPlan : (Tryd.prog.info? 58).map (fun i => (i.zero, i.size, i.bytes)) = some (some (.agg zPlan), 2, 24) := by kernel_rfl
/-- 'append([]PagePlan{}, plans...)'. -/
theorem append_plans {w0 : World} {ops : Array Oper} {rest : List Oper} {o : Oper} {a : Act} {Q : Exit → Act → World → Prop} (hgd : o.guard = none) (s x : Operand)
    (ho : o.op = .call { callee := .builtin .append, args := #[s, x], argTypes := #[54, 54] })
    (hs : a.eval s = .slice (some ⟨w0.heap.size, 0, none⟩) 0 0)
    (ad : Option Addr) (m c : Nat) (C : Nat → PlanV) (hx : a.eval x = .slice ad m c) (hr : RdK w0 ad m c C)
    (h : ∀ v' w', w'.ownsRow w0.heap.size 58 2 v' m (plansL C m) → Below w0.heap.size w0 w' → wpList Tryd.prog ops Q rest (a.put o.dst v') w') :
    wpList Tryd.prog ops Q (o :: rest) a (w0.alloc (.cells #[] 58)) := by
  obtain ⟨i, hi, hz0, hz1, hz2⟩ := info_parts infoPlan
  have hown := (World.ownsRow_lit w0 #[] 0 (base := w0.heap.size) (e := 58) (size := 2) (Nat.le_refl _) (by decide) rfl)
  have b0 : Below w0.heap.size w0 (w0.alloc (.cells #[] 58)) := (Below.refl _ _).alloc (Nat.le_refl _) _
  have hr1 := hr.later b0
  cases ad with
  | none =>
    have hc := hr.nil rfl
    have hm : m = 0 := by have := hr.fitsCap; omega
    subst hc; subst hm
    refine wpList_append_own_none hgd s x 54 ho w0.heap.size 58 i 2 Tryd.underlying54 hi _ 0 _ hs hown hx ?_
    exact h _ _ (by simpa [plansL] using hown) b0
  | some x0 =>
    refine wpList_append_own _ hgd s x 54 ho w0.heap.size 58 i _ 2 24 Tryd.underlying54 hi hz0 hz1 hz2 (by simp [Value.cells, zPlan]) (by decide) _ 0 _ hs hown x0 m c (plansL C m) hx (plansL_length C m) (hr1.at rfl) (plansL_one C m) (by have := hr.bound; unfold maxLen; omega) (by have := hr.bound; omega) (by have := b0.size; omega) ?_
    intro v' w' h1 h2 _
    refine h v' w' ?_ (b0.grown h2 (by have := b0.size; omega) (fun k hk => own_base66 hown hk))
    simpa using h1
/-- One plan as a slice literal. -/
theorem build_plan {ops : Array Oper} {rest : List Oper} {o : Oper} {a : Act} {w : World} {Q : Exit → Act → World → Prop} (hg : o.guard = none) (x : Operand) (ho : o.op = .buildSlice 54 1 #[(0, x)])
    (cs : Array Value) (hx : a.eval x = .agg cs) (hs : cs.size = 2)
    (h : wpList Tryd.prog ops Q rest (a.put o.dst (.slice (some ⟨w.heap.size, 0, none⟩) 1 1)) (w.alloc (.cells cs 58))) : wpList Tryd.prog ops Q (o :: rest) a w := by
  obtain ⟨i, hi, hz0, hz1, hz2⟩ := info_parts infoPlan
  refine wpList_buildSlice hg 54 58 1 #[(0, x)] ho cs i _ Tryd.underlying54 hi hz0 (by rw [hz1]; decide) (by rw [hz1]; decide) ?_ h
  rw [hz1]
  have e : ∀ Z : Array Value, 1 * 2 = Z.size → Instr.fill (fun i => some (i * 2, 2)) Z [(0, Value.agg cs)] = some cs := fun Z hZ => by
    have e := Great.fill_whole (s := 2) (by decide) [Value.agg cs] Z (fun v hv => by simp at hv; subst hv; exact hs) hZ
    simpa [Value.cells] using e
  have e2 := e ((Array.range (1 * 2)).map ((Value.agg zPlan).cells[· % (Value.agg zPlan).cells.size]!)) (by rw [Array.size_map, Array.size_range])
  rw [← hx] at e2
  have e3 : (Array.map (fun x => match x with | (i, x) => (i, a.eval x)) #[(0, x)]).toList = [(0, a.eval x)] := by simp
  rw [e3]
  exact e2
abbrev planAB : PlanV := ⟨3, ⟨#[97, 98]⟩⟩
theorem builtAB : Tryd.prog.built 58 [(0, .int .i64 3), (1, .string ⟨#[97, 98]⟩)] = some planAB.row.toArray := by kernel_rfl
theorem build_ab {ops : Array Oper} {rest : List Oper} {o : Oper} {a : Act} {w : World} {Q : Exit → Act → World → Prop} (hg : o.guard = none) (parts : Array (Nat × Operand)) (ho : o.op = .build 58 parts)
    (hf : Tryd.prog.built 58 (parts.map fun (i, x) => (i, a.eval x)).toList = some planAB.row.toArray)
    (h : wpList Tryd.prog ops Q rest (a.put o.dst (.agg planAB.row.toArray)) w) : wpList Tryd.prog ops Q (o :: rest) a w :=
  wpList_build hg 58 parts ho (by rw [hf]; rfl) (by rw [hf]; exact h)
theorem RdK.lit1 (w : World) (p : PlanV) (hp : p.init.size < 9223372036854775808) : RdK (w.alloc (.cells p.row.toArray 58)) (some ⟨w.heap.size, 0, none⟩) 1 1 (fun _ => p) :=
  ⟨by omega, by omega, (fun h => by cases h), fun _ _ => hp, fun _ => ⟨w.heap.size, 0, rfl, fun i hi j u hu => by
    have : i = 0 := by omega
    subst this
    rw [Nat.zero_mul, Nat.zero_add, World.cell?_alloc_new]
    simpa using hu⟩⟩
theorem madeAB : Made (fun _ => planAB) 1 1 0 (-1) := .good (by decide) (fun i _ => by decide)
theorem guardPlan : Tryd.prog.eqGuardType Tryd.prog.depth 58 = false := by kernel_rfl
end Go.Proofs.YtkkclkmiaenipaaDoor
