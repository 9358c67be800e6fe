/- From the reading of a plan by value and of a script to what the walks ask. -/
import Derived.Test.YtjlgnbjfgeppcaaDoorFrameK
import Derived.Test.YtjlgnbjfgeppcaaDoorQueuePure
namespace Go.Proofs.YtjlgnbjfgeppcaaDoor
open Go Go.RowKit Go.ChangeShapes Go.WideShapes Go.ChangeAt Go.Deep
open Go.ChangeMaps (open_string shut_string)
set_option linter.unusedVariables false

theorem array4 {α : Type} {cs : Array α} (h : cs.size = 4) : ∃ c0 c1 c2 c3, cs = #[c0, c1, c2, c3] := by
  obtain ⟨l⟩ := cs
  match l, h with
  | [c0, c1, c2, c3], _ => exact ⟨c0, c1, c2, c3, rfl⟩
theorem cellsPlan4 : Tryd.prog.cellsOf 23 = 4 := by kernel_rfl
set_option maxRecDepth 100000 in
theorem open_plan1 {H : Type} {enc : TypeId × Value → H} {W : World} {base : Nat} {v : Value} {d : DataW H} {p : List MemPlace}
    (hv : Value.okWide Tryd.prog W .any base 23 v) (h : DataW.Trod enc Tryd.prog W 0 (fun _ => true) true 23 v d p) :
    ∃ k s d r : Int, v = .agg (rowK k s d r) := by
  obtain ⟨cs, rfl, hcsz⟩ := okWide_struct Tryd.underlying23 hv
  obtain ⟨a0, a1, a2, a3, rfl⟩ := array4 (hcsz.trans cellsPlan4)
  obtain ⟨fuel, hf⟩ := h
  obtain ⟨k, s, d, r, rfl, rfl, rfl, rfl⟩ := open_planv hf
  exact ⟨k, s, d, r, rfl⟩
theorem bytesStep : Tryd.prog.bytesOf 35 = 24 := by kernel_rfl
set_option maxRecDepth 100000 in
theorem open_steps {H : Type} {enc : TypeId × Value → H} {W : World} {held : Bool} {a : Option Addr} {n cap : Nat} {d : DataW H} {p : List MemPlace} {ts : List TypeId} {ds : List (DataW H)} {j : Nat}
    (hr : ∃ fuel, DataW.trod enc Tryd.prog W 0 (fun _ => true) held fuel 24 (Value.slice a n cap).cells.toList = some (d, p))
    (hsz : (DataW.weightsEach Tryd.prog ts ds).all (· ≤ reachBytes) = true) (ht : ts[j]? = some 24) (hd : ds[j]? = some d) :
    ∃ C, RdT W a n cap C := by
  obtain ⟨fuel, hf⟩ := hr
  rcases open_slice_fields (fs := _) Tryd.underlying24 Tryd.underlying35 (by kernel_rfl) (by kernel_rfl) hf with ⟨hcs, hx⟩ | ⟨x, len', cap', m, D, Pl, hcs, _, hl, hm, hmm, hx, hel⟩
  · simp [Value.cells] at hcs
    obtain ⟨rfl, rfl, rfl⟩ := hcs
    exact ⟨fun _ => ⟨0, ⟨#[]⟩⟩, ⟨by omega, by omega, fun i hi => by omega, fun h => by omega⟩⟩
  · simp [Value.cells] at hcs
    obtain ⟨rfl, rfl, rfl⟩ := hcs
    simp only [if_true] at hmm
    subst hmm
    have hmax : maxLen = 9223372036854775807 := rfl
    have hd' : ds[j]? = some (.slice ((List.range n).map D) ((List.range (m - n)).map fun j => D (n + j))) := by
      rw [hd]; simp only [Prod.mk.injEq] at hx; rw [hx.1]
    have hsl := sized_slice hsz ht hd' Tryd.underlying24
    rw [bytesStep] at hsl
    simp only [List.length_map, List.length_range, reachBytes] at hsl
    have hn : n ≤ 5864062014805 := by omega
    by_cases h0 : n = 0
    · subst h0
      exact ⟨fun _ => ⟨0, ⟨#[]⟩⟩, ⟨hl, by omega, fun i hi => by omega, fun h => by omega⟩⟩
    · obtain ⟨b, off, spot⟩ := x
      have hspot : spot = none := by
        obtain ⟨ys, k, _, _, _, hfl⟩ := hel 0 (by omega)
        obtain ⟨v, y, hc, _, _⟩ := hfl 0 _ rfl
        simpa [Addr.add] using World.cell?_spot hc
      subst hspot
      have e : ∀ j, (⟨b, off, none⟩ : Addr).add j = ⟨b, off + j, none⟩ := fun j => by unfold Addr.add; split <;> simp_all
      have each : ∀ i, ∃ c : StepV, i < n → c.s.size < 9223372036854775808 ∧ W.rangeAt b (off + i * 2) c.row := by
        intro i
        by_cases hi : i < n
        · obtain ⟨ys, k, _, _, _, hfl⟩ := hel i (by omega)
          obtain ⟨v0, y0, c0, _, t0⟩ := hfl 0 _ rfl
          obtain ⟨v1, y1, c1, _, t1⟩ := hfl 1 _ rfl
          obtain ⟨x0, e0, _, w0⟩ := DataW.trod_int Tryd.underlying3 t0
          obtain ⟨s1, e1, _, w1⟩ := DataW.trod_string Tryd.underlying9 t1
          simp only [List.cons.injEq, and_true] at e0 e1
          subst e0; subst e1
          refine ⟨⟨x0, s1⟩, fun _ => ⟨show s1.size < 9223372036854775808 by omega, ?_⟩⟩
          rw [e] at c0 c1
          intro j v hv
          match j, hv with
          | 0, hv => cases hv; exact c0
          | 1, hv => cases hv; exact c1
          | j + 2, hv => simp [StepV.row] at hv
        · exact ⟨⟨0, ⟨#[]⟩⟩, fun h => absurd h hi⟩
      exact ⟨fun i => Classical.choose (each i), ⟨hl, hn, fun i hi => (Classical.choose_spec (each i) hi).1, fun _ => ⟨b, off, rfl, fun i hi => (Classical.choose_spec (each i) hi).2⟩⟩⟩
end Go.Proofs.YtjlgnbjfgeppcaaDoor
