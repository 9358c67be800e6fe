/- From the reading of a slice of Ops to what the walk asks. -/
import Derived.Test.YtpihlaeioepbpaaDoorSlices
import Derived.Test.YtpihlaeioepbpaaDoorAluDoes
namespace Go.Proofs.YtpihlaeioepbpaaDoor
open Go Go.RowKit Go.ChangeShapes Go.WideShapes Go.ChangeAt
open Go.ChangeMaps (open_string shut_string)
set_option linter.unusedVariables false

set_option maxRecDepth 100000 in
theorem open_ops {H : Type} {enc : TypeId × Value → H} {W : World} {held : Bool} {a : Option Addr} {n cap : Nat} {d : DataW H} {p : List MemPlace}
    (hr : ∃ fuel, DataW.trod enc Tryd.prog W 0 (fun _ => true) held fuel 64 (Value.slice a n cap).cells.toList = some (d, p)) :
    ∃ C, RdO W a n cap C := by
  obtain ⟨fuel, hf⟩ := hr
  rcases open_slice_fields (fs := _) Tryd.underlying64 Tryd.underlying66 (by kernel_rfl) (by kernel_rfl) hf with ⟨hcs, hx⟩ | ⟨x, len', cap', m, D, Pl, hcs, _, hl, hm, hmm, _, hel⟩
  · simp [Value.cells] at hcs
    obtain ⟨rfl, rfl, rfl⟩ := hcs
    exact ⟨fun _ => ⟨0, 0#32, 0#32⟩, ⟨by omega, fun h => by omega⟩⟩
  · simp [Value.cells] at hcs
    obtain ⟨rfl, rfl, rfl⟩ := hcs
    simp only [if_true] at hmm
    subst hmm
    have hmax : maxLen = 9223372036854775807 := rfl
    by_cases h0 : n = 0
    · subst h0
      exact ⟨fun _ => ⟨0, 0#32, 0#32⟩, ⟨by omega, fun h => by omega⟩⟩
    · obtain ⟨b, off, spot⟩ := x
      have hspot : spot = none := by
        obtain ⟨ys, k, _, _, _, hfl⟩ := hel 0 (by omega)
        obtain ⟨v, y, hc, _, _⟩ := hfl 0 _ rfl
        simpa [Addr.add] using World.cell?_spot hc
      subst hspot
      have e : ∀ j, (⟨b, off, none⟩ : Addr).add j = ⟨b, off + j, none⟩ := fun j => by unfold Addr.add; split <;> simp_all
      have each : ∀ i, ∃ c : OpV, i < n → W.rangeAt b (off + i * 3) c.row := by
        intro i
        by_cases hi : i < n
        · obtain ⟨ys, k, _, _, _, hfl⟩ := hel i (by omega)
          obtain ⟨v0, y0, c0, _, t0⟩ := hfl 0 _ rfl
          obtain ⟨v1, y1, c1, _, t1⟩ := hfl 1 _ rfl
          obtain ⟨v2, y2, c2, _, t2⟩ := hfl 2 _ rfl
          obtain ⟨x0, e0, _, w0⟩ := DataW.trod_int Tryd.underlying3 t0
          obtain ⟨x1, e1, _, w1⟩ := DataW.trod_int Tryd.underlying22 t1
          obtain ⟨x2, e2, _, w2⟩ := DataW.trod_int Tryd.underlying22 t2
          simp only [List.cons.injEq, and_true] at e0 e1 e2
          subst e0; subst e1; subst e2
          obtain ⟨u1, rfl⟩ := u32_of w1
          obtain ⟨u2, rfl⟩ := u32_of w2
          refine ⟨⟨x0, u1, u2⟩, fun _ => ?_⟩
          rw [e] at c0 c1 c2
          intro j v hv
          match j, hv with
          | 0, hv => cases hv; exact c0
          | 1, hv => cases hv; exact c1
          | 2, hv => cases hv; exact c2
          | j + 3, hv => simp [OpV.row] at hv
        · exact ⟨⟨0, 0#32, 0#32⟩, fun h => absurd h hi⟩
      refine ⟨fun i => Classical.choose (each i), ⟨by omega, fun _ => ⟨b, off, rfl, fun i hi => Classical.choose_spec (each i) hi⟩⟩⟩
end Go.Proofs.YtpihlaeioepbpaaDoor
