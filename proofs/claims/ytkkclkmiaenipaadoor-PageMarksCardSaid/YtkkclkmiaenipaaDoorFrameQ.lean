/- From the reading of calls on pages to what the walks ask. -/
import Derived.Test.YtkkclkmiaenipaaDoorFrameP
import Derived.Test.YtkkclkmiaenipaaDoorSlices
import Derived.Test.YtkkclkmiaenipaaDoorPagePlays
import Derived.Deep.Fields
namespace Go.Proofs.YtkkclkmiaenipaaDoor
open Go Go.RowKit Go.ChangeShapes Go.WideShapes Go.ChangeAt Go.Deep
open Go.ChangeMaps (open_string shut_string)
set_option linter.unusedVariables false

theorem popBase : PopV.fits ⟨0, 0, 0#32, 0#32, ⟨#[]⟩⟩ := ⟨by decide, by decide⟩
set_option maxRecDepth 100000 in
theorem open_pops {H : Type} {enc : TypeId × Value → H} {W : World} {held : Bool} {a : Option Addr} {n cap : Nat} {d : DataW H} {p : List MemPlace} {ts : List TypeId} {ds : List (DataW H)} {j : Nat}
    (hr : ∃ fuel, DataW.trod enc Tryd.prog W 0 (fun _ => true) held fuel 39 (Value.slice a n cap).cells.toList = some (d, p))
    (hsz : (DataW.weightsEach Tryd.prog ts ds).all (· ≤ reachBytes) = true) (ht : ts[j]? = some 39) (hd : ds[j]? = some d) :
    ∃ C, RdQ W a n cap C := by
  obtain ⟨fuel, hf⟩ := hr
  rcases open_slice_fields (fs := _) Tryd.underlying39 Tryd.underlying41 (by kernel_rfl) (by kernel_rfl) hf with ⟨hcs, hx⟩ | ⟨x, len', cap', m, D, Pl, hcs, _, hl, hm, hmm, _, hel⟩
  · simp [Value.cells] at hcs
    obtain ⟨rfl, rfl, rfl⟩ := hcs
    exact ⟨fun _ => ⟨0, 0, 0#32, 0#32, ⟨#[]⟩⟩, ⟨by omega, fun i hi => by omega, fun h => by omega⟩⟩
  · simp [Value.cells] at hcs
    obtain ⟨rfl, rfl, rfl⟩ := hcs
    simp only [if_true] at hmm
    subst hmm
    have hmax : maxLen = 9223372036854775807 := rfl
    by_cases h0 : n = 0
    · subst h0
      exact ⟨fun _ => ⟨0, 0, 0#32, 0#32, ⟨#[]⟩⟩, ⟨by omega, fun i hi => by omega, fun h => by omega⟩⟩
    · obtain ⟨b, off, spot⟩ := x
      have hspot : spot = none := by
        obtain ⟨ys, k, _, _, _, hfl⟩ := hel 0 (by omega)
        obtain ⟨v, y, hc, _, _⟩ := hfl 0 _ rfl
        simpa [Addr.add] using World.cell?_spot hc
      subst hspot
      have e : ∀ j, (⟨b, off, none⟩ : Addr).add j = ⟨b, off + j, none⟩ := fun j => by unfold Addr.add; split <;> simp_all
      have each : ∀ i, ∃ c : PopV, i < n → c.fits ∧ W.rangeAt b (off + i * 5) c.row := by
        intro i
        by_cases hi : i < n
        · obtain ⟨ys, k, _, _, _, hfl⟩ := hel i (by omega)
          obtain ⟨v0, y0, c0, _, t0⟩ := hfl 0 _ rfl
          obtain ⟨v1, y1, c1, _, t1⟩ := hfl 1 _ rfl
          obtain ⟨v2, y2, c2, _, t2⟩ := hfl 2 _ rfl
          obtain ⟨v3, y3, c3, _, t3⟩ := hfl 3 _ rfl
          obtain ⟨v4, y4, c4, _, t4⟩ := hfl 4 _ rfl
          obtain ⟨x0, e0, _, w0⟩ := DataW.trod_int Tryd.underlying3 t0
          obtain ⟨x1, e1, _, w1⟩ := DataW.trod_int Tryd.underlying3 t1
          obtain ⟨x2, e2, _, w2⟩ := DataW.trod_int Tryd.underlying23 t2
          obtain ⟨x3, e3, _, w3⟩ := DataW.trod_int Tryd.underlying23 t3
          obtain ⟨s4, e4, _, w4⟩ := DataW.trod_string Tryd.underlying9 t4
          simp only [List.cons.injEq, and_true] at e0 e1 e2 e3 e4
          subst e0; subst e1; subst e2; subst e3; subst e4
          obtain ⟨u2, rfl⟩ := u32_of w2
          obtain ⟨u3, rfl⟩ := u32_of w3
          have hb1 := bounds_i64 w1
          refine ⟨⟨x0, x1, u2, u3, s4⟩, fun _ => ⟨⟨show x1 < 9223372036854775808 by have := hb1.2; omega, show s4.size < 9223372036854775808 by omega⟩, ?_⟩⟩
          rw [e] at c0 c1 c2 c3 c4
          intro j v hv
          match j, hv with
          | 0, hv => cases hv; exact c0
          | 1, hv => cases hv; exact c1
          | 2, hv => cases hv; exact c2
          | 3, hv => cases hv; exact c3
          | 4, hv => cases hv; exact c4
          | j + 5, hv => simp [PopV.row] at hv
        · exact ⟨⟨0, 0, 0#32, 0#32, ⟨#[]⟩⟩, fun h => absurd h hi⟩
      exact ⟨fun i => Classical.choose (each i), ⟨by omega, fun i hi => (Classical.choose_spec (each i) hi).1, fun _ => ⟨b, off, rfl, fun i hi => (Classical.choose_spec (each i) hi).2⟩⟩⟩
theorem array5 {α : Type} {cs : Array α} (h : cs.size = 5) : ∃ c0 c1 c2 c3 c4, cs = #[c0, c1, c2, c3, c4] := by
  obtain ⟨l⟩ := cs
  match l, h with
  | [c0, c1, c2, c3, c4], _ => exact ⟨c0, c1, c2, c3, c4, rfl⟩
theorem cellsPop : Tryd.prog.cellsOf 41 = 5 := by kernel_rfl
theorem cells2 : Tryd.prog.cellsOf 23 = 1 ∧ Tryd.prog.cellsOf 9 = 1 := ⟨by kernel_rfl, by kernel_rfl⟩
set_option maxRecDepth 100000 in
/-- One call by value, opened. -/
theorem open_pop {H : Type} {enc : TypeId × Value → H} {W : World} {base : Nat} {v : Value} {d : DataW H} {p : List MemPlace}
    (hv : Value.okWide Tryd.prog W .any base 41 v) (h : DataW.Trod enc Tryd.prog W 0 (fun _ => true) true 41 v d p) :
    ∃ o : PopV, v = .agg o.row.toArray ∧ o.fits := by
  obtain ⟨cs, rfl, hsz⟩ := okWide_struct Tryd.underlying41 hv
  obtain ⟨a0, a1, a2, a3, a4, rfl⟩ := array5 (hsz.trans cellsPop)
  obtain ⟨fuel, hf⟩ := h
  obtain ⟨xs, n, _, _, hlen, hxs, hg⟩ := DataW.trod_struct Tryd.underlying41 hf
  obtain ⟨c1, _, _, _⟩ := cells1
  obtain ⟨c2, c3⟩ := cells2
  have h0 : DataW.trod enc Tryd.prog W 0 (fun _ => true) true n 3 (([a0, a1, a2, a3, a4].drop 0).take (Tryd.prog.cellsOf 3)) = xs[0]? := hg 0 _ rfl
  have h1 : DataW.trod enc Tryd.prog W 0 (fun _ => true) true n 3 (([a0, a1, a2, a3, a4].drop 1).take (Tryd.prog.cellsOf 3)) = xs[1]? := hg 1 _ rfl
  have h2 : DataW.trod enc Tryd.prog W 0 (fun _ => true) true n 23 (([a0, a1, a2, a3, a4].drop 2).take (Tryd.prog.cellsOf 23)) = xs[2]? := hg 2 _ rfl
  have h3 : DataW.trod enc Tryd.prog W 0 (fun _ => true) true n 23 (([a0, a1, a2, a3, a4].drop 3).take (Tryd.prog.cellsOf 23)) = xs[3]? := hg 3 _ rfl
  have h4 : DataW.trod enc Tryd.prog W 0 (fun _ => true) true n 9 (([a0, a1, a2, a3, a4].drop 4).take (Tryd.prog.cellsOf 9)) = xs[4]? := hg 4 _ rfl
  rw [c1] at h0 h1
  rw [c2] at h2 h3
  rw [c3] at h4
  have hx : xs.length = 5 := hxs
  rw [List.getElem?_eq_getElem (by omega)] at h0 h1 h2 h3 h4
  obtain ⟨x0, e0, _, w0⟩ := DataW.trod_int Tryd.underlying3 h0
  obtain ⟨x1, e1, _, w1⟩ := DataW.trod_int Tryd.underlying3 h1
  obtain ⟨x2, e2, _, w2⟩ := DataW.trod_int Tryd.underlying23 h2
  obtain ⟨x3, e3, _, w3⟩ := DataW.trod_int Tryd.underlying23 h3
  obtain ⟨s4, e4, _, w4⟩ := DataW.trod_string Tryd.underlying9 h4
  obtain ⟨u2, rfl⟩ := u32_of w2
  obtain ⟨u3, rfl⟩ := u32_of w3
  have hb1 := bounds_i64 w1
  have hmax : maxLen = 9223372036854775807 := rfl
  have f0 := (List.cons.inj e0).1
  have f1 := (List.cons.inj e1).1
  have f2 := (List.cons.inj e2).1
  have f3 := (List.cons.inj e3).1
  have f4 := (List.cons.inj e4).1
  subst f0; subst f1; subst f2; subst f3; subst f4
  exact ⟨⟨x0, x1, u2, u3, s4⟩, rfl, ⟨show x1 < 9223372036854775808 by have := hb1.2; omega, show s4.size < 9223372036854775808 by omega⟩⟩
end Go.Proofs.YtkkclkmiaenipaaDoor
