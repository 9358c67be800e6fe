/- From the reading of a case to what the walks ask. -/
import Derived.Test.YtjlgnbjfgeppcaaDoorFrame
import Derived.Test.YtjlgnbjfgeppcaaDoorSlices
import Derived.Test.YtjlgnbjfgeppcaaDoorCaseBase
namespace Go.Proofs.YtjlgnbjfgeppcaaDoor
open Go Go.RowKit Go.ChangeShapes Go.WideShapes Go.ChangeAt Go.Deep
open Go.ChangeMaps (open_string shut_string)
set_option linter.unusedVariables false

theorem bytesStr : Tryd.prog.bytesOf 9 = 16 := by kernel_rfl
theorem cellsStr1 : Tryd.prog.cellsOf 9 = 1 := by kernel_rfl
/-- The sizes of a struct's parts. -/
theorem agg_sized {H : Type} {P : Program} {ts : List TypeId} {ds parts : List (DataW H)} {j : Nat} {t : TypeId} {fs : Array Field} (h : (DataW.weightsEach P ts ds).all (· ≤ reachBytes) = true) (ht : ts[j]? = some t) (hd : ds[j]? = some (.agg parts)) (hu : P.underlying t = some (.struct fs)) :
    (DataW.weightsEach P (fs.toList.map (·.type)) parts).all (· ≤ reachBytes) = true :=
  List.all_eq_true.2 fun n hn => List.all_eq_true.1 h n (DataW.weights_mem_each ht hd n (by simpa [DataW.weights, hu] using hn))
/-- A slice of strings, opened. -/
theorem open_strs {H : Type} {enc : TypeId × Value → H} {W : World} {held : Bool} {u : Value} {d : DataW H} {p : List MemPlace} {ts : List TypeId} {ds : List (DataW H)} {j fuel : Nat}
    (hf : DataW.trod enc Tryd.prog W 0 (fun _ => true) held fuel 27 [u] = some (d, p))
    (hsz : (DataW.weightsEach Tryd.prog ts ds).all (· ≤ reachBytes) = true) (ht : ts[j]? = some 27) (hd : ds[j]? = some d) :
    ∃ a n cap l, u = .slice a n cap ∧ RdS W a n cap l := by
  rcases open_slice Tryd.underlying27 hf with ⟨hcs, hx⟩ | ⟨x, len, cap, m, n', Dd, Pl, hcs, _, hl, hm, hmm, hx, hel⟩
  · simp only [List.cons.injEq, and_true] at hcs
    subst hcs
    exact ⟨none, 0, 0, [], rfl, ⟨rfl, by omega, by omega, by simp, (fun _ => rfl), fun h => by omega⟩⟩
  · simp only [List.cons.injEq, and_true] at hcs
    subst hcs
    simp only [if_true] at hmm
    subst hmm
    have hmax : maxLen = 9223372036854775807 := rfl
    have hd' : ds[j]? = some (.slice ((List.range len).map Dd) ((List.range (m - len)).map fun j => Dd (len + j))) := by
      rw [hd]; simp only [Prod.mk.injEq] at hx; rw [hx.1]
    have hsl := sized_slice hsz ht hd' Tryd.underlying27
    rw [bytesStr] at hsl
    simp only [List.length_map, List.length_range, reachBytes] at hsl
    have each : ∀ i, ∃ s : ByteArray, i < len → s.size < 9223372036854775808 ∧ W.cell? (x.add i) = some (.string s) := by
      intro i
      by_cases hi : i < len
      · obtain ⟨cs', hc, ht'⟩ := hel i (by omega)
        rw [cellsStr1] at hc
        obtain ⟨_, hcl, hat⟩ := World.cells?_some hc
        obtain ⟨s, e, _, ws⟩ := DataW.trod_string Tryd.underlying9 ht'
        have h0 := hat 0 (by omega)
        rw [e] at h0
        refine ⟨s, fun _ => ⟨by omega, ?_⟩⟩
        have e1 : (x.add (i * 1)).add 0 = x.add i := by rw [Nat.mul_one]; unfold Addr.add; split <;> simp_all
        rw [← e1]
        exact h0
      · exact ⟨⟨#[]⟩, fun h => absurd h hi⟩
    obtain ⟨F, hF⟩ : ∃ F : Nat → ByteArray, ∀ i, i < len → (F i).size < 9223372036854775808 ∧ W.cell? (x.add i) = some (.string (F i)) := ⟨fun i => Classical.choose (each i), fun i => Classical.choose_spec (each i)⟩
    have hL : ∀ i, i < len → ((List.range len).map F).getD i noS = F i := fun i hi => by
      simp [List.getD_eq_getElem?_getD, hi]
    refine ⟨some x, len, m, (List.range len).map F, rfl, ⟨by simp, hl, by omega, ?_, (fun h => by cases h), fun h0 => ?_⟩⟩
    · intro s hs
      obtain ⟨i, hi, rfl⟩ := List.mem_map.1 hs
      exact (hF i (List.mem_range.1 hi)).1
    · have hc0 := (hF 0 h0).2
      obtain ⟨b, off, spot⟩ := x
      have hspot : spot = none := by simpa [Addr.add] using World.cell?_spot hc0
      subst hspot
      have e : ∀ j, (⟨b, off, none⟩ : Addr).add j = ⟨b, off + j, none⟩ := fun j => by unfold Addr.add; split <;> simp_all
      exact ⟨b, off, rfl, fun i hi => by
        have := (hF i hi).2
        rw [e] at this
        rw [this, hL i hi]⟩
theorem array10 {α : Type} {cs : Array α} (h : cs.size = 10) : ∃ c0 c1 c2 c3 c4 c5 c6 c7 c8 c9, cs = #[c0, c1, c2, c3, c4, c5, c6, c7, c8, c9] := by
  obtain ⟨l⟩ := cs
  match l, h with
  | [c0, c1, c2, c3, c4, c5, c6, c7, c8, c9], _ => exact ⟨c0, c1, c2, c3, c4, c5, c6, c7, c8, c9, rfl⟩
theorem cellsCase : Tryd.prog.cellsOf 45 = 10 := by kernel_rfl
theorem cellsOfs : Tryd.prog.cellsOf 23 = 4 ∧ Tryd.prog.cellsOf 29 = 2 ∧ Tryd.prog.cellsOf 9 = 1 ∧ Tryd.prog.cellsOf 41 = 1 ∧ Tryd.prog.cellsOf 42 = 1 ∧ Tryd.prog.cellsOf 43 = 1 ∧ Tryd.prog.cellsOf 3 = 1 ∧ Tryd.prog.cellsOf 27 = 1 :=
  ⟨by kernel_rfl, by kernel_rfl, by kernel_rfl, by kernel_rfl, by kernel_rfl, by kernel_rfl, by kernel_rfl, by kernel_rfl⟩
theorem slice_form {H : Type} {enc : TypeId × Value → H} {W : World} {held : Bool} {u : Value} {y : DataW H × List MemPlace} {fuel : Nat} {t e : TypeId} (ht : Tryd.prog.underlying t = some (.slice e))
    (hf : DataW.trod enc Tryd.prog W 0 (fun _ => true) held fuel t [u] = some y) : ∃ a n c, u = .slice a n c := by
  rcases open_slice ht hf with ⟨hcs, _⟩ | ⟨x, len, cap, m, n', Dd, Pl, hcs, _⟩
  · simp only [List.cons.injEq, and_true] at hcs; exact ⟨_, _, _, hcs⟩
  · simp only [List.cons.injEq, and_true] at hcs; exact ⟨_, _, _, hcs⟩
/-- A plan by value, opened. -/
theorem open_planv {H : Type} {enc : TypeId × Value → H} {W : World} {held : Bool} {fuel : Nat} {c0 c1 c2 c3 : Value} {x : DataW H × List MemPlace} (h : DataW.trod enc Tryd.prog W 0 (fun _ => true) held fuel 23 [c0, c1, c2, c3] = some x) :
    ∃ k s d r : Int, c0 = .int .i64 k ∧ c1 = .int .i64 s ∧ c2 = .int .i64 d ∧ c3 = .int .i64 r := by
  obtain ⟨xs, n, _, _, _, hxs, hg⟩ := DataW.trod_struct Tryd.underlying23 h
  obtain ⟨_, _, _, _, _, _, ci, _⟩ := cellsOfs
  have hx : xs.length = 4 := hxs
  have h0 : DataW.trod enc Tryd.prog W 0 (fun _ => true) held n 3 (([c0, c1, c2, c3].drop 0).take (Tryd.prog.cellsOf 3)) = xs[0]? := hg 0 _ rfl
  have h1 : DataW.trod enc Tryd.prog W 0 (fun _ => true) held n 3 (([c0, c1, c2, c3].drop 1).take (Tryd.prog.cellsOf 3)) = xs[1]? := hg 1 _ rfl
  have h2 : DataW.trod enc Tryd.prog W 0 (fun _ => true) held n 3 (([c0, c1, c2, c3].drop 2).take (Tryd.prog.cellsOf 3)) = xs[2]? := hg 2 _ rfl
  have h3 : DataW.trod enc Tryd.prog W 0 (fun _ => true) held n 3 (([c0, c1, c2, c3].drop 3).take (Tryd.prog.cellsOf 3)) = xs[3]? := hg 3 _ rfl
  rw [ci, List.getElem?_eq_getElem (by omega)] at h0 h1 h2 h3
  obtain ⟨x0, e0, _, _⟩ := DataW.trod_int Tryd.underlying3 h0
  obtain ⟨x1, e1, _, _⟩ := DataW.trod_int Tryd.underlying3 h1
  obtain ⟨x2, e2, _, _⟩ := DataW.trod_int Tryd.underlying3 h2
  obtain ⟨x3, e3, _, _⟩ := DataW.trod_int Tryd.underlying3 h3
  exact ⟨x0, x1, x2, x3, (List.cons.inj e0).1, (List.cons.inj e1).1, (List.cons.inj e2).1, (List.cons.inj e3).1⟩
set_option maxRecDepth 100000 in
/-- A case by value, opened: its plan, its port, its data. -/
theorem open_case {H : Type} {enc : TypeId × Value → H} {W : World} {base : Nat} {v : Value} {d : DataW H} {p : List MemPlace} {ts : List TypeId} {ds : List (DataW H)} {j : Nat}
    (hv : Value.okWide Tryd.prog W .any base 45 v) (h : DataW.Trod enc Tryd.prog W 0 (fun _ => true) true 45 v d p)
    (hsz : (DataW.weightsEach Tryd.prog ts ds).all (· ≤ reachBytes) = true) (ht : ts[j]? = some 45) (hd : ds[j]? = some d) :
    ∃ (k s d r : Int) (a : Option Addr) (n cap : Nat) (l : List ByteArray) (g : Int) (D : ByteArray) (pa : Option Addr) (pn pc : Nat) (qa : Option Addr) (qn qc : Nat) (ma : Option Addr) (mn mc : Nat),
      v = .agg (caseA k s d r a n cap g D pa pn pc qa qn qc ma mn mc) ∧ RdS W a n cap l ∧ D.size < 9223372036854775808 := by
  obtain ⟨cs, rfl, hcsz⟩ := okWide_struct Tryd.underlying45 hv
  obtain ⟨a0, a1, a2, a3, a4, a5, a6, a7, a8, a9, rfl⟩ := array10 (hcsz.trans cellsCase)
  obtain ⟨fuel, hf⟩ := h
  obtain ⟨xs, n, _, hxe, hlen, hxs, hg⟩ := DataW.trod_struct Tryd.underlying45 hf
  obtain ⟨cp, cq, cst, csp, csq, csm, ci, css⟩ := cellsOfs
  have hx : xs.length = 6 := hxs
  have h0 : DataW.trod enc Tryd.prog W 0 (fun _ => true) true n 23 (([a0, a1, a2, a3, a4, a5, a6, a7, a8, a9].drop 0).take (Tryd.prog.cellsOf 23)) = xs[0]? := hg 0 _ rfl
  have h1 : DataW.trod enc Tryd.prog W 0 (fun _ => true) true n 29 (([a0, a1, a2, a3, a4, a5, a6, a7, a8, a9].drop 4).take (Tryd.prog.cellsOf 29)) = xs[1]? := hg 1 _ rfl
  have h2 : DataW.trod enc Tryd.prog W 0 (fun _ => true) true n 9 (([a0, a1, a2, a3, a4, a5, a6, a7, a8, a9].drop 6).take (Tryd.prog.cellsOf 9)) = xs[2]? := hg 2 _ rfl
  have h3 : DataW.trod enc Tryd.prog W 0 (fun _ => true) true n 41 (([a0, a1, a2, a3, a4, a5, a6, a7, a8, a9].drop 7).take (Tryd.prog.cellsOf 41)) = xs[3]? := hg 3 _ rfl
  have h4 : DataW.trod enc Tryd.prog W 0 (fun _ => true) true n 42 (([a0, a1, a2, a3, a4, a5, a6, a7, a8, a9].drop 8).take (Tryd.prog.cellsOf 42)) = xs[4]? := hg 4 _ rfl
  have h5 : DataW.trod enc Tryd.prog W 0 (fun _ => true) true n 43 (([a0, a1, a2, a3, a4, a5, a6, a7, a8, a9].drop 9).take (Tryd.prog.cellsOf 43)) = xs[5]? := hg 5 _ rfl
  rw [cp] at h0
  rw [cq] at h1
  rw [cst] at h2
  rw [csp] at h3
  rw [csq] at h4
  rw [csm] at h5
  have hz0 := agg_sized (parts := xs.map (·.1)) hsz ht (by rw [hd]; simp only [Prod.mk.injEq] at hxe; rw [hxe.1]) Tryd.underlying45
  rw [List.getElem?_eq_getElem (by omega)] at h0 h1 h2 h3 h4 h5
  obtain ⟨k, s, dd, r, rfl, rfl, rfl, rfl⟩ := open_planv h0
  obtain ⟨ys, n2, _, hye, _, hys, hgy⟩ := DataW.trod_struct Tryd.underlying29 h1
  have hy : ys.length = 2 := hys
  have g0 : DataW.trod enc Tryd.prog W 0 (fun _ => true) true n2 27 (([a4, a5].drop 0).take (Tryd.prog.cellsOf 27)) = ys[0]? := hgy 0 _ rfl
  have g1 : DataW.trod enc Tryd.prog W 0 (fun _ => true) true n2 3 (([a4, a5].drop 1).take (Tryd.prog.cellsOf 3)) = ys[1]? := hgy 1 _ rfl
  rw [css, List.getElem?_eq_getElem (by omega)] at g0
  rw [ci, List.getElem?_eq_getElem (by omega)] at g1
  have hz1 := agg_sized (j := 1) (parts := ys.map (·.1)) hz0 rfl (by rw [List.getElem?_map, List.getElem?_eq_getElem (by omega), Option.map_some, hye]) Tryd.underlying29
  obtain ⟨a, m, cap, l, rfl, hr⟩ := open_strs (d := (ys[0]'(by omega)).1) (p := (ys[0]'(by omega)).2) g0 hz1 (j := 0) rfl (by rw [List.getElem?_map, List.getElem?_eq_getElem (by omega), Option.map_some])
  obtain ⟨g, e1, _, _⟩ := DataW.trod_int Tryd.underlying3 g1
  obtain rfl := (List.cons.inj e1).1
  obtain ⟨D, e2, _, w2⟩ := DataW.trod_string Tryd.underlying9 h2
  obtain rfl := (List.cons.inj e2).1
  obtain ⟨pa, pn, pc, rfl⟩ := slice_form Tryd.underlying41 h3
  obtain ⟨qa, qn, qc, rfl⟩ := slice_form Tryd.underlying42 h4
  obtain ⟨ma, mn, mc, rfl⟩ := slice_form Tryd.underlying43 h5
  have hmax : maxLen = 9223372036854775807 := rfl
  exact ⟨k, s, dd, r, a, m, cap, l, g, D, pa, pn, pc, qa, qn, qc, ma, mn, mc, rfl, hr, by omega⟩
end Go.Proofs.YtjlgnbjfgeppcaaDoor
