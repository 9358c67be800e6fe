/- From the reading of structs and of their slices of words to what the walks ask. -/
import Derived.Test.YtpihlaeioepbpaaDoorFrame
import Derived.Test.YtpihlaeioepbpaaDoorWords
import Derived.Lib.SmallJoins
namespace Go.Proofs.YtpihlaeioepbpaaDoor
open Go Go.RowKit Go.ChangeShapes Go.WideShapes Go.ChangeAt
open Go.ChangeMaps (open_string shut_string)
set_option linter.unusedVariables false

theorem cellsU32 : Tryd.prog.cellsOf 22 = 1 := by kernel_rfl
theorem bytesU32 : Tryd.prog.bytesOf 22 = 4 := by kernel_rfl
theorem lits_wf32 {zs : List Int} (h : ∀ n ∈ zs, (Lit.int .u32 n).wf = true) (i : Nat) (hi : i < zs.length) : zs.getD i 0 = (((zs.map fun z => BitVec.ofInt 32 z).getD i 0#32).toNat : Int) := by
  have hb := bounds_u32 (h _ (List.getElem_mem hi))
  simp only [List.getD_eq_getElem?_getD, List.getElem?_map, List.getElem?_eq_getElem hi, Option.map_some, Option.getD_some]
  rw [BitVec.toNat_ofInt]
  omega
/-- A slice of words, opened. -/
theorem open_words {H : Type} {enc : TypeId × Value → H} {W : World} {held : Bool} {u : Value} {d : DataW H} {p : List MemPlace} {ts : List TypeId} {ds : List (DataW H)} {j fuel : Nat}
    (hf : DataW.trod enc Tryd.prog W 0 (fun _ => true) held fuel 42 [u] = some (d, p))
    (hsz : (DataW.weightsEach Tryd.prog ts ds).all (· ≤ reachBytes) = true) (ht : ts[j]? = some 42) (hd : ds[j]? = some d) :
    ∃ a n cap l, u = .slice a n cap ∧ RdW W a n cap l := by
  rcases open_ints Tryd.underlying42 Tryd.underlying22 cellsU32 hf with ⟨hcs, hx⟩ | ⟨x, len', cap', zs, hcs, _, hl, hm, hz, hx, hcell, hwz⟩
  · simp only [List.cons.injEq, and_true] at hcs
    subst hcs
    exact ⟨none, 0, 0, [], rfl, RdW.nilRow W⟩
  · simp only [List.cons.injEq, and_true] at hcs
    subst hcs
    have hz' : zs.length = cap' := by simpa using hz
    have hsl : ((lits .u32 (zs.take len') : List (DataW H)).length + (lits .u32 (zs.drop len') : List (DataW H)).length) * 4 ≤ reachBytes := by
      have hd' : ds[j]? = some (.slice (lits .u32 (zs.take len')) (lits .u32 (zs.drop len'))) := by
        rw [hd]; simp only [Prod.mk.injEq] at hx; rw [hx.1]
      have := sized_slice hsz ht hd' Tryd.underlying42
      rw [bytesU32] at this
      exact this
    have hr : cap' * 4 ≤ 140737488351232 := by
      simp only [lits, List.length_map, List.length_take, List.length_drop, reachBytes] at hsl
      omega
    refine ⟨some x, len', cap', (zs.take len').map fun z => BitVec.ofInt 32 z, rfl, ⟨by simp; omega, hl, by omega, (fun h => by cases h), fun hn => ?_⟩⟩
    have h0 := hcell 0 (by omega)
    obtain ⟨b, off, spot⟩ := x
    have hspot : spot = none := by simpa [Addr.add] using World.cell?_spot h0
    subst hspot
    refine ⟨b, off, rfl, fun i hi => ?_⟩
    have hc := hcell i (by omega)
    have e : (⟨b, off, none⟩ : Addr).add i = ⟨b, off + i, none⟩ := by unfold Addr.add; split <;> simp_all
    rw [e] at hc
    rw [hc, lits_wf32 hwz i (by omega)]
    congr 3
    simp only [List.getD_eq_getElem?_getD, List.getElem?_map, List.getElem?_take, hi, if_true]
/-- The sizes of a struct's parts. -/
theorem agg_sized {H : Type} {P : Program} {ts : List TypeId} {ds parts : List (DataW H)} {j : Nat} {t : TypeId} {fs : Array Field} (h : (DataW.weightsEach P ts ds).all (· ≤ reachBytes) = true) (ht : ts[j]? = some t) (hd : ds[j]? = some (.agg parts)) (hu : P.underlying t = some (.struct fs)) :
    (DataW.weightsEach P (fs.toList.map (·.type)) parts).all (· ≤ reachBytes) = true :=
  List.all_eq_true.2 fun n hn => List.all_eq_true.1 h n (DataW.weights_mem_each ht hd n (by simpa [DataW.weights, hu] using hn))
set_option maxRecDepth 100000 in
/-- A struct of two slices of words and two words, opened. -/
theorem open_long {H : Type} {enc : TypeId × Value → H} {W : World} {base : Nat} {v : Value} {d : DataW H} {p : List MemPlace} {ts : List TypeId} {ds : List (DataW H)} {j : Nat}
    (hv : Value.okWide Tryd.prog W .any base 44 v) (h : DataW.Trod enc Tryd.prog W 0 (fun _ => true) true 44 v d p)
    (hsz : (DataW.weightsEach Tryd.prog ts ds).all (· ≤ reachBytes) = true) (ht : ts[j]? = some 44) (hd : ds[j]? = some d) :
    ∃ (a : Option Addr) (n ca : Nat) (l : List (BitVec 32)) (b : Option Addr) (m cb : Nat) (k : List (BitVec 32)) (c r : BitVec 32), v = .agg #[.slice a n ca, .slice b m cb, .int .u32 (c.toNat : Int), .int .u32 (r.toNat : Int)] ∧ RdW W a n ca l ∧ RdW W b m cb k := by
  obtain ⟨u0, u1, u2, u3, y0, y1, y2, y3, nf, rfl, rfl, rfl, g0, g1, g2, g3⟩ := Go.Joins.open_agg4 Tryd.underlying44 (by kernel_rfl) (by kernel_rfl) hv h
  have hz := agg_sized hsz ht hd Tryd.underlying44
  obtain ⟨d0, p0⟩ := y0
  obtain ⟨d1, p1⟩ := y1
  obtain ⟨a, n, ca, l, rfl, ha⟩ := open_words g0 hz (j := 0) rfl rfl
  obtain ⟨b, m, cb, k, rfl, hb⟩ := open_words g1 hz (j := 1) rfl rfl
  obtain ⟨x2, e2, _, w2⟩ := DataW.trod_int Tryd.underlying22 g2
  obtain ⟨x3, e3, _, w3⟩ := DataW.trod_int Tryd.underlying22 g3
  obtain ⟨c, rfl⟩ := u32_of w2
  obtain ⟨r, rfl⟩ := u32_of w3
  simp only [List.cons.injEq, and_true] at e2 e3
  subst e2; subst e3
  exact ⟨a, n, ca, l, b, m, cb, k, c, r, rfl, ha, hb⟩
end Go.Proofs.YtpihlaeioepbpaaDoor
