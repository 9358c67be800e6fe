/- From the reading of a slice of bytes to what the walks ask. -/
import Derived.Test.YtndninajnkejnaaDoorFrame
namespace Go.Proofs.YtndninajnkejnaaDoor
open Go Go.RowKit Go.ChangeShapes Go.WideShapes Go.ChangeAt
open Go.ChangeMaps (open_string shut_string)
set_option linter.unusedVariables false

theorem cellsU8 : Tryd.prog.cellsOf 5 = 1 := by kernel_rfl
theorem bytesU8 : Tryd.prog.bytesOf 5 = 1 := by kernel_rfl

theorem lits_wf8 {zs : List Int} (h : ∀ n ∈ zs, (Lit.int .u8 n).wf = true) (i : Nat) (hi : i < zs.length) : zs.getD i 0 = (((zs.map fun z => BitVec.ofInt 8 z).getD i 0#8).toNat : Int) := by
  have hb := bounds_u8 (h _ (List.getElem_mem hi))
  simp only [List.getD_eq_getElem?_getD, List.getElem?_map, List.getElem?_eq_getElem hi, Option.map_some, Option.getD_some]
  rw [BitVec.toNat_ofInt]
  omega

/-- A slice of bytes, opened. -/
theorem open_bytes {H : Type} {enc : TypeId × Value → H} {W : World} {held : Bool} {a : Option Addr} {n cap : Nat} {d : DataW H} {p : List MemPlace} {ts : List TypeId} {ds : List (DataW H)} {j : Nat}
    (hr : ∃ fuel, DataW.trod enc Tryd.prog W 0 (fun _ => true) held fuel 22 (Value.slice a n cap).cells.toList = some (d, p))
    (hsz : (DataW.weightsEach Tryd.prog ts ds).all (· ≤ reachBytes) = true) (ht : ts[j]? = some 22) (hd : ds[j]? = some d) :
    ∃ l, RdB W a n cap l ∧ n ≤ 140737488351232 := by
  obtain ⟨fuel, hf⟩ := hr
  rcases open_ints Tryd.underlying22 Tryd.underlying5 cellsU8 hf with ⟨hcs, hx⟩ | ⟨x, len', cap', zs, hcs, _, hl, hm, hz, hx, hcell, hwz⟩
  · simp [Value.cells] at hcs
    obtain ⟨rfl, rfl, rfl⟩ := hcs
    exact ⟨[], ⟨rfl, by omega, by omega, fun _ => rfl, fun h => by omega⟩, by omega⟩
  · simp [Value.cells] at hcs
    obtain ⟨rfl, rfl, rfl⟩ := hcs
    have hz' : zs.length = cap := by simpa using hz
    have hsl : (lits .u8 (zs.take n) : List (DataW H)).length + (lits .u8 (zs.drop n) : List (DataW H)).length ≤ reachBytes := by
      have hd' : ds[j]? = some (.slice (lits .u8 (zs.take n)) (lits .u8 (zs.drop n))) := by
        rw [hd]; simp only [Prod.mk.injEq] at hx; rw [hx.1]
      have := sized_slice hsz ht hd' Tryd.underlying22
      rw [bytesU8] at this
      simpa using this
    have hr : cap ≤ 140737488351232 := by
      simp only [lits, List.length_map, List.length_take, List.length_drop, reachBytes] at hsl
      omega
    refine ⟨(zs.take n).map fun z => BitVec.ofInt 8 z, ⟨by simp; omega, hl, by omega, (fun h => by cases h), fun hn => ?_⟩, by omega⟩
    have h0 := hcell 0 (by omega)
    obtain ⟨b, off, spot⟩ := x
    have hspot : spot = none := by simpa [Addr.add] using World.cell?_spot h0
    subst hspot
    refine ⟨b, off, rfl, fun i hi => ?_⟩
    have hc := hcell i (by omega)
    have e : (⟨b, off, none⟩ : Addr).add i = ⟨b, off + i, none⟩ := by unfold Addr.add; split <;> simp_all
    rw [e] at hc
    rw [hc, lits_wf8 hwz i (by omega)]
    congr 3
    simp only [List.getD_eq_getElem?_getD, List.getElem?_map, List.getElem?_take, hi, if_true]

end Go.Proofs.YtndninajnkejnaaDoor
