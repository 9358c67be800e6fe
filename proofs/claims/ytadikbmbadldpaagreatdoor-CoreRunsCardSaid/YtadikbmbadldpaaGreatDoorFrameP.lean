
/- From the reading of a slice of pages to what the walks ask. -/
import Derived.Test.YtadikbmbadldpaaGreatDoorFrame
import Derived.Test.YtadikbmbadldpaaGreatDoorPageBase
import Derived.Deep.Slices
import Derived.Deep.Fields
import Derived.OpenShut
namespace Go.Proofs.YtadikbmbadldpaaGreatDoor
open Go Go.RowKit Go.ChangeShapes Go.WideShapes Go.ChangeAt Go.Deep
open Go.ChangeMaps (open_string shut_string)
set_option linter.unusedVariables false

theorem cellsPage : Tryz.prog.cellsOf 47 = 66 := by kernel_rfl
theorem bytesPage : Tryz.prog.bytesOf 47 = 80 := by kernel_rfl
theorem cells1 : Tryz.prog.cellsOf 3 = 1 ∧ Tryz.prog.cellsOf 4 = 1 ∧ Tryz.prog.cellsOf 5 = 1 ∧ Tryz.prog.cellsOf 45 = 64 := ⟨by kernel_rfl, by kernel_rfl, by kernel_rfl, by kernel_rfl⟩
theorem cut1 (cs : List Value) (k : Nat) (h : k < cs.length) : (cs.drop k).take 1 = [cs[k]] := by
  rw [List.drop_eq_getElem_cons h]; rfl
set_option maxRecDepth 100000 in
/-- One page, opened. -/
theorem open_page {H : Type} {enc : TypeId × Value → H} {W : World} {held : Bool} {fuel : Nat} {cs : List Value} {x : DataW H × List MemPlace}
    (h : DataW.trod enc Tryz.prog W 0 (fun _ => true) held fuel 47 cs = some x) : ∃ p : PageV, cs = p.row := by
  obtain ⟨xs, n, _, _, hlen, hxs, hf⟩ := DataW.trod_struct Tryz.underlying47 h
  rw [cellsPage] at hlen
  obtain ⟨c1, c2, c3, c4⟩ := cells1
  have h0 : DataW.trod enc Tryz.prog W 0 (fun _ => true) held n 3 ((cs.drop 0).take (Tryz.prog.cellsOf 3)) = xs[0]? := hf 0 _ rfl
  have h1 : DataW.trod enc Tryz.prog W 0 (fun _ => true) held n 4 ((cs.drop 1).take (Tryz.prog.cellsOf 4)) = xs[1]? := hf 1 _ rfl
  have h2 : DataW.trod enc Tryz.prog W 0 (fun _ => true) held n 45 ((cs.drop 2).take (Tryz.prog.cellsOf 45)) = xs[2]? := hf 2 _ rfl
  rw [c1] at h0
  rw [c2] at h1
  rw [c4] at h2
  have hx : xs.length = 3 := hxs
  rw [List.getElem?_eq_getElem (by omega)] at h0 h1 h2
  obtain ⟨r, e0, _, w0⟩ := DataW.trod_int Tryz.underlying3 h0
  obtain ⟨d, e1, _⟩ := DataW.trod_bool Tryz.underlying4 h1
  obtain ⟨ys, m, _, _, hl2, hy, hg⟩ := DataW.trod_array Tryz.underlying45 h2
  rw [cut1 cs _ (by omega)] at e0 e1
  have each : ∀ i, ∃ z : BitVec 8, ∀ hi : i < 64, cs[i + 2]'(by omega) = .int .u8 (z.toNat : Int) := by
    intro i
    by_cases hi : i < 64
    · have hgi := hg i hi
      rw [c3, Nat.mul_one, List.getElem?_eq_getElem (by omega)] at hgi
      obtain ⟨z, ez, _, wz⟩ := DataW.trod_int Tryz.underlying5 hgi
      have hlt : i < ((cs.drop 2).take 64).length := by rw [List.length_take, List.length_drop]; omega
      rw [cut1 _ i hlt] at ez
      obtain ⟨u, rfl⟩ := u8_of wz
      refine ⟨u, fun _ => ?_⟩
      have ez' := (List.cons.inj ez).1
      rw [List.getElem_take, List.getElem_drop] at ez'
      rw [← ez']
      congr 1
      omega
    · exact ⟨0#8, fun h => absurd h hi⟩
  refine ⟨⟨r, d, fun i => Classical.choose (each i)⟩, ?_⟩
  apply List.ext_getElem
  · rw [PageV.row_length, hlen]
  · intro i h1 h2
    match i, h1, h2 with
    | 0, _, _ => exact (List.cons.inj e0).1
    | 1, _, _ => exact (List.cons.inj e1).1
    | i + 2, h1, h2 =>
      have hi : i < 64 := by rw [hlen] at h1; omega
      rw [Classical.choose_spec (each i) hi]
      have := PageV.row_data ⟨r, d, fun i => Classical.choose (each i)⟩ i hi
      rw [List.getElem?_eq_getElem h2] at this
      exact (Option.some.inj this).symm
set_option maxRecDepth 100000 in
/-- A slice of pages, opened. -/
theorem open_pages {H : Type} {enc : TypeId × Value → H} {W : World} {held : Bool} {a : Option Addr} {n cap : Nat} {d : DataW H} {p : List MemPlace} {ts : List TypeId} {ds : List (DataW H)} {j : Nat}
    (hr : ∃ fuel, DataW.trod enc Tryz.prog W 0 (fun _ => true) held fuel 22 (Value.slice a n cap).cells.toList = some (d, p))
    (hsz : (DataW.weightsEach Tryz.prog ts ds).all (· ≤ reachBytes) = true) (ht : ts[j]? = some 22) (hd : ds[j]? = some d) :
    ∃ P, RdP W a n cap P := by
  obtain ⟨fuel, hf⟩ := hr
  rcases open_slice Tryz.underlying22 hf with ⟨hcs, hx⟩ | ⟨x, len', cap', m, k, D, Pl, hcs, _, hl, hm, hmm, hx, hel⟩
  · simp [Value.cells] at hcs
    obtain ⟨rfl, rfl, rfl⟩ := hcs
    exact ⟨fun _ => ⟨0, false, fun _ => 0#8⟩, ⟨by omega, by omega, fun _ => rfl, fun h => by omega⟩⟩
  · simp [Value.cells] at hcs
    obtain ⟨rfl, rfl, rfl⟩ := hcs
    simp only [if_true] at hmm
    subst hmm
    have hd' : ds[j]? = some (.slice ((List.range n).map D) ((List.range (m - n)).map fun j => D (n + j))) := by
      rw [hd]; simp only [Prod.mk.injEq] at hx; rw [hx.1]
    have hsl := sized_slice hsz ht hd' Tryz.underlying22
    rw [bytesPage] at hsl
    simp only [List.length_map, List.length_range, reachBytes] at hsl
    have hn : n ≤ 1759218604441 := by omega
    by_cases h0 : n = 0
    · subst h0
      exact ⟨fun _ => ⟨0, false, fun _ => 0#8⟩, ⟨hl, by omega, (fun h => by cases h), fun h => by omega⟩⟩
    · have each : ∀ i, ∃ q : PageV, i < n → ∀ j, j < 66 → W.cell? (x.add (i * 66 + j)) = q.row[j]? := by
        intro i
        by_cases hi : i < n
        · obtain ⟨cs', hc, ht'⟩ := hel i (by omega)
          obtain ⟨q, rfl⟩ := open_page ht'
          obtain ⟨_, hcl, hat⟩ := World.cells?_some hc
          rw [cellsPage] at hat
          refine ⟨q, fun _ j hj => ?_⟩
          rw [← hat j hj, ← Go.Deep.add_add]
        · exact ⟨⟨0, false, fun _ => 0#8⟩, fun h => absurd h hi⟩
      obtain ⟨b, off, spot⟩ := x
      have hspot : spot = none := by
        have h1 := Classical.choose_spec (each 0) (by omega) 0 (by omega)
        have h2 : (Classical.choose (each 0)).row[0]? = some (.int .i64 (Classical.choose (each 0)).rights) := rfl
        rw [h2] at h1
        simpa [Addr.add] using World.cell?_spot h1
      subst hspot
      have e : ∀ j, (⟨b, off, none⟩ : Addr).add j = ⟨b, off + j, none⟩ := fun j => by unfold Addr.add; split <;> simp_all
      refine ⟨fun i => Classical.choose (each i), ⟨hl, hn, (fun h => by cases h), fun _ => ⟨b, off, rfl, fun i hi j u hu => ?_⟩⟩⟩
      have hj : j < 66 := by
        have := (List.getElem?_eq_some_iff.1 hu).1
        rwa [PageV.row_length] at this
      have h1 := Classical.choose_spec (each i) hi j hj
      rw [e] at h1
      rw [Nat.add_assoc, h1]
      exact hu
end Go.Proofs.YtadikbmbadldpaaGreatDoor
