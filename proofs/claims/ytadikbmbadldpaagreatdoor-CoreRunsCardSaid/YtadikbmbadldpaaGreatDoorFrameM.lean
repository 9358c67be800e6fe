
/- From the reading of a process, of a cut, to what the walks ask. -/
import Derived.Test.YtadikbmbadldpaaGreatDoorFrameP
import Derived.Test.YtadikbmbadldpaaGreatDoorMach
import Derived.Test.YtadikbmbadldpaaGreatDoorIsaTable
import Derived.Stop.LaidErr
namespace Go.Proofs.YtadikbmbadldpaaGreatDoor
open Go Go.RowKit Go.ChangeShapes Go.WideShapes Go.ChangeAt Go.Deep
set_option linter.unusedVariables false

theorem blank_at {W : World} : ∀ (k : Nat) (L : List (String × DataW Unit)), laidMet Tryz.prog L W → (L.drop k).head? = some ("strings.asciiSpace", Lib.tabData .u8 Lib.asciiSpaceTab) → BlankT W
  | 0, L, h, hL => by
    cases L with
    | nil => cases hL
    | cons x r =>
      obtain rfl := Option.some.inj hL
      exact Lib.tabIs_of_head (t := (((Tryz.prog.globals[lays157_ren.g 0]?).map (·.type)).getD 0)) (g := lays157_ren.g 0) (n := 256) hg157 (by kernel_rfl) (by kernel_rfl) Tryz.underlying5 (by kernel_rfl) (by kernel_rfl) h
  | k + 1, L, h, hL => by
    cases L with
    | nil => cases hL
    | cons x r => exact blank_at k r h.tail hL
theorem cellsProc : Tryz.prog.cellsOf 26 = 21 := by kernel_rfl
theorem cellsProcF : Tryz.prog.cellsOf 3 = 1 ∧ Tryz.prog.cellsOf 23 = 1 ∧ Tryz.prog.cellsOf 24 = 16 := ⟨by kernel_rfl, by kernel_rfl, by kernel_rfl⟩
set_option maxRecDepth 100000 in
theorem open_procl {H : Type} {enc : TypeId × Value → H} {W : World} {held : Bool} {fuel : Nat} {cs : List Value} {x : DataW H × List MemPlace}
    (h : DataW.trod enc Tryz.prog W 0 (fun _ => true) held fuel 26 cs = some x) : ∃ q : ProcV, cs = q.row := by
  obtain ⟨xs, n, _, _, hlen, hxs, hf⟩ := DataW.trod_struct Tryz.underlying26 h
  rw [cellsProc] at hlen
  obtain ⟨c1, c2, c3⟩ := cellsProcF
  have h0 : DataW.trod enc Tryz.prog W 0 (fun _ => true) held n 24 ((cs.drop 0).take (Tryz.prog.cellsOf 24)) = xs[0]? := hf 0 _ rfl
  have h1 : DataW.trod enc Tryz.prog W 0 (fun _ => true) held n 23 ((cs.drop 16).take (Tryz.prog.cellsOf 23)) = xs[1]? := hf 1 _ rfl
  have h2 : DataW.trod enc Tryz.prog W 0 (fun _ => true) held n 3 ((cs.drop 17).take (Tryz.prog.cellsOf 3)) = xs[2]? := hf 2 _ rfl
  have h3 : DataW.trod enc Tryz.prog W 0 (fun _ => true) held n 3 ((cs.drop 18).take (Tryz.prog.cellsOf 3)) = xs[3]? := hf 3 _ rfl
  have h4 : DataW.trod enc Tryz.prog W 0 (fun _ => true) held n 3 ((cs.drop 19).take (Tryz.prog.cellsOf 3)) = xs[4]? := hf 4 _ rfl
  have h5 : DataW.trod enc Tryz.prog W 0 (fun _ => true) held n 3 ((cs.drop 20).take (Tryz.prog.cellsOf 3)) = xs[5]? := hf 5 _ rfl
  rw [c3] at h0
  rw [c2] at h1
  rw [c1] at h2 h3 h4 h5
  have hx : xs.length = 6 := hxs
  rw [List.getElem?_eq_getElem (by omega)] at h0 h1 h2 h3 h4 h5
  obtain ⟨ys, m, _, _, hl2, hy, hg⟩ := DataW.trod_array Tryz.underlying24 h0
  obtain ⟨r1, e1, _, w1⟩ := DataW.trod_int Tryz.underlying23 h1
  obtain ⟨r2, e2, _, w2⟩ := DataW.trod_int Tryz.underlying3 h2
  obtain ⟨r3, e3, _, w3⟩ := DataW.trod_int Tryz.underlying3 h3
  obtain ⟨r4, e4, _, w4⟩ := DataW.trod_int Tryz.underlying3 h4
  obtain ⟨r5, e5, _, w5⟩ := DataW.trod_int Tryz.underlying3 h5
  rw [cut1 cs _ (by omega)] at e1 e2 e3 e4 e5
  obtain ⟨pc, rfl⟩ := u32_of w1
  have each : ∀ i, ∃ z : BitVec 32, ∀ hi : i < 16, cs[i]'(by omega) = .int .u32 (z.toNat : Int) := by
    intro i
    by_cases hi : i < 16
    · have hgi := hg i hi
      rw [c2, Nat.mul_one, List.getElem?_eq_getElem (by omega)] at hgi
      obtain ⟨z, ez, _, wz⟩ := DataW.trod_int Tryz.underlying23 hgi
      have hlt : i < ((cs.drop 0).take 16).length := by rw [List.length_take, List.length_drop]; omega
      rw [cut1 _ i hlt] at ez
      obtain ⟨u, rfl⟩ := u32_of wz
      refine ⟨u, fun _ => ?_⟩
      have ez' := (List.cons.inj ez).1
      rw [List.getElem_take, List.getElem_drop] at ez'
      rw [← ez']
      congr 1
      omega
    · exact ⟨0#32, fun h => absurd h hi⟩
  refine ⟨⟨fun i => Classical.choose (each i), pc, r2, r3, r4, r5⟩, ?_⟩
  apply List.ext_getElem
  · rw [ProcV.row_length, hlen]
  · intro i h1 h2
    by_cases hi : i < 16
    · rw [Classical.choose_spec (each i) hi]
      have := ProcV.row_reg ⟨fun i => Classical.choose (each i), pc, r2, r3, r4, r5⟩ i hi
      rw [List.getElem?_eq_getElem h2] at this
      exact (Option.some.inj this).symm
    · have hk : ∃ k, i = 16 + k ∧ k < 5 := ⟨i - 16, by omega, by omega⟩
      obtain ⟨k, rfl, hk5⟩ := hk
      have ht : (ProcV.row ⟨fun i => Classical.choose (each i), pc, r2, r3, r4, r5⟩)[16 + k]? = [Value.int .u32 (pc.toNat : Int), .int .i64 r2, .int .i64 r3, .int .i64 r4, .int .i64 r5][k]? := by
        unfold ProcV.row
        rw [List.getElem?_append_right (by rw [regsL_length]; omega), regsL_length, Nat.add_sub_cancel_left]
      rw [List.getElem?_eq_getElem h2] at ht
      match k, hk5 with
      | 0, _ => exact (List.cons.inj e1).1.trans (Option.some.inj ht).symm
      | 1, _ => exact (List.cons.inj e2).1.trans (Option.some.inj ht).symm
      | 2, _ => exact (List.cons.inj e3).1.trans (Option.some.inj ht).symm
      | 3, _ => exact (List.cons.inj e4).1.trans (Option.some.inj ht).symm
      | 4, _ => exact (List.cons.inj e5).1.trans (Option.some.inj ht).symm
set_option maxRecDepth 100000 in
theorem open_proc {H : Type} {enc : TypeId × Value → H} {W : World} {base : Nat} {v : Value} {d : DataW H} {p : List MemPlace}
    (hv : Value.okWide Tryz.prog W .any base 26 v) (h : DataW.Trod enc Tryz.prog W 0 (fun _ => true) true 26 v d p) : ∃ q : ProcV, v = .agg q.row.toArray := by
  obtain ⟨cs, rfl, hcsz⟩ := okWide_struct Tryz.underlying26 hv
  obtain ⟨fuel, hf⟩ := h
  obtain ⟨q, hq⟩ := open_procl hf
  refine ⟨q, ?_⟩
  congr 1
  apply Array.toList_inj.1
  rw [← hq]
  simp [Value.cells]
end Go.Proofs.YtadikbmbadldpaaGreatDoor
