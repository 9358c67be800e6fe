/- PortLoses: for every plans, ports and messages, each message that comes is put or reported, what ports out held is emitted in order, and ports in keep what they hold; the case stays as it was. (Where what it reads is of bulk at most 1048576.) -/
import Derived.Test.YtjlgnbjfgeppcaaDoorFrameK
import Derived.Test.YtjlgnbjfgeppcaaDoorPortRows
import Derived.Test.YtjlgnbjfgeppcaaDoorMsgEq
import Derived.Test.YtjlgnbjfgeppcaaDoorFrameL
import Derived.Test.YtjlgnbjfgeppcaaDoorPortLoses
import Derived.Deep.DeepHandedRow
import Derived.Deep.DeepWitnessRowRef
namespace Go.Proofs.YtjlgnbjfgeppcaaDoor
open Go Go.RowKit Go.ChangeShapes Go.WideShapes Go.ChangeAt Go.Deep
open Go.ChangeMaps (open_string shut_string)
set_option linter.unusedVariables false

theorem wall_mem {H : Type} {P : Program} {e : TypeId} : ∀ {l : List (DataW H)} {d : DataW H}, d ∈ l → ∀ n ∈ d.weights P e, n ∈ DataW.weightsAll P e l
  | d' :: r, d, hd, n, hn => by
    simp only [DataW.weightsAll, List.mem_append]
    rcases List.mem_cons.1 hd with rfl | h
    · exact .inl hn
    · exact .inr (wall_mem h n hn)
/-- The sizes of a struct's parts, the struct in a slice. -/
theorem elem_sized {H : Type} {P : Program} {ts : List TypeId} {ds elems spare parts : List (DataW H)} {j : Nat} {t e : TypeId} {fs : Array Field} (h : (DataW.weightsEach P ts ds).all (· ≤ reachBytes) = true) (ht : ts[j]? = some t) (hd : ds[j]? = some (.slice elems spare)) (hu : P.underlying t = some (.slice e)) (hm : DataW.agg parts ∈ elems) (he : P.underlying e = some (.struct fs)) :
    (DataW.weightsEach P (fs.toList.map (·.type)) parts).all (· ≤ reachBytes) = true :=
  List.all_eq_true.2 fun n hn => List.all_eq_true.1 h n (DataW.weights_mem_each ht hd n (by
    have h1 : n ∈ (DataW.agg parts).weights P e := by simpa [DataW.weights, he] using hn
    have h2 := wall_mem hm n h1
    simp only [DataW.weights, hu, List.mem_cons, List.mem_append]
    exact .inr (.inl h2)))
namespace bulks
theorem bound {H : Type} {l : List (DataW H)} (hk : Rows.uptoSmall H l = true) : Rows.uptoBulkAll l ≤ 1048576 := of_decide_eq_true hk
theorem pos {H : Type} (d : DataW H) : 1 ≤ Rows.uptoBulk d := by
  cases d with
  | lit l => cases l <;> simp [Rows.uptoBulk]
  | _ => simp [Rows.uptoBulk]
theorem len {H : Type} (l : List (DataW H)) : l.length ≤ Rows.uptoBulkAll l := by
  induction l with
  | nil => simp
  | cons d l ih => rw [Rows.uptoBulkAll, List.length_cons]; have := pos d; omega
theorem mem {H : Type} {l : List (DataW H)} {d : DataW H} (h : d ∈ l) : Rows.uptoBulk d ≤ Rows.uptoBulkAll l := by
  induction l with
  | nil => simp at h
  | cons x l ih =>
    rw [Rows.uptoBulkAll]
    rcases List.mem_cons.1 h with rfl | h
    · omega
    · have := ih h; omega
end bulks
theorem bytesPl : Tryd.prog.bytesOf 23 = 32 := by kernel_rfl
theorem bytesPo : Tryd.prog.bytesOf 29 = 32 := by kernel_rfl
theorem bytesMs : Tryd.prog.bytesOf 101 = 24 := by kernel_rfl
set_option maxRecDepth 100000 in
theorem open_pls {H : Type} {enc : TypeId × Value → H} {W : World} {held : Bool} {u : Value} {d : DataW H} {p : List MemPlace} {ts : List TypeId} {ds : List (DataW H)} {j fuel : Nat}
    (hf : DataW.trod enc Tryd.prog W 0 (fun _ => true) held fuel 41 [u] = some (d, p))
    (hsz : (DataW.weightsEach Tryd.prog ts ds).all (· ≤ reachBytes) = true) (ht : ts[j]? = some 41) (hd : ds[j]? = some d) :
    ∃ (a : Option Addr) (n cap : Nat) (P : Nat → PortP), u = .slice a n cap ∧ RdPl W a n cap P ∧ n ≤ Rows.uptoBulk d := by
  rcases open_slice_fields (fs := _) Tryd.underlying41 Tryd.underlying23 (by kernel_rfl) (by kernel_rfl) hf with ⟨hcs, hx⟩ | ⟨x, n, cap, m, D, Pl, hcs, _, hl, hm, hmm, hx, hel⟩
  · simp only [List.cons.injEq, and_true] at hcs
    exact ⟨none, 0, 0, fun _ => ⟨0, 0, 0, 0⟩, hcs, ⟨by omega, by omega, fun _ => rfl, fun h => by omega⟩, Nat.zero_le _⟩
  · simp only [List.cons.injEq, and_true] at hcs
    simp only [if_true] at hmm
    subst hmm
    have hmax : maxLen = 9223372036854775807 := rfl
    have hd' : ds[j]? = some (.slice ((List.range n).map D) ((List.range (m - n)).map fun j => D (n + j))) := by
      rw [hd]; simp only [Prod.mk.injEq] at hx; rw [hx.1]
    have hbk : n ≤ Rows.uptoBulk d := by
      simp only [Prod.mk.injEq] at hx
      rw [hx.1, Rows.uptoBulk]
      have h1 := bulks.len ((List.range n).map D)
      simp only [List.length_map, List.length_range] at h1
      omega
    have hsl := sized_slice hsz ht hd' Tryd.underlying41
    rw [bytesPl] at hsl
    simp only [List.length_map, List.length_range, reachBytes] at hsl
    by_cases h0 : n = 0
    · subst h0
      exact ⟨some x, 0, m, fun _ => ⟨0, 0, 0, 0⟩, hcs, ⟨hl, by omega, (fun h => by cases h), fun h => by omega⟩, hbk⟩
    · obtain ⟨b, off, spot⟩ := x
      have hspot : spot = none := by
        obtain ⟨ys, k, _, _, _, hfl⟩ := hel 0 (by omega)
        obtain ⟨v, y, hc, _, _⟩ := hfl 0 _ rfl
        simpa [Addr.add] using World.cell?_spot hc
      subst hspot
      have e : ∀ j, (⟨b, off, none⟩ : Addr).add j = ⟨b, off + j, none⟩ := fun j => by unfold Addr.add; split <;> simp_all
      have each : ∀ i, ∃ c : PortP, i < n → W.rangeAt b (off + i * 4) c.row := by
        intro i
        by_cases hi : i < n
        · obtain ⟨ys, k, _, _, _, hfl⟩ := hel i (by omega)
          obtain ⟨v0, y0, c0, _, t0⟩ := hfl 0 _ rfl
          obtain ⟨v1, y1, c1, _, t1⟩ := hfl 1 _ rfl
          obtain ⟨v2, y2, c2, _, t2⟩ := hfl 2 _ rfl
          obtain ⟨v3, y3, c3, _, t3⟩ := hfl 3 _ rfl
          obtain ⟨x0, e0, _, _⟩ := DataW.trod_int Tryd.underlying3 t0
          obtain ⟨x1, e1, _, _⟩ := DataW.trod_int Tryd.underlying3 t1
          obtain ⟨x2, e2, _, _⟩ := DataW.trod_int Tryd.underlying3 t2
          obtain ⟨x3, e3, _, _⟩ := DataW.trod_int Tryd.underlying3 t3
          simp only [List.cons.injEq, and_true] at e0 e1 e2 e3
          subst e0; subst e1; subst e2; subst e3
          refine ⟨⟨x0, x1, x2, x3⟩, fun _ => ?_⟩
          rw [e] at c0 c1 c2 c3
          intro j v hv
          match j, hv with
          | 0, hv => cases hv; exact c0
          | 1, hv => cases hv; exact c1
          | 2, hv => cases hv; exact c2
          | 3, hv => cases hv; exact c3
          | j + 4, hv => simp [PortP.row] at hv
        · exact ⟨⟨0, 0, 0, 0⟩, fun h => absurd h hi⟩
      exact ⟨some ⟨b, off, none⟩, n, m, fun i => Classical.choose (each i), hcs, ⟨hl, by omega, (fun h => by cases h), fun _ => ⟨b, off, rfl, fun i hi => Classical.choose_spec (each i) hi⟩⟩, hbk⟩
set_option maxRecDepth 100000 in
theorem open_msgs {H : Type} {enc : TypeId × Value → H} {W : World} {held : Bool} {u : Value} {d : DataW H} {p : List MemPlace} {ts : List TypeId} {ds : List (DataW H)} {j fuel : Nat}
    (hf : DataW.trod enc Tryd.prog W 0 (fun _ => true) held fuel 43 [u] = some (d, p))
    (hsz : (DataW.weightsEach Tryd.prog ts ds).all (· ≤ reachBytes) = true) (ht : ts[j]? = some 43) (hd : ds[j]? = some d) :
    ∃ (a : Option Addr) (n cap : Nat) (C : Nat → MsgV), u = .slice a n cap ∧ RdRows W 2 a n cap (fun i => (C i).row) ∧ (∀ i, i < n → (C i).data.size < 9223372036854775808) ∧ n ≤ Rows.uptoBulk d := by
  rcases open_slice_fields (fs := _) Tryd.underlying43 Tryd.underlying101 (by kernel_rfl) (by kernel_rfl) hf with ⟨hcs, hx⟩ | ⟨x, n, cap, m, D, Pl, hcs, _, hl, hm, hmm, hx, hel⟩
  · simp only [List.cons.injEq, and_true] at hcs
    exact ⟨none, 0, 0, fun _ => ⟨0, ⟨#[]⟩⟩, hcs, ⟨by omega, by omega, fun _ => rfl, fun h => by omega⟩, fun i hi => by omega, Nat.zero_le _⟩
  · simp only [List.cons.injEq, and_true] at hcs
    simp only [if_true] at hmm
    subst hmm
    have hmax : maxLen = 9223372036854775807 := rfl
    have hd' : ds[j]? = some (.slice ((List.range n).map D) ((List.range (m - n)).map fun j => D (n + j))) := by
      rw [hd]; simp only [Prod.mk.injEq] at hx; rw [hx.1]
    have hbk : n ≤ Rows.uptoBulk d := by
      simp only [Prod.mk.injEq] at hx
      rw [hx.1, Rows.uptoBulk]
      have h1 := bulks.len ((List.range n).map D)
      simp only [List.length_map, List.length_range] at h1
      omega
    have hsl := sized_slice hsz ht hd' Tryd.underlying43
    rw [bytesMs] at hsl
    simp only [List.length_map, List.length_range, reachBytes] at hsl
    by_cases h0 : n = 0
    · subst h0
      exact ⟨some x, 0, m, fun _ => ⟨0, ⟨#[]⟩⟩, hcs, ⟨hl, by omega, (fun h => by cases h), fun h => by omega⟩, fun i hi => by omega, hbk⟩
    · obtain ⟨b, off, spot⟩ := x
      have hspot : spot = none := by
        obtain ⟨ys, k, _, _, _, hfl⟩ := hel 0 (by omega)
        obtain ⟨v, y, hc, _, _⟩ := hfl 0 _ rfl
        simpa [Addr.add] using World.cell?_spot hc
      subst hspot
      have e : ∀ j, (⟨b, off, none⟩ : Addr).add j = ⟨b, off + j, none⟩ := fun j => by unfold Addr.add; split <;> simp_all
      have each : ∀ i, ∃ c : MsgV, i < n → c.data.size < 9223372036854775808 ∧ W.rangeAt b (off + i * 2) c.row := by
        intro i
        by_cases hi : i < n
        · obtain ⟨ys, k, _, _, _, hfl⟩ := hel i (by omega)
          obtain ⟨v0, y0, c0, _, t0⟩ := hfl 0 _ rfl
          obtain ⟨v1, y1, c1, _, t1⟩ := hfl 1 _ rfl
          obtain ⟨x0, e0, _, _⟩ := DataW.trod_int Tryd.underlying3 t0
          obtain ⟨s1, e1, _, w1⟩ := DataW.trod_string Tryd.underlying9 t1
          simp only [List.cons.injEq, and_true] at e0 e1
          subst e0; subst e1
          refine ⟨⟨x0, s1⟩, fun _ => ⟨show s1.size < 9223372036854775808 by omega, ?_⟩⟩
          rw [e] at c0 c1
          intro j v hv
          match j, hv with
          | 0, hv => cases hv; exact c0
          | 1, hv => cases hv; exact c1
          | j + 2, hv => simp [MsgV.row] at hv
        · exact ⟨⟨0, ⟨#[]⟩⟩, fun h => absurd h hi⟩
      exact ⟨some ⟨b, off, none⟩, n, m, fun i => Classical.choose (each i), hcs, ⟨hl, by omega, (fun h => by cases h), fun _ => ⟨b, off, rfl, fun i hi => (Classical.choose_spec (each i) hi).2⟩⟩, fun i hi => (Classical.choose_spec (each i) hi).1, hbk⟩
set_option maxRecDepth 100000 in
theorem open_pos {H : Type} {enc : TypeId × Value → H} {W : World} {held : Bool} {u : Value} {d : DataW H} {p : List MemPlace} {ts : List TypeId} {ds : List (DataW H)} {j fuel : Nat}
    (hf : DataW.trod enc Tryd.prog W 0 (fun _ => true) held fuel 42 [u] = some (d, p))
    (hsz : (DataW.weightsEach Tryd.prog ts ds).all (· ≤ reachBytes) = true) (ht : ts[j]? = some 42) (hd : ds[j]? = some d) :
    ∃ (a : Option Addr) (n cap : Nat) (V : Nat → PortV), u = .slice a n cap ∧ RdPo W a n cap V ∧ n ≤ Rows.uptoBulk d := by
  rcases open_slice_fields (fs := _) Tryd.underlying42 Tryd.underlying29 (by kernel_rfl) (by kernel_rfl) hf with ⟨hcs, hx⟩ | ⟨x, n, cap, m, D, Pl, hcs, _, hl, hm, hmm, hx, hel⟩
  · simp only [List.cons.injEq, and_true] at hcs
    exact ⟨none, 0, 0, fun _ => ⟨none, 0, 0, 0, []⟩, hcs, ⟨by omega, by omega, fun _ => rfl, fun h => by omega, fun i hi => by omega⟩, Nat.zero_le _⟩
  · simp only [List.cons.injEq, and_true] at hcs
    simp only [if_true] at hmm
    subst hmm
    have hmax : maxLen = 9223372036854775807 := rfl
    have hd' : ds[j]? = some (.slice ((List.range n).map D) ((List.range (m - n)).map fun j => D (n + j))) := by
      rw [hd]; simp only [Prod.mk.injEq] at hx; rw [hx.1]
    have hbk : n ≤ Rows.uptoBulk d := by
      simp only [Prod.mk.injEq] at hx
      rw [hx.1, Rows.uptoBulk]
      have h1 := bulks.len ((List.range n).map D)
      simp only [List.length_map, List.length_range] at h1
      omega
    have hsl := sized_slice hsz ht hd' Tryd.underlying42
    rw [bytesPo] at hsl
    simp only [List.length_map, List.length_range, reachBytes] at hsl
    by_cases h0 : n = 0
    · subst h0
      exact ⟨some x, 0, m, fun _ => ⟨none, 0, 0, 0, []⟩, hcs, ⟨hl, by omega, (fun h => by cases h), (fun h => by omega), fun i hi => by omega⟩, hbk⟩
    · obtain ⟨b, off, spot⟩ := x
      have hspot : spot = none := by
        obtain ⟨ys, k, _, _, _, hfl⟩ := hel 0 (by omega)
        obtain ⟨v, y, hc, _, _⟩ := hfl 0 _ rfl
        simpa [Addr.add] using World.cell?_spot hc
      subst hspot
      have e : ∀ j, (⟨b, off, none⟩ : Addr).add j = ⟨b, off + j, none⟩ := fun j => by unfold Addr.add; split <;> simp_all
      have each : ∀ i, ∃ c : PortV, i < n → RdS W c.a c.m c.c c.l ∧ W.rangeAt b (off + i * 2) c.row := by
        intro i
        by_cases hi : i < n
        · obtain ⟨ys, k, hDi, _, hyl, hfl⟩ := hel i (by omega)
          obtain ⟨v0, y0, c0, hy0, t0⟩ := hfl 0 _ rfl
          obtain ⟨v1, y1, c1, _, t1⟩ := hfl 1 _ rfl
          have hz := elem_sized (parts := ys.map (·.1)) hsz ht hd' Tryd.underlying42 (by rw [← hDi]; exact List.mem_map.2 ⟨i, List.mem_range.2 hi, rfl⟩) Tryd.underlying29
          obtain ⟨a', m', c', l', rfl, hr⟩ := open_strs (d := y0.1) (p := y0.2) t0 hz (j := 0) rfl (by rw [List.getElem?_map, hy0, Option.map_some])
          obtain ⟨x1, e1, _, _⟩ := DataW.trod_int Tryd.underlying3 t1
          simp only [List.cons.injEq, and_true] at e1
          subst e1
          refine ⟨⟨a', m', c', x1, l'⟩, fun _ => ⟨hr, ?_⟩⟩
          rw [e] at c0 c1
          intro j v hv
          match j, hv with
          | 0, hv => cases hv; exact c0
          | 1, hv => cases hv; exact c1
          | j + 2, hv => simp [PortV.row] at hv
        · exact ⟨⟨none, 0, 0, 0, []⟩, fun h => absurd h hi⟩
      exact ⟨some ⟨b, off, none⟩, n, m, fun i => Classical.choose (each i), hcs, ⟨hl, by omega, (fun h => by cases h), fun _ => ⟨b, off, rfl, fun i hi => (Classical.choose_spec (each i) hi).2⟩, fun i hi => (Classical.choose_spec (each i) hi).1⟩, hbk⟩
set_option maxRecDepth 100000 in
/-- A case by value, opened: its plan, its port, its data, its lists. -/
theorem open_caseT {H : Type} {enc : TypeId × Value → H} {W : World} {base : Nat} {v : Value} {d : DataW H} {p : List MemPlace} {ts : List TypeId} {ds : List (DataW H)} {j : Nat}
    (hv : Value.okWide Tryd.prog W .any base 45 v) (h : DataW.Trod enc Tryd.prog W 0 (fun _ => true) true 45 v d p)
    (hsz : (DataW.weightsEach Tryd.prog ts ds).all (· ≤ reachBytes) = true) (ht : ts[j]? = some 45) (hd : ds[j]? = some d) :
    ∃ (k s dp r : Int) (a : Option Addr) (n cap : Nat) (l : List ByteArray) (g : Int) (D : ByteArray) (pa : Option Addr) (pn pc : Nat) (P : Nat → PortP) (qa : Option Addr) (qn qc : Nat) (V : Nat → PortV) (ma : Option Addr) (mn mc : Nat) (C : Nat → MsgV),
      v = .agg (caseA k s dp r a n cap g D pa pn pc qa qn qc ma mn mc) ∧ RdS W a n cap l ∧ D.size < 9223372036854775808 ∧ RdPl W pa pn pc P ∧ RdPo W qa qn qc V ∧ RdRows W 2 ma mn mc (fun i => (C i).row) ∧ (∀ i, i < mn → (C i).data.size < 9223372036854775808) ∧ pn ≤ Rows.uptoBulk d ∧ qn ≤ Rows.uptoBulk d ∧ mn ≤ Rows.uptoBulk d := by
  obtain ⟨cs, rfl, hcsz⟩ := okWide_struct Tryd.underlying45 hv
  obtain ⟨a0, a1, a2, a3, a4, a5, a6, a7, a8, a9, rfl⟩ := array10 (hcsz.trans cellsCase)
  obtain ⟨fuel, hf⟩ := h
  obtain ⟨xs, n, _, hxe, hlen, hxs, hg⟩ := DataW.trod_struct Tryd.underlying45 hf
  obtain ⟨cp, cq, cst, csp, csq, csm, ci, css⟩ := cellsOfs
  have hx : xs.length = 6 := hxs
  have h0 : DataW.trod enc Tryd.prog W 0 (fun _ => true) true n 23 (([a0, a1, a2, a3, a4, a5, a6, a7, a8, a9].drop 0).take (Tryd.prog.cellsOf 23)) = xs[0]? := hg 0 _ rfl
  have h1 : DataW.trod enc Tryd.prog W 0 (fun _ => true) true n 29 (([a0, a1, a2, a3, a4, a5, a6, a7, a8, a9].drop 4).take (Tryd.prog.cellsOf 29)) = xs[1]? := hg 1 _ rfl
  have h2 : DataW.trod enc Tryd.prog W 0 (fun _ => true) true n 9 (([a0, a1, a2, a3, a4, a5, a6, a7, a8, a9].drop 6).take (Tryd.prog.cellsOf 9)) = xs[2]? := hg 2 _ rfl
  have h3 : DataW.trod enc Tryd.prog W 0 (fun _ => true) true n 41 (([a0, a1, a2, a3, a4, a5, a6, a7, a8, a9].drop 7).take (Tryd.prog.cellsOf 41)) = xs[3]? := hg 3 _ rfl
  have h4 : DataW.trod enc Tryd.prog W 0 (fun _ => true) true n 42 (([a0, a1, a2, a3, a4, a5, a6, a7, a8, a9].drop 8).take (Tryd.prog.cellsOf 42)) = xs[4]? := hg 4 _ rfl
  have h5 : DataW.trod enc Tryd.prog W 0 (fun _ => true) true n 43 (([a0, a1, a2, a3, a4, a5, a6, a7, a8, a9].drop 9).take (Tryd.prog.cellsOf 43)) = xs[5]? := hg 5 _ rfl
  rw [cp] at h0
  rw [cq] at h1
  rw [cst] at h2
  rw [csp] at h3
  rw [csq] at h4
  rw [csm] at h5
  have hz0 := agg_sized (parts := xs.map (·.1)) hsz ht (by rw [hd]; simp only [Prod.mk.injEq] at hxe; rw [hxe.1]) Tryd.underlying45
  rw [List.getElem?_eq_getElem (by omega)] at h0 h1 h2 h3 h4 h5
  obtain ⟨k, s, dd, r, rfl, rfl, rfl, rfl⟩ := open_planv h0
  obtain ⟨ys, n2, _, hye, _, hys, hgy⟩ := DataW.trod_struct Tryd.underlying29 h1
  have hy : ys.length = 2 := hys
  have g0 : DataW.trod enc Tryd.prog W 0 (fun _ => true) true n2 27 (([a4, a5].drop 0).take (Tryd.prog.cellsOf 27)) = ys[0]? := hgy 0 _ rfl
  have g1 : DataW.trod enc Tryd.prog W 0 (fun _ => true) true n2 3 (([a4, a5].drop 1).take (Tryd.prog.cellsOf 3)) = ys[1]? := hgy 1 _ rfl
  rw [css, List.getElem?_eq_getElem (by omega)] at g0
  rw [ci, List.getElem?_eq_getElem (by omega)] at g1
  have hz1 := agg_sized (j := 1) (parts := ys.map (·.1)) hz0 rfl (by rw [List.getElem?_map, List.getElem?_eq_getElem (by omega), Option.map_some, hye]) Tryd.underlying29
  obtain ⟨a, m, cap, l, rfl, hr⟩ := open_strs (d := (ys[0]'(by omega)).1) (p := (ys[0]'(by omega)).2) g0 hz1 (j := 0) rfl (by rw [List.getElem?_map, List.getElem?_eq_getElem (by omega), Option.map_some])
  obtain ⟨g, e1, _, _⟩ := DataW.trod_int Tryd.underlying3 g1
  obtain rfl := (List.cons.inj e1).1
  obtain ⟨D, e2, _, w2⟩ := DataW.trod_string Tryd.underlying9 h2
  obtain rfl := (List.cons.inj e2).1
  have part : ∀ i (hi : i < xs.length), Rows.uptoBulk (xs[i]'hi).1 ≤ Rows.uptoBulk d := fun i hi => by
    simp only [Prod.mk.injEq] at hxe
    rw [hxe.1, Rows.uptoBulk]
    have := bulks.mem (l := xs.map (·.1)) (List.mem_map.2 ⟨_, List.getElem_mem hi, rfl⟩)
    omega
  obtain ⟨pa, pn, pc, P, rfl, hP, b3⟩ := open_pls (d := (xs[3]'(by omega)).1) (p := (xs[3]'(by omega)).2) h3 hz0 (j := 3) rfl (by rw [List.getElem?_map, List.getElem?_eq_getElem (by omega), Option.map_some])
  obtain ⟨qa, qn, qc, V, rfl, hV, b4⟩ := open_pos (d := (xs[4]'(by omega)).1) (p := (xs[4]'(by omega)).2) h4 hz0 (j := 4) rfl (by rw [List.getElem?_map, List.getElem?_eq_getElem (by omega), Option.map_some])
  obtain ⟨ma, mn, mc, C, rfl, hC, hCs, b5⟩ := open_msgs (d := (xs[5]'(by omega)).1) (p := (xs[5]'(by omega)).2) h5 hz0 (j := 5) rfl (by rw [List.getElem?_map, List.getElem?_eq_getElem (by omega), Option.map_some])
  have hmax : maxLen = 9223372036854775807 := rfl
  exact ⟨k, s, dd, r, a, m, cap, l, g, D, pa, pn, pc, P, qa, qn, qc, V, ma, mn, mc, C, rfl, hr, by omega, hP, hV, hC, hCs, Nat.le_trans b3 (part 3 (by omega)), Nat.le_trans b4 (part 4 (by omega)), Nat.le_trans b5 (part 5 (by omega))⟩
theorem law_PortLoses (A : Nat → Addr) (k s d r : Int) (a : Option Addr) (n cap : Nat) (g : Int) (D : ByteArray) (pa : Option Addr) (pn pc : Nat) (P : Nat → PortP) (qa : Option Addr) (qn qc : Nat) (V : Nat → PortV) (ma : Option Addr) (mn mc : Nat) (C : Nat → MsgV) (w : World)
    (h1 : RdPl w pa pn pc P) (h2 : RdPo w qa qn qc V) (h3 : RdRows w 2 ma mn mc (fun i => (C i).row)) (hs : ∀ i, i < mn → (C i).data.size < 9223372036854775808) (hpn : pn ≤ 1048576) (hmn : mn ≤ 1048576) (hE : Errs w allCodes A) (hT : TypeVar w) :
    Calls Tryd.prog 8 #[.agg (caseA k s d r a n cap g D pa pn pc qa qn qc ma mn mc)] w fun e w' => e = .returned (.bool true) ∧ Below w.heap.size w w' := by
  obtain ⟨c, pl, hA⟩ := allE_ex P V pn qn
  by_cases hc : c = 0
  · subst hc
    have hp : pl = -1 := by
      rcases allE_cases hA with ⟨h, _⟩ | ⟨_, h, _⟩
      · exact absurd rfl h
      · exact h
    subst hp
    exact law_PortLoses_good A k s d r a n cap g D pa pn pc P qa qn qc V ma mn mc C w h1 h2 h3 hs hpn hmn hE hA
  · exact law_PortLoses_bad A k s d r a n cap g D pa pn pc P qa qn qc V ma mn mc C w h1 h2 h3 hs hpn hmn hE hT c pl hA hc
theorem portLoses_door (os : Os) (args : Array Value) : laidMetH Tryd.prog Rows.portLosesUptoRow.laid ((World.doorLaid Tryd.prog 401 os).forCall (fun _ _ => 0) ⟨#[], args, []⟩).memory :=
  laidMetH_of_parts3 (fuel := 8) (laidMet_of_run' 8 (by kernel_rfl) (by kernel_rfl)) (by kernel_rfl) (by kernel_rfl)
theorem portLoses_reads (os : Os) {H : Type} (enc : TypeId × Value → H) : ∃ places, DataW.whole enc Tryd.prog ((World.doorLaid Tryd.prog 401 os).forCall (fun _ _ => 0) ⟨#[], #[.agg #[.int .i64 0, .int .i64 0, .int .i64 0, .int .i64 0, .slice none 0 0, .int .i64 0, .string ⟨#[]⟩, .slice none 0 0, .slice none 0 0, .slice none 0 0]], []⟩).memory Tryd.f8.params.toList Rows.portLosesSpec.vars false (#[.agg #[.int .i64 0, .int .i64 0, .int .i64 0, .int .i64 0, .slice none 0 0, .int .i64 0, .string ⟨#[]⟩, .slice none 0 0, .slice none 0 0, .slice none 0 0]] : Array Value).toList 8 = some ([.agg [.agg [.lit (.int .i64 0), .lit (.int .i64 0), .lit (.int .i64 0), .lit (.int .i64 0)], .agg [.nil, .lit (.int .i64 0)], .lit (.string []), .nil, .nil, .nil]], [], places) :=
  ⟨[], by kernel_rfl⟩

set_option maxRecDepth 100000 in
theorem portLoses_lifted (os : Os) (started : os.Started) (H : Type) (enc : TypeId × Value → H) (FF : Stop.Interp) :
    ReturnsInHanded {} Tryd.checked os 8 .any ((Rows.OpenSpec.upto Rows.portLosesSpec).preRow enc Tryd.prog Tryd.f8 Rows.portLosesUptoRow.domain false Rows.portLosesUptoRow.laid) (((Rows.OpenSpec.upto Rows.portLosesSpec).at FF).post enc Tryd.prog Tryd.f8 false true false false) := by
  obtain ⟨places, hx⟩ := portLoses_reads os enc
  refine returnsInHanded_of_row (C := Tryd.checked) (s := Rows.OpenSpec.upto Rows.portLosesSpec) own started (by kernel_rfl) Tryd.func8
    (witness_row_atRef (enc := enc) (C := Tryd.checked) false (World.doorLaid Tryd.prog 401 os) #[.agg #[.int .i64 0, .int .i64 0, .int .i64 0, .int .i64 0, .slice none 0 0, .int .i64 0, .string ⟨#[]⟩, .slice none 0 0, .slice none 0 0, .slice none 0 0]] rfl (by kernel_rfl) (by kernel_rfl) (by kernel_rfl)
      (OpenSpec.preRow_of_cond 8 hx (by kernel_rfl) (fun k hk => by cases hk; kernel_rfl) (by kernel_rfl) (portLoses_door os _))) ?_
  intro W base args ds gs before hval0 hW _ hcnd hsz0 hL _ _
  have hval : ∀ (j : Nat) t v, Tryd.f8.params[j]? = some t → args[j]? = some v → Value.okWide Tryd.prog W .any base t v := hval0
  have hbulk := bulks.bound (hcnd _ rfl)
  have hW' := hW
  obtain ⟨p, q, hA0, hV, rfl, hfz, hnd⟩ := hW
  have hA : DataW.TrodAll enc Tryd.prog W 0 (fun _ => true) true Tryd.f8.params.toList args.toList ds p := hA0
  have hsz : (DataW.weightsEach Tryd.prog (Tryd.f8.params.toList ++ Rows.portLosesSpec.plain.varTypes Tryd.prog) (ds ++ gs)).all (· ≤ reachBytes) = true := hsz0
  rw [Tryd.params8] at hA hval hsz
  obtain ⟨v0, vs0, d0, ds0, p0, q0, hargs, rfl, rfl, h0, r0⟩ := trodAll_cons hA
  obtain ⟨rfl, rfl, rfl⟩ := trodAll_nil r0
  obtain rfl : args = #[v0] := by cases args; simp_all
  obtain ⟨rfl, rfl⟩ := trodVars_none hV
  have k0 := h0
  have lt0 : ∀ x ∈ p0, x.block < W.heap.size := by obtain ⟨m, hm⟩ := k0; exact DataW.trod_lt m _ _ _ hm
  obtain ⟨ck, cs, cd, cr, ca, cn, cc, cl, cg, cD, pa, pn, pc, cP, qa, qn, qc, cV, ma, mn, mc, cC, rfl, w0, z0, wP, wV, wM, wS, bP, bQ, bM⟩ := open_caseT (hval 0 45 v0 rfl rfl) h0 hsz (j := 0) rfl rfl
  clear hA0 hval0 hsz0
  simp only [List.append_nil, Rows.uptoBulkAll] at hbulk
  have hL1 : laidMet Tryd.prog (Rows.portLosesUptoRow.laid.filter fun x => x.2.handleName?.isNone) W := hL.1
  obtain ⟨A, hE⟩ := errs_of_laid (S := [1, 2, 3, 4, 5, 6, 7, 8, 9, 10, 11, 12, 13, 14, 15, 16, 17, 18, 19, 20]) hL1 (by kernel_rfl) (by kernel_rfl)
  have hT : TypeVar W := typeVar_of_handles (hs := Rows.portLosesUptoRow.laid.filter fun x => x.2.handleName?.isSome) hL.2 (List.mem_filter.2 ⟨by unfold Rows.portLosesUptoRow; simp, by kernel_rfl⟩)
  refine (law_PortLoses A ck cs cd cr ca cn cc cg cD pa pn pc cP qa qn qc cV ma mn mc cC W wP wV wM wS (by omega) (by omega) hE hT).mono fun e W' ⟨he, bel⟩ => ?_
  subst he
  exact ⟨_, rfl, _, _, _, [], _, [], hW', trodAll_mk1 (shut_bool Tryd.underlying4 _), (trodAll_cons_mk (Below.trod laidOut (by kernel_rfl) (of_decide_eq_true (by kernel_rfl)) k0 bel lt0) trodAll_mk0), rfl, bel.frame _, fun h => by cases h⟩

theorem PortLoses_row : Rows.PortLosesUptoSaid :=
  OpenClaim.holds_of_cond 8 Tryd.f8 rfl rfl rfl rfl rfl rfl rfl ⟨rfl, rfl, rfl, rfl, rfl⟩ rfl rfl rfl rfl rfl (by kernel_rfl) Tryd.func8 (by kernel_rfl)
    (of_decide_eq_true (by kernel_rfl)) (by unfold Func.isWrapper; rw [if_neg (of_decide_eq_false (by kernel_rfl))]; exact ⟨rfl, rfl⟩)
    (fun os started H enc _ FF => by rw [OpenClaim.pre_eq_preRow]; exact portLoses_lifted os started H enc FF)
theorem PortLoses_holds : Rows.PortLosesUptoCardSaid :=
  Claim7.holds_tied_plain_at .later [] _ true _ true
    PortLoses_row (fun _ h => by cases h) (by kernel_rfl) (fun _ h => by cases h) portLosesUpto_row_tie rfl ⟨rfl, rfl⟩ (by kernel_rfl) rfl
    (fun f fn hf hfn => by
      obtain rfl : f = 8 := Option.some.inj ((show Tryd.prog.funcNamed "ferry/ferrylaw07.PortLoses" = some 8 by kernel_rfl).symm.trans hf) |>.symm
      obtain rfl : fn = Tryd.f8 := (Option.some.inj (Tryd.func8.symm.trans hfn)).symm
      exact ⟨by kernel_rfl, fun j t ht => by
        rw [Tryd.params8] at ht
        rcases j with _ | j
        · cases (Option.some.inj (show some 45 = some t from ht)); exact (show Tryd.prog.wantsStandIn 45 = false by kernel_rfl)
        · simp at ht⟩)
    (by kernel_rfl)
#print axioms PortLoses_holds
end Go.Proofs.YtjlgnbjfgeppcaaDoor
