/- The same pages, the same numbers: the document's Same, the statements' ints; the program's Differ. -/
import Derived.Test.YtkkclkmiaenipaaDoorPageDiffer
import Derived.Test.YtkkclkmiaenipaaDoorLaid
namespace Go.Proofs.YtkkclkmiaenipaaDoor
open Go Go.RowKit
set_option linter.unusedVariables false

theorem pageLen (p : PageV) : (Tryd.prog.info? 36).map (·.size) = some p.row.length := by rw [PageV.row_length]; kernel_rfl
theorem page_at {w : World} {b o : Nat} {p : PageV} (h : w.rangeAt b o p.row) : ∀ w', (∃ n, w' = w.drewN n) → w'.rangeAt b o p.row := by
  rintro w' ⟨q, rfl⟩
  exact prange_later h (Drew.below ⟨q, rfl⟩)
theorem PageV.same_of {p q : PageV} (h : p.row = q.row) : p.same q = true := (PageV.same_iff p q).2 h
set_option maxRecDepth 100000 in
set_option maxHeartbeats 4000000 in
theorem ref_same (a1 a2 : Option Addr) (n c1 c2 : Nat) (P Q : Nat → PageV) (w : World) (h1 : RdP w a1 n c1 P) (h2 : RdP w a2 n c2 Q) (h : ∀ i, i < n → (P i).row = (Q i).row) :
    Calls Tryd.prog 25 #[.slice a1 n c1, .slice a2 n c2] w fun e w' => e = .returned (.bool true) ∧ Drew w w' := by
  have H1 := Kp.mk h1
  have H2 := Kp.mk h2
  have HS := Kp.mk h
  have hn := h1.bound
  clear h1 h2 h
  have hb : ((n : Int) != (n : Int)) = false := by simp
  have hg := guardPage
  have he := page_eq 9997
  go_enter Tryd.func25, Tryd.ntmps25
  go_wp2
  go_loopw [5] (fun i wr => ∃ k : Nat, k ≤ n ∧ i = .int .i64 k ∧ Kp (Drew w wr)) (fun i _ => n - (intOf i).toNat)
  case atStart => exact ⟨0, by omega, rfl, ⟨Drew.refl _⟩⟩
  case round =>
    obtain ⟨k, hk, rfl, HB⟩ := hrel
    by_cases hlt : k < n
    · have hb : decide ((k : Int) < n) = true := decide_eq_true (by omega)
      obtain ⟨b1, o1, ha1, _⟩ := H1.out.cells (by omega)
      obtain ⟨b2, o2, ha2, _⟩ := H2.out.cells (by omega)
      have L1 := Kp.mk (page_at (prange_later (H1.out.page ha1 k hlt) HB.out.below))
      have L2 := Kp.mk (page_at (prange_later (H2.out.page ha2 k hlt) HB.out.below))
      subst ha1
      subst ha2
      have he' := fun w => he (P k) (Q k) w
      rw [PageV.same_of (HS.out k hlt)] at he'
      clear he
      go_wp2
      refine wp_region_quiet_lit (by kernel_rfl) (by kernel_rfl) ?_
      repeat (first
        | ((first
            | (refine quiet_load rfl 36 _ rfl b1 (o1 + k * 66) rfl (P k).row _ L1.out Tryd.underlying36 rfl (pageLen _) ?_)
            | (refine quiet_load rfl 36 _ rfl b2 (o2 + k * 66) rfl (Q k).row _ L2.out Tryd.underlying36 rfl (pageLen _) ?_)); simp only [Act.put, List.setIfInBounds_toArray, List.set_cons_zero, List.set_cons_succ])
        | quiet_step (fail))
      refine wpQuiet_nil ?_
      rintro _ ⟨nq, rfl⟩
      have HB2 := Kp.mk (HB.out.trans ⟨nq, rfl⟩)
      go_wp2
      go_roundw
      case rel => exact ⟨k + 1, by omega, by go_num, HB2⟩
      case measure => simp [intOf]; omega
    · have : k = n := by omega
      subst this
      have hb : decide ((k : Int) < k) = false := by simp
      go_wp2
      go_ret
      exact ⟨rfl, HB.out⟩
theorem OwnI.cells {w : World} {B : Nat} {v : Value} {l : List Nat} (h : OwnI w B v l) : ∃ a cap, v = .slice a l.length cap ∧ (0 < l.length → ∃ g, a = some ⟨g, 0, none⟩ ∧ ∀ j, j < l.length → w.cell? ⟨g, j, none⟩ = some (.int .i64 (l.getD j 0 : Nat))) := by
  rcases h.2 with ⟨hv, h0⟩ | ⟨g, cap, cur, hv, hb, hh, hf, hm, hcs, ht⟩
  · exact ⟨none, 0, by rw [hv, h0], fun h => by omega⟩
  · refine ⟨_, _, hv, fun _ => ⟨g, rfl, fun j hj => ?_⟩⟩
    subst hv
    have hc := World.ownsRow.cellAt h j (by omega)
    rw [hc]
    simp [nv, List.getD_eq_getElem?_getD, hj]
set_option maxRecDepth 100000 in
set_option maxHeartbeats 4000000 in
theorem law_ints (v1 v2 : Value) (l : List Nat) (B1 B2 : Nat) (w : World) (h1 : OwnI w B1 v1 l) (h2 : OwnI w B2 v2 l) (hl : l.length ≤ 17592186044416) :
    Calls Tryd.prog 30 #[v1, v2] w fun e w' => e = .returned (.bool true) ∧ Drew w w' := by
  obtain ⟨a1, c1, rfl, e1⟩ := h1.cells
  obtain ⟨a2, c2, rfl, e2⟩ := h2.cells
  obtain ⟨n, hn⟩ : ∃ n, n = l.length := ⟨_, rfl⟩
  rw [← hn] at e1 e2 hl ⊢
  have E1 := Kp.mk e1
  have E2 := Kp.mk e2
  clear e1 e2 h1 h2 hn
  have hb : ((n : Int) != (n : Int)) = false := by simp
  go_enter Tryd.func30, Tryd.ntmps30
  go_wp2
  go_loopw [5] (fun i wr => ∃ k : Nat, k ≤ n ∧ i = .int .i64 k ∧ Kp (Drew w wr)) (fun i _ => n - (intOf i).toNat)
  case atStart => exact ⟨0, by omega, rfl, ⟨Drew.refl _⟩⟩
  case round =>
    obtain ⟨k, hk, rfl, HB⟩ := hrel
    by_cases hlt : k < n
    · have hb : decide ((k : Int) < n) = true := decide_eq_true (by omega)
      obtain ⟨g1, ha1, c1⟩ := E1.out (by omega)
      obtain ⟨g2, ha2, c2⟩ := E2.out (by omega)
      have f1 := c1 k hlt
      have f2 := c2 k hlt
      obtain ⟨x, hx⟩ : ∃ x : Int, x = ((l.getD k 0 : Nat) : Int) := ⟨_, rfl⟩
      rw [← hx] at f1 f2
      subst ha1
      subst ha2
      have r1 : wr.cell? ⟨g1, k, none⟩ = some (.int .i64 x) := (HB.out.below.cell (p := ⟨g1, k, none⟩) (World.block_lt_of_cell? _ ⟨g1, k, none⟩ f1)).trans f1
      have r2 : wr.cell? ⟨g2, k, none⟩ = some (.int .i64 x) := (HB.out.below.cell (p := ⟨g2, k, none⟩) (World.block_lt_of_cell? _ ⟨g2, k, none⟩ f2)).trans f2
      have hxx : (x != x) = false := by simp
      clear f1 f2 c1 c2 hx
      go_wp2
      go_quiet (fail)
      have HB2 := Kp.mk (HB.out.trans ⟨nq, rfl⟩)
      go_wp2
      go_roundw
      case rel => exact ⟨k + 1, by omega, by go_num, HB2⟩
      case measure => simp [intOf]; omega
    · have : k = n := by omega
      subst this
      have hb : decide ((k : Int) < k) = false := by simp
      go_wp2
      go_ret
      exact ⟨rfl, HB.out⟩
/-- Pages that one may not compare: the error. -/
def errOf (A : Nat → Addr) : Nat → Value
  | 0 => .nilIface
  | c + 1 => errv (A (c + 1))
set_option maxRecDepth 100000 in
set_option maxHeartbeats 4000000 in
theorem page_differ (A : Nat → Addr) (a1 a2 : Option Addr) (n m c1 c2 : Nat) (P Q : Nat → PageV) (w : World) (h1 : RdP w a1 n c1 P) (h2 : RdP w a2 m c2 Q) (L : List Nat) (c : Nat)
    (h : (n = m ∧ L = diffs P Q n ∧ c = 0) ∨ (n ≠ m ∧ L = [] ∧ c = 5)) (hE : Errs w [5] A) :
    Calls Tryd.prog 20 #[.slice a1 n c1, .slice a2 m c2] w fun e w' => ∃ v, e = .returned (.tuple #[v, errOf A c]) ∧ OwnI w' w.heap.size v L ∧ Below w.heap.size w w' := by
  have H1 := Kp.mk h1
  have H2 := Kp.mk h2
  have hn := h1.bound
  clear h1 h2
  rcases h with ⟨rfl, hL, rfl⟩ | ⟨hne, rfl, rfl⟩
  · have HL := Kp.mk hL
    clear hL hE
    have hb : ((n : Int) != (n : Int)) = false := by simp
    have hg := guardData
    have he := data_eq 9998
    go_enter Tryd.func20, Tryd.ntmps20
    go_wp2
    go_loopw [6, 7, 16] (fun v _ i wr => ∃ k : Nat, k ≤ n ∧ i = .int .i64 k ∧ Kp (OwnI wr w.heap.size v (diffs P Q k)) ∧ Kp (Below w.heap.size w wr)) (fun _ _ i _ => n - (intOf i).toNat)
    case atStart => exact ⟨0, by omega, rfl, ⟨OwnI.nil _ _⟩, ⟨Below.refl _ _⟩⟩
    case round =>
      obtain ⟨k, hk, rfl, HO, HB⟩ := hrel
      by_cases hlt : k < n
      · have hb : decide ((k : Int) < n) = true := decide_eq_true (by omega)
        obtain ⟨b1, o1, ha1, _⟩ := H1.out.cells (by omega)
        obtain ⟨b2, o2, ha2, _⟩ := H2.out.cells (by omega)
        have L1 := Kp.mk (data_at (prange_later (H1.out.page ha1 k hlt) HB.out))
        have L2 := Kp.mk (data_at (prange_later (H2.out.page ha2 k hlt) HB.out))
        subst ha1
        subst ha2
        obtain ⟨d, hd⟩ : ∃ d, d = dataEq (P k).data (Q k).data := ⟨_, rfl⟩
        have HD := Kp.mk hd
        have he' := fun w => he (P k).data (Q k).data w
        rw [← hd] at he'
        clear he hd
        go_wp2
        refine wp_region_quiet_lit (by kernel_rfl) (by kernel_rfl) ?_
        repeat (first
          | ((first
              | (refine quiet_load rfl 34 _ rfl b1 (o1 + k * 66 + 2) rfl (dataL (P k).data) _ L1.out Tryd.underlying34 rfl (dataLen _) ?_)
              | (refine quiet_load rfl 34 _ rfl b2 (o2 + k * 66 + 2) rfl (dataL (Q k).data) _ L2.out Tryd.underlying34 rfl (dataLen _) ?_)); simp only [Act.put, List.setIfInBounds_toArray, List.set_cons_zero, List.set_cons_succ])
          | quiet_step (fail))
        refine wpQuiet_nil ?_
        rintro _ ⟨nq, rfl⟩
        have HD1 := Kp.mk (Drew.below (w := wr) ⟨nq, rfl⟩)
        obtain ⟨w2, hw2⟩ : ∃ w2, w2 = wr.drewN nq := ⟨_, rfl⟩
        rw [← hw2] at HD1 ⊢
        clear hw2
        have HO2 := Kp.mk (HO.out.later HD1.out)
        have HB2 := Kp.mk (HB.out.trans (HD1.out.mono HB.out.size))
        have HLen := Kp.mk (diffs_length P Q k)
        cases d
        · go_wp2_with (refine append_num rfl _ _ rfl w2 k rfl w.heap.size _ (diffs P Q k) rfl HO2.out rfl (by have := HLen.out; omega) HB2.out.size ?_; rintro v' w3 ho3 hb3)
          have HO3 : Kp (OwnI w3 w.heap.size v' (diffs P Q (k + 1))) := ⟨by rw [diffs_more HD.out.symm]; exact ho3⟩
          have HB3 := Kp.mk (HB2.out.trans hb3)
          clear ho3 hb3
          go_roundw
          case rel => exact ⟨k + 1, by omega, by go_num, HO3, HB3⟩
          case measure => simp [intOf]; omega
        · have HO3 : Kp (OwnI w2 w.heap.size u6 (diffs P Q (k + 1))) := ⟨by rw [diffs_same HD.out.symm]; exact HO2.out⟩
          go_wp2
          go_roundw
          case rel => exact ⟨k + 1, by omega, by go_num, HO3, HB2⟩
          case measure => simp [intOf]; omega
      · have : k = n := by omega
        subst this
        have hb : decide ((k : Int) < k) = false := by simp
        go_wp2
        go_ret2
        exact ⟨_, rfl, by rw [HL.out]; exact HO.out, HB.out⟩
  · have hb : ((n : Int) != (m : Int)) = true := by simp; omega
    have hc : w.cell? ⟨1, 0, none⟩ = some (errv (A 5)) := hE.cell 5 (by decide)
    clear hE
    go_enter Tryd.func20, Tryd.ntmps20
    go_wp2
    go_quiet (fail)
    go_wp2
    go_ret2
    exact ⟨_, rfl, OwnI.nil _ _, Drew.below ⟨nq, rfl⟩⟩
end Go.Proofs.YtkkclkmiaenipaaDoor
