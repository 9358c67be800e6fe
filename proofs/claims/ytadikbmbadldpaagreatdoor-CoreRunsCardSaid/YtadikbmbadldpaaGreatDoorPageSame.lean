
/- The same pages, the same numbers: the document's Same, the statements' ints; the program's Differ. -/
import Derived.Test.YtadikbmbadldpaaGreatDoorPageDiffer
import Derived.Test.YtadikbmbadldpaaGreatDoorLaid
namespace Go.Proofs.YtadikbmbadldpaaGreatDoor
open Go Go.RowKit
set_option linter.unusedVariables false

theorem pageLen (p : PageV) : (Tryz.prog.info? 47).map (·.size) = some p.row.length := by rw [PageV.row_length]; kernel_rfl
theorem page_at {w : World} {b o : Nat} {p : PageV} (h : w.rangeAt b o p.row) : ∀ w', (∃ n, w' = w.drewN n) → w'.rangeAt b o p.row := by
  rintro w' ⟨q, rfl⟩
  exact prange_later h (Drew.below ⟨q, rfl⟩)
theorem PageV.same_of {p q : PageV} (h : p.row = q.row) : p.same q = true := (PageV.same_iff p q).2 h
set_option maxRecDepth 100000 in
set_option maxHeartbeats 4000000 in
theorem ref_same (a1 a2 : Option Addr) (n c1 c2 : Nat) (P Q : Nat → PageV) (w : World) (h1 : RdP w a1 n c1 P) (h2 : RdP w a2 n c2 Q) (h : ∀ i, i < n → (P i).row = (Q i).row) :
    Calls Tryz.prog 12 #[.slice a1 n c1, .slice a2 n c2] w fun e w' => e = .returned (.bool true) ∧ Drew w w' := by
  have H1 := Kp.mk h1
  have H2 := Kp.mk h2
  have HS := Kp.mk h
  have hn := h1.bound
  clear h1 h2 h
  have hb : ((n : Int) != (n : Int)) = false := by simp
  have hg := guardPage
  have he := page_eq 9997
  go_enter Tryz.func12, Tryz.ntmps12
  go_wp2
  go_loopw [5] (fun i wr => ∃ k : Nat, k ≤ n ∧ i = .int .i64 k ∧ Kp (Drew w wr)) (fun i _ => n - (intOf i).toNat)
  case atStart => exact ⟨0, by omega, rfl, ⟨Drew.refl _⟩⟩
  case round =>
    obtain ⟨k, hk, rfl, HB⟩ := hrel
    by_cases hlt : k < n
    · have hb : decide ((k : Int) < n) = true := decide_eq_true (by omega)
      obtain ⟨b1, o1, ha1, _⟩ := H1.out.cells (by omega)
      obtain ⟨b2, o2, ha2, _⟩ := H2.out.cells (by omega)
      have L1 := Kp.mk (page_at (prange_later (H1.out.page ha1 k hlt) HB.out.below))
      have L2 := Kp.mk (page_at (prange_later (H2.out.page ha2 k hlt) HB.out.below))
      subst ha1
      subst ha2
      have he' := fun w => he (P k) (Q k) w
      rw [PageV.same_of (HS.out k hlt)] at he'
      clear he
      go_wp2
      refine wp_region_quiet_lit (by kernel_rfl) (by kernel_rfl) ?_
      repeat (first
        | ((first
            | (refine quiet_load rfl 47 _ rfl b1 (o1 + k * 66) rfl (P k).row _ L1.out Tryz.underlying47 rfl (pageLen _) ?_)
            | (refine quiet_load rfl 47 _ rfl b2 (o2 + k * 66) rfl (Q k).row _ L2.out Tryz.underlying47 rfl (pageLen _) ?_)); simp only [Act.put, List.setIfInBounds_toArray, List.set_cons_zero, List.set_cons_succ])
        | quiet_step (fail))
      refine wpQuiet_nil ?_
      rintro _ ⟨nq, rfl⟩
      have HB2 := Kp.mk (HB.out.trans ⟨nq, rfl⟩)
      go_wp2
      go_roundw
      case rel => exact ⟨k + 1, by omega, by go_num, HB2⟩
      case measure => simp [intOf]; omega
    · have : k = n := by omega
      subst this
      have hb : decide ((k : Int) < k) = false := by simp
      go_wp2
      go_ret
      exact ⟨rfl, HB.out⟩
theorem OwnI.cells {w : World} {B : Nat} {v : Value} {l : List Nat} (h : OwnI w B v l) : ∃ a cap, v = .slice a l.length cap ∧ (0 < l.length → ∃ g, a = some ⟨g, 0, none⟩ ∧ ∀ j, j < l.length → w.cell? ⟨g, j, none⟩ = some (.int .i64 (l.getD j 0 : Nat))) := by
  rcases h.2 with ⟨hv, h0⟩ | ⟨g, cap, cur, hv, hb, hh, hf, hm, hcs, ht⟩
  · exact ⟨none, 0, by rw [hv, h0], fun h => by omega⟩
  · refine ⟨_, _, hv, fun _ => ⟨g, rfl, fun j hj => ?_⟩⟩
    subst hv
    have hc := World.ownsRow.cellAt h j (by omega)
    rw [hc]
    simp [nv, List.getD_eq_getElem?_getD, hj]
/-- Pages that one may not compare: the error. -/
def errOf (A : Nat → Addr) : Nat → Value
  | 0 => .nilIface
  | c + 1 => errv (A (c + 1))
end Go.Proofs.YtadikbmbadldpaaGreatDoor
