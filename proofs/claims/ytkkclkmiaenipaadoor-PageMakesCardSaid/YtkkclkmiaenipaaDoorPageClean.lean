/- Clean and Written, the program's and the document's, walked. -/
import Derived.Test.YtkkclkmiaenipaaDoorRefPut
namespace Go.Proofs.YtkkclkmiaenipaaDoor
open Go Go.RowKit
set_option linter.unusedVariables false

/-- The dirty pages of the first n. -/
def dirtyL (P : Nat → PageV) : Nat → List Nat
  | 0 => []
  | n + 1 => dirtyL P n ++ bif (P n).dirty then [n] else []
theorem dirtyL_length (P : Nat → PageV) (n : Nat) : (dirtyL P n).length ≤ n := by
  induction n with
  | zero => simp [dirtyL]
  | succ n ih =>
    rw [dirtyL, List.length_append]
    cases (P n).dirty <;> simp <;> omega
theorem dirtyL_more {P : Nat → PageV} {n : Nat} (h : (P n).dirty = true) : dirtyL P (n + 1) = dirtyL P n ++ [n] := by rw [dirtyL, h]; simp
theorem dirtyL_same {P : Nat → PageV} {n : Nat} (h : (P n).dirty = false) : dirtyL P (n + 1) = dirtyL P n := by rw [dirtyL, h]; simp
/-- Pages, none of the first k dirty. -/
def cleanPg (p : PageV) : PageV := { p with dirty := false }
def cleanP (P : Nat → PageV) (k : Nat) : Nat → PageV := fun i => bif decide (i < k) then cleanPg (P i) else P i
theorem cleanP_lt {P : Nat → PageV} {k i : Nat} (h : i < k) : cleanP P k i = cleanPg (P i) := by simp [cleanP, h]
theorem cleanP_ge {P : Nat → PageV} {k i : Nat} (h : ¬ i < k) : cleanP P k i = P i := by simp [cleanP, h]
set_option maxRecDepth 100000 in
set_option maxHeartbeats 4000000 in
theorem page_clean (a : Option Addr) (n cap : Nat) (P : Nat → PageV) (w : World) (h : RdP w a n cap P) :
    Calls Tryd.prog 15 #[.slice a n cap] w fun e w' => ∃ v, e = .returned v ∧ OwnP w' w.heap.size v n (cleanP P n) ∧ Below w.heap.size w w' := by
  have K := Kp.mk (page_copy a n cap P w h)
  have hn := h.bound
  clear h
  go_enter Tryd.func15, Tryd.ntmps15
  go_wp2_with fail
  refine K.out.mono ?_
  rintro e w1 ⟨v, rfl, ho, hb⟩
  obtain ⟨a1, cap1, rfl, hrd⟩ := ho.rd hn
  have HO := Kp.mk ho
  have HB := Kp.mk hb
  clear ho hb hrd
  go_wp2
  go_loopw [4, 9] (fun _ i wr => ∃ k : Nat, k ≤ n ∧ i = .int .i64 k ∧ Kp (OwnP wr w.heap.size (.slice a1 n cap1) n (cleanP P k)) ∧ Kp (Below w.heap.size w wr)) (fun _ i _ => n - (intOf i).toNat)
  case atStart => exact ⟨0, by omega, rfl, ⟨HO.out.congr (fun i hi => by rw [cleanP_ge (by omega)])⟩, HB⟩
  case round =>
    obtain ⟨k, hk, rfl, HO, HB⟩ := hrel
    by_cases hlt : k < n
    · have hb : decide ((k : Int) < n) = true := decide_eq_true (by omega)
      obtain ⟨g, cap2, hv, hg, _⟩ := HO.out.shape (by omega)
      simp only [Value.slice.injEq, true_and] at hv
      obtain ⟨rfl, rfl⟩ := hv
      have k1 : wr.cell? ⟨g, k * 66 + 1, none⟩ = some (.bool (P k).dirty) := by
        have := HO.out.cell k 1 hlt (by decide)
        rw [cleanP_ge (by omega)] at this
        exact this
      have k2 : wr.frozen? ⟨g, k * 66 + 1, none⟩ = false := HO.out.frozen _
      obtain ⟨x, hx⟩ : ∃ x, x = (P k).dirty := ⟨_, rfl⟩
      rw [← hx] at k1
      have HO2 : Kp (OwnP (wr.setCell ⟨g, k * 66 + 1, none⟩ (.bool false)) w.heap.size (.slice (some ⟨g, 0, none⟩) n cap1) n (cleanP P (k + 1))) := ⟨by
        have := OwnP.stored HO.out k 1 hlt (by decide) (cleanPg (P k)) (.bool false) (by
          rw [cleanP_ge (by omega)]
          exact row_set_dirty (P k) _)
        refine this.congr (fun i hi => ?_)
        unfold upd
        by_cases e : i = k
        · subst e; simp only [if_true]; rw [cleanP_lt (by omega)]
        · simp only [e, if_false]
          by_cases e2 : i < k
          · rw [cleanP_lt e2, cleanP_lt (by omega)]
          · rw [cleanP_ge e2, cleanP_ge (by omega)]⟩
      have HB2 := Kp.mk (HB.out.setCell (p := ⟨g, k * 66 + 1, none⟩) hg (.bool false))
      clear hx
      go_wp2
      go_roundw
      case rel => exact ⟨k + 1, by omega, by go_num, HO2, HB2⟩
      case measure => simp [intOf]; omega
    · have : k = n := by omega
      subst this
      have hb : decide ((k : Int) < k) = false := by simp
      go_wp2
      go_ret
      exact ⟨_, rfl, HO.out, HB.out⟩
set_option maxRecDepth 100000 in
set_option maxHeartbeats 4000000 in
theorem ref_clean (a : Option Addr) (n cap : Nat) (P : Nat → PageV) (w : World) (h : RdP w a n cap P) :
    Calls Tryd.prog 40 #[.slice a n cap] w fun e w' => ∃ v, e = .returned v ∧ OwnP w' w.heap.size v n (cleanP P n) ∧ Below w.heap.size w w' := by
  have K := Kp.mk (ref_copy a n cap P w h)
  have hn := h.bound
  clear h
  go_enter Tryd.func40, Tryd.ntmps40
  go_wp2_with fail
  refine K.out.mono ?_
  rintro e w1 ⟨v, rfl, ho, hb⟩
  obtain ⟨a1, cap1, rfl, hrd⟩ := ho.rd hn
  have HO := Kp.mk ho
  have HB := Kp.mk hb
  clear ho hb hrd
  go_wp2
  go_loopw [4] (fun i wr => ∃ k : Nat, k ≤ n ∧ i = .int .i64 k ∧ Kp (OwnP wr w.heap.size (.slice a1 n cap1) n (cleanP P k)) ∧ Kp (Below w.heap.size w wr)) (fun i _ => n - (intOf i).toNat)
  case atStart => exact ⟨0, by omega, rfl, ⟨HO.out.congr (fun i hi => by rw [cleanP_ge (by omega)])⟩, HB⟩
  case round =>
    obtain ⟨k, hk, rfl, HO, HB⟩ := hrel
    by_cases hlt : k < n
    · have hb : decide ((k : Int) < n) = true := decide_eq_true (by omega)
      obtain ⟨g, cap2, hv, hg, _⟩ := HO.out.shape (by omega)
      simp only [Value.slice.injEq, true_and] at hv
      obtain ⟨rfl, rfl⟩ := hv
      have k1 : wr.cell? ⟨g, k * 66 + 1, none⟩ = some (.bool (P k).dirty) := by
        have := HO.out.cell k 1 hlt (by decide)
        rw [cleanP_ge (by omega)] at this
        exact this
      have k2 : wr.frozen? ⟨g, k * 66 + 1, none⟩ = false := HO.out.frozen _
      obtain ⟨x, hx⟩ : ∃ x, x = (P k).dirty := ⟨_, rfl⟩
      rw [← hx] at k1
      have HO2 : Kp (OwnP (wr.setCell ⟨g, k * 66 + 1, none⟩ (.bool false)) w.heap.size (.slice (some ⟨g, 0, none⟩) n cap1) n (cleanP P (k + 1))) := ⟨by
        have := OwnP.stored HO.out k 1 hlt (by decide) (cleanPg (P k)) (.bool false) (by
          rw [cleanP_ge (by omega)]
          exact row_set_dirty (P k) _)
        refine this.congr (fun i hi => ?_)
        unfold upd
        by_cases e : i = k
        · subst e; simp only [if_true]; rw [cleanP_lt (by omega)]
        · simp only [e, if_false]
          by_cases e2 : i < k
          · rw [cleanP_lt e2, cleanP_lt (by omega)]
          · rw [cleanP_ge e2, cleanP_ge (by omega)]⟩
      have HB2 := Kp.mk (HB.out.setCell (p := ⟨g, k * 66 + 1, none⟩) hg (.bool false))
      clear hx
      go_wp2
      go_roundw
      case rel => exact ⟨k + 1, by omega, by go_num, HO2, HB2⟩
      case measure => simp [intOf]; omega
    · have : k = n := by omega
      subst this
      have hb : decide ((k : Int) < k) = false := by simp
      go_wp2
      go_ret
      exact ⟨_, rfl, HO.out, HB.out⟩
set_option maxRecDepth 100000 in
set_option maxHeartbeats 4000000 in
theorem page_written (a : Option Addr) (n cap : Nat) (P : Nat → PageV) (w : World) (h : RdP w a n cap P) :
    Calls Tryd.prog 21 #[.slice a n cap] w fun e w' => ∃ v, e = .returned v ∧ OwnI w' w.heap.size v (dirtyL P n) ∧ Below w.heap.size w w' := by
  have H0 := Kp.mk h
  have hn := h.bound
  clear h
  go_enter Tryd.func21, Tryd.ntmps21
  go_wp2
  go_loopw [3, 4, 7] (fun v _ i wr => ∃ k : Nat, k ≤ n ∧ i = .int .i64 k ∧ Kp (OwnI wr w.heap.size v (dirtyL P k)) ∧ Kp (Below w.heap.size w wr)) (fun _ _ i _ => n - (intOf i).toNat)
  case atStart => exact ⟨0, by omega, rfl, ⟨OwnI.nil _ _⟩, ⟨Below.refl _ _⟩⟩
  case round =>
    obtain ⟨k, hk, rfl, HO, HB⟩ := hrel
    by_cases hlt : k < n
    · have hb : decide ((k : Int) < n) = true := decide_eq_true (by omega)
      obtain ⟨b, off, ha, hcell⟩ := H0.out.cells (by omega)
      have hc0 : w.cell? ⟨b, off + k * 66 + 1, none⟩ = some (.bool (P k).dirty) := hcell k hlt 1 _ rfl
      have hc : wr.cell? ⟨b, off + k * 66 + 1, none⟩ = some (.bool (P k).dirty) := (HB.out.cell (p := ⟨b, off + k * 66 + 1, none⟩) (World.block_lt_of_cell? _ ⟨b, off + k * 66 + 1, none⟩ hc0)).trans hc0
      subst ha
      obtain ⟨d, hd⟩ : ∃ d, d = (P k).dirty := ⟨_, rfl⟩
      have HD := Kp.mk hd
      have HLen := Kp.mk (dirtyL_length P k)
      rw [← hd] at hc
      clear hd hc0 hcell
      cases d
      · have HO3 : Kp (OwnI wr w.heap.size _ (dirtyL P (k + 1))) := ⟨by rw [dirtyL_same HD.out.symm]; exact HO.out⟩
        go_wp2
        go_roundw
        case rel => exact ⟨k + 1, by omega, by go_num, HO3, HB⟩
        case measure => simp [intOf]; omega
      · go_wp2_with (refine append_num rfl _ _ rfl wr k rfl w.heap.size _ (dirtyL P k) rfl HO.out rfl (by have := HLen.out; omega) HB.out.size ?_; rintro v' w3 ho3 hb3)
        have HO3 : Kp (OwnI w3 w.heap.size v' (dirtyL P (k + 1))) := ⟨by rw [dirtyL_more HD.out.symm]; exact ho3⟩
        have HB3 := Kp.mk (HB.out.trans hb3)
        clear ho3 hb3
        go_roundw
        case rel => exact ⟨k + 1, by omega, by go_num, HO3, HB3⟩
        case measure => simp [intOf]; omega
    · have : k = n := by omega
      subst this
      have hb : decide ((k : Int) < k) = false := by simp
      go_wp2
      go_ret
      exact ⟨_, rfl, HO.out, HB.out⟩
set_option maxRecDepth 100000 in
set_option maxHeartbeats 4000000 in
theorem ref_written (a : Option Addr) (n cap : Nat) (P : Nat → PageV) (w : World) (h : RdP w a n cap P) :
    Calls Tryd.prog 41 #[.slice a n cap] w fun e w' => ∃ v, e = .returned v ∧ OwnI w' w.heap.size v (dirtyL P n) ∧ Below w.heap.size w w' := by
  have H0 := Kp.mk h
  have hn := h.bound
  clear h
  go_enter Tryd.func41, Tryd.ntmps41
  go_wp2
  go_loopw [3, 4] (fun v i wr => ∃ k : Nat, k ≤ n ∧ i = .int .i64 k ∧ Kp (OwnI wr w.heap.size v (dirtyL P k)) ∧ Kp (Below w.heap.size w wr)) (fun _ i _ => n - (intOf i).toNat)
  case atStart => exact ⟨0, by omega, rfl, ⟨OwnI.nil _ _⟩, ⟨Below.refl _ _⟩⟩
  case round =>
    obtain ⟨k, hk, rfl, HO, HB⟩ := hrel
    by_cases hlt : k < n
    · have hb : decide ((k : Int) < n) = true := decide_eq_true (by omega)
      obtain ⟨b, off, ha, hcell⟩ := H0.out.cells (by omega)
      have hc0 : w.cell? ⟨b, off + k * 66 + 1, none⟩ = some (.bool (P k).dirty) := hcell k hlt 1 _ rfl
      have hc : wr.cell? ⟨b, off + k * 66 + 1, none⟩ = some (.bool (P k).dirty) := (HB.out.cell (p := ⟨b, off + k * 66 + 1, none⟩) (World.block_lt_of_cell? _ ⟨b, off + k * 66 + 1, none⟩ hc0)).trans hc0
      subst ha
      obtain ⟨d, hd⟩ : ∃ d, d = (P k).dirty := ⟨_, rfl⟩
      have HD := Kp.mk hd
      have HLen := Kp.mk (dirtyL_length P k)
      rw [← hd] at hc
      clear hd hc0 hcell
      cases d
      · have HO3 : Kp (OwnI wr w.heap.size _ (dirtyL P (k + 1))) := ⟨by rw [dirtyL_same HD.out.symm]; exact HO.out⟩
        go_wp2
        go_roundw
        case rel => exact ⟨k + 1, by omega, by go_num, HO3, HB⟩
        case measure => simp [intOf]; omega
      · go_wp2_with (refine append_num rfl _ _ rfl wr k rfl w.heap.size _ (dirtyL P k) rfl HO.out rfl (by have := HLen.out; omega) HB.out.size ?_; rintro v' w3 ho3 hb3)
        have HO3 : Kp (OwnI w3 w.heap.size v' (dirtyL P (k + 1))) := ⟨by rw [dirtyL_more HD.out.symm]; exact ho3⟩
        have HB3 := Kp.mk (HB.out.trans hb3)
        clear ho3 hb3
        go_roundw
        case rel => exact ⟨k + 1, by omega, by go_num, HO3, HB3⟩
        case measure => simp [intOf]; omega
    · have : k = n := by omega
      subst this
      have hb : decide ((k : Int) < k) = false := by simp
      go_wp2
      go_ret
      exact ⟨_, rfl, HO.out, HB.out⟩
end Go.Proofs.YtkkclkmiaenipaaDoor
