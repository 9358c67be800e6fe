/- Numbers of many words added, taken away and compared: walked. -/
import Derived.Test.YtpihlaeioepbpaaDoorLongPure
import Derived.Test.YtpihlaeioepbpaaDoorWords
import Derived.Deep.QuietTactic
import Derived.BigQuiet
namespace Go.Proofs.YtpihlaeioepbpaaDoor
open Go Go.RowKit
set_option linter.unusedVariables false

set_option maxRecDepth 100000 in
theorem law_same (a b : Option Addr) (n na m mb : Nat) (l k : List (BitVec 32)) (w : World) (h1 : RdW w a n na l) (h2 : RdW w b m mb k) (hlk : l = k) :
    Calls Tryd.prog 26 #[.slice a n na, .slice b m mb] w fun e w' => e = .returned (.bool true) ∧ Drew w w' := by
  have hn := h1.bound
  have hl : n = m := by rw [← h1.len, ← h2.len, hlk]
  subst hl
  have H1 := Kp.mk h1
  have H2 := Kp.mk h2
  have HLK := Kp.mk hlk
  clear h1 h2 hlk
  have hb : ((n : Int) != (n : Int)) = false := by simp
  go_enter Tryd.func26, Tryd.ntmps26
  go_wp2
  go_loopw [5] (fun i wr => ∃ j : Nat, j ≤ n ∧ i = .int .i64 j ∧ Kp (Drew w wr)) (fun i _ => n - (intOf i).toNat)
  case atStart => exact ⟨0, by omega, rfl, ⟨Drew.refl _⟩⟩
  case round =>
    obtain ⟨j, hj, rfl, HD⟩ := hrel
    obtain ⟨q, rfl⟩ := HD.out
    by_cases hlt : j < n
    · have hbt : decide ((j : Int) < n) = true := decide_eq_true (by omega)
      obtain ⟨b1, o1, rfl, c1⟩ := H1.out.cells (by omega)
      obtain ⟨b2, o2, rfl, c2⟩ := H2.out.cells (by omega)
      have d1 := c1 j hlt
      have d2 := c2 j hlt
      rw [← HLK.out] at d2
      obtain ⟨x, hx⟩ : ∃ x, x = l.getD j 0#32 := ⟨_, rfl⟩
      rw [← hx] at d1 d2
      have hne : ((x.toNat : Int) != (x.toNat : Int)) = false := by simp
      clear hx c1 c2
      go_wp2
      go_quiet (fail)
      go_wp2
      go_roundw
      case rel => exact ⟨j + 1, by omega, by go_num, ⟨_, rfl⟩⟩
      case measure => simp [intOf]; omega
    · have : j = n := by omega
      subst this
      have hbt : decide ((j : Int) < j) = false := decide_eq_false (by omega)
      go_wp2
      go_ret
      exact ⟨rfl, ⟨_, rfl⟩⟩
theorem grown_drawn {w w1 w4 : World} {q : Nat} {ob : Obj} {row : Option Nat} (h : Below w.heap.size w w1) (hg : ((w1.drewN q).alloc ob).grownBy w4 row) (hr : ∀ k, row = some k → w.heap.size ≤ k) : Below w.heap.size w w4 := by
  have bd := h.trans ((Drew.below (w := w1) ⟨q, rfl⟩).mono h.size)
  have ba := bd.alloc bd.size ob
  exact ba.grown hg ba.size hr
theorem alu_add_is (b c : BitVec 32) (k : Bool) (w : World) :
    Calls Tryd.prog 28 #[.int .u32 (b.toNat : Int), .int .u32 (c.toNat : Int), .bool k] w fun e w' => e = .returned (.tuple #[.int .u32 ((Alu.adc b c k).1.toNat : Int), .bool (Alu.adc b c k).2]) ∧ w' = w := by
  refine (alu_add b c k w).mono ?_
  rintro e w' ⟨s, o, rfl, hs, rfl⟩
  obtain ⟨e1, e2⟩ := Alu.adc_of hs
  exact ⟨by rw [e1, e2], rfl⟩
theorem alu_sub_is (s b c : BitVec 32) (k : Bool) (w : World) (h : s = (Alu.adc b c k).1) :
    Calls Tryd.prog 38 #[.int .u32 (s.toNat : Int), .int .u32 (c.toNat : Int), .bool k] w fun e w' => e = .returned (.tuple #[.int .u32 (b.toNat : Int), .bool (Alu.adc b c k).2]) ∧ w' = w := by
  refine (alu_sub s c k w).mono ?_
  rintro e w' ⟨d, o, rfl, hs, rfl⟩
  obtain ⟨e1, e2⟩ := Alu.sbb_of h hs
  exact ⟨by rw [e1, e2], rfl⟩
set_option maxRecDepth 100000 in
set_option maxHeartbeats 1000000 in
theorem law_plus (a b : Option Addr) (n na nb : Nat) (l k : List (BitVec 32)) (w : World) (h1 : RdW w a n na l) (h2 : RdW w b n nb k) :
    Calls Tryd.prog 25 #[.slice a n na, .slice b n nb, .bool false] w fun e w' => ∃ v, e = .returned (.tuple #[v, .bool (Alu.addTo l k n).2]) ∧ w'.ownsRow w.heap.size 22 1 v n (wv (Alu.addTo l k n).1) ∧ Below w.heap.size w w' := by
  have hn := h1.bound
  have H1 := Kp.mk h1
  have H2 := Kp.mk h2
  clear h1 h2
  go_enter Tryd.func25, Tryd.ntmps25
  go_wp2
  go_loopw [8, 9, 10] (fun s c i wr => ∃ j : Nat, j ≤ n ∧ i = .int .i64 j ∧ c = .bool (Alu.addTo l k j).2 ∧ Kp (wr.ownsRow w.heap.size 22 1 s j (wv (Alu.addTo l k j).1)) ∧ Kp (Below w.heap.size w wr)) (fun _ _ i _ => n - (intOf i).toNat)
  case atStart => exact ⟨0, by omega, rfl, rfl, ⟨World.ownsRow_nil w _ _ _⟩, ⟨Below.refl _ _⟩⟩
  case round =>
    obtain ⟨j, hj, rfl, rfl, HO, HB⟩ := hrel
    obtain ⟨w1, rfl⟩ : ∃ w1 : World, w1 = wr := ⟨_, rfl⟩
    by_cases hlt : j < n
    · have hbt : decide ((j : Int) < n) = true := decide_eq_true (by omega)
      obtain ⟨b1, o1, rfl, c1⟩ := (H1.out.later HB.out).cells (by omega)
      obtain ⟨b2, o2, rfl, c2⟩ := (H2.out.later HB.out).cells (by omega)
      have d1 := c1 j hlt
      have d2 := c2 j hlt
      obtain ⟨x, hx⟩ : ∃ x, x = l.getD j 0#32 := ⟨_, rfl⟩
      obtain ⟨y, hy⟩ : ∃ y, y = k.getD j 0#32 := ⟨_, rfl⟩
      obtain ⟨c, hc⟩ : ∃ c, c = (Alu.addTo l k j).2 := ⟨_, rfl⟩
      rw [← hx] at d1
      rw [← hy] at d2
      rw [← hc]
      obtain ⟨s, hs⟩ : ∃ s, s = (Alu.adc x y c).1 := ⟨_, rfl⟩
      obtain ⟨o, ho⟩ : ∃ o, o = (Alu.adc x y c).2 := ⟨_, rfl⟩
      have C := fun w => alu_add_is x y c w
      rw [← hs, ← ho] at C
      have K := Kp.mk C
      have HN : Kp ((Alu.addTo l k (j + 1)).1 = (Alu.addTo l k j).1 ++ [s] ∧ (Alu.addTo l k (j + 1)).2 = o) := ⟨by rw [hs, ho, hx, hy, hc]; exact ⟨rfl, rfl⟩⟩
      clear hx hy hc c1 c2 hs ho C
      go_wp2
      go_quiet ((go_at_call 28; exact (K.out _).mono (fun _ _ h => ⟨h.1, ⟨_, h.2⟩⟩)))
      go_wp2_with (at_builtin; refine append_words rfl _ _ rfl w.heap.size _ j (wv (Alu.addTo l k j).1) rfl ((wown_later HO.out (Drew.below ⟨_, rfl⟩)).alloc _) _ 1 1 [s] rfl (RdW.lit1 _ s) (by omega) ?_ ?_; exact Nat.le_trans HB.out.size (Nat.le_trans (Drew.below (w := w1) ⟨_, rfl⟩).size ((Below.refl _ _).alloc (Nat.le_refl _) _).size); intro v' w4 hown hg)
      have HO4 := Kp.mk hown
      have HB4 := Kp.mk (grown_drawn HB.out hg (fun i hi => (HO.out.lt i hi).1))
      clear hown hg
      go_roundw
      case rel => exact ⟨j + 1, by omega, by go_num, by rw [HN.out.2], ⟨by rw [HN.out.1, wv_append]; exact HO4.out⟩, HB4⟩
      case measure => simp [intOf]; omega
    · have : j = n := by omega
      subst this
      have hbt : decide ((j : Int) < j) = false := decide_eq_false (by omega)
      go_wp2
      go_ret2
      exact ⟨_, rfl, HO.out, HB.out⟩
set_option maxRecDepth 100000 in
set_option maxHeartbeats 1000000 in
theorem law_minus (a b : Option Addr) (n na nb : Nat) (l k : List (BitVec 32)) (w : World) (h1 : RdW w a n na (Alu.addTo l k n).1) (h2 : RdW w b n nb k) (hl : l.length = n) :
    Calls Tryd.prog 25 #[.slice a n na, .slice b n nb, .bool true] w fun e w' => ∃ v, e = .returned (.tuple #[v, .bool (Alu.addTo l k n).2]) ∧ w'.ownsRow w.heap.size 22 1 v n (wv l) ∧ Below w.heap.size w w' := by
  have hn := h1.bound
  have H1 := Kp.mk h1
  have H2 := Kp.mk h2
  have HL := Kp.mk hl
  clear h1 h2 hl
  go_enter Tryd.func25, Tryd.ntmps25
  go_wp2
  go_loopw [8, 9, 10] (fun s c i wr => ∃ j : Nat, j ≤ n ∧ i = .int .i64 j ∧ c = .bool (Alu.addTo l k j).2 ∧ Kp (wr.ownsRow w.heap.size 22 1 s j (wv (l.take j))) ∧ Kp (Below w.heap.size w wr)) (fun _ _ i _ => n - (intOf i).toNat)
  case atStart => exact ⟨0, by omega, rfl, rfl, ⟨by rw [List.take_zero]; exact World.ownsRow_nil w _ _ _⟩, ⟨Below.refl _ _⟩⟩
  case round =>
    obtain ⟨j, hj, rfl, rfl, HO, HB⟩ := hrel
    obtain ⟨w1, rfl⟩ : ∃ w1 : World, w1 = wr := ⟨_, rfl⟩
    by_cases hlt : j < n
    · have hbt : decide ((j : Int) < n) = true := decide_eq_true (by omega)
      obtain ⟨b1, o1, rfl, c1⟩ := (H1.out.later HB.out).cells (by omega)
      obtain ⟨b2, o2, rfl, c2⟩ := (H2.out.later HB.out).cells (by omega)
      have d1 := c1 j hlt
      have d2 := c2 j hlt
      rw [Alu.addTo_get l k n j hlt] at d1
      obtain ⟨x, hx⟩ : ∃ x, x = l.getD j 0#32 := ⟨_, rfl⟩
      obtain ⟨y, hy⟩ : ∃ y, y = k.getD j 0#32 := ⟨_, rfl⟩
      obtain ⟨c, hc⟩ : ∃ c, c = (Alu.addTo l k j).2 := ⟨_, rfl⟩
      rw [← hy] at d2
      rw [← hc]
      rw [← hx, ← hy, ← hc] at d1
      obtain ⟨s, hs⟩ : ∃ s, s = (Alu.adc x y c).1 := ⟨_, rfl⟩
      obtain ⟨o, ho⟩ : ∃ o, o = (Alu.adc x y c).2 := ⟨_, rfl⟩
      rw [← hs] at d1
      have C := fun w => alu_sub_is s x y c w hs
      rw [← ho] at C
      have K := Kp.mk C
      have HN : Kp (l.take (j + 1) = l.take j ++ [x] ∧ (Alu.addTo l k (j + 1)).2 = o) := ⟨by rw [ho, hx, hy, hc]; exact ⟨Alu.take_snoc l j (by rw [HL.out]; exact hlt), rfl⟩⟩
      clear hx hy hc c1 c2 hs ho C
      go_wp2
      go_quiet ((go_at_call 38; exact (K.out _).mono (fun _ _ h => ⟨h.1, ⟨_, h.2⟩⟩)))
      go_wp2_with (at_builtin; refine append_words rfl _ _ rfl w.heap.size _ j (wv (l.take j)) rfl ((wown_later HO.out (Drew.below ⟨_, rfl⟩)).alloc _) _ 1 1 [x] rfl (RdW.lit1 _ x) (by omega) ?_ ?_; exact Nat.le_trans HB.out.size (Nat.le_trans (Drew.below (w := w1) ⟨_, rfl⟩).size ((Below.refl _ _).alloc (Nat.le_refl _) _).size); intro v' w4 hown hg)
      have HO4 := Kp.mk hown
      have HB4 := Kp.mk (grown_drawn HB.out hg (fun i hi => (HO.out.lt i hi).1))
      clear hown hg
      go_roundw
      case rel => exact ⟨j + 1, by omega, by go_num, by rw [HN.out.2], ⟨by rw [HN.out.1, wv_append]; exact HO4.out⟩, HB4⟩
      case measure => simp [intOf]; omega
    · have : j = n := by omega
      subst this
      have hbt : decide ((j : Int) < j) = false := decide_eq_false (by omega)
      go_wp2
      go_ret2
      have e := HO.out
      rw [List.take_of_length_le (by rw [HL.out]; omega)] at e
      exact ⟨_, rfl, e, HB.out⟩
end Go.Proofs.YtpihlaeioepbpaaDoor
