
/- The program's Copy and Store of pages, walked. -/
import Derived.Test.YtadikbmbadldpaaGreatDoorPagePoke
import Derived.Lib.SliceRun
namespace Go.Proofs.YtadikbmbadldpaaGreatDoor
open Go Go.RowKit
set_option linter.unusedVariables false

theorem rowsL_cells {w : World} {b o n : Nat} {P : Nat → PageV} (h : ∀ i, i < n → w.rangeAt b (o + i * 66) (P i).row) (j : Nat) (u : Value) (hu : (rowsL P n)[j]? = some u) : w.cell? ⟨b, o + j, none⟩ = some u := by
  have hj : j < n * 66 := by
    have := (List.getElem?_eq_some_iff.1 hu).1
    rwa [rowsL_length] at this
  have h1 : j / 66 < n := by omega
  have h2 : j % 66 < 66 := by omega
  have e : j / 66 * 66 + j % 66 = j := by omega
  have hg := rowsL_get P n (j / 66) (j % 66) h1 h2
  rw [e, hu] at hg
  have := h (j / 66) h1 (j % 66) u hg.symm
  rw [← this]
  congr 2
  omega
set_option maxRecDepth 100000 in
set_option maxHeartbeats 4000000 in
theorem page_clone (a : Option Addr) (n cap : Nat) (P : Nat → PageV) (w : World) (h : RdP w a n cap P) :
    Calls Tryz.prog 43 #[.slice a n cap] w fun e w' => ∃ v, e = .returned v ∧ OwnP w' w.heap.size v n P ∧ Below w.heap.size w w' := by
  have hn := h.bound
  have hnl : ∀ (a : Option Addr) (n c : Nat) (w : World), (binOp .eql 22 (.slice a n c) (.slice none 0 0)).run Tryz.prog w = .ok (.bool a.isNone) w := fun a n c w => Lib.run_eql_slice_nil w 22 _ a n c 0 0 Tryz.underlying22
  cases a with
  | none =>
    have hc := h.nil rfl
    have h0 : n = 0 := by have := h.fits; omega
    subst hc; subst h0
    clear h
    go_enter Tryz.func43, Tryz.ntmps43
    go_wp2
    go_ret
    exact ⟨_, rfl, OwnP.nil _ _ _, Below.refl _ _⟩
  | some x =>
    obtain ⟨w1, e1⟩ : ∃ w1, w1 = w.alloc (.cells #[] 47) := ⟨_, rfl⟩
    have b1 : Below w.heap.size w w1 := by rw [e1]; exact (Below.refl _ _).alloc (Nat.le_refl _) _
    have HO : Kp (w1.ownsRow w.heap.size 47 66 (.slice (some ⟨w.heap.size, 0, none⟩) 0 0) 0 []) := ⟨by
      rw [e1]
      exact World.ownsRow_lit w #[] 0 (base := w.heap.size) (e := 47) (size := 66) (Nat.le_refl _) (by decide) rfl⟩
    have HX : Kp (∀ j u, (rowsL P n)[j]? = some u → w1.cell? (x.add j) = some u) := ⟨fun j u hu => by
      have hj : j < n * 66 := by
        have := (List.getElem?_eq_some_iff.1 hu).1
        rwa [rowsL_length] at this
      obtain ⟨b, o, ha, hc⟩ := (h.later b1).cells (by omega)
      obtain rfl := Option.some.inj ha
      rw [Addr.add_mid]
      exact rowsL_cells hc j u hu⟩
    have HB := Kp.mk b1
    have E1 := Kp.mk e1
    clear h b1 e1
    go_enter Tryz.func43, Tryz.ntmps43
    go_wp2_with (first
      | (rw [← E1.out]; refine append_pages rfl _ _ rfl w.heap.size _ 0 [] rfl HO.out x n cap (rowsL P n) rfl (rowsL_length P n) HX.out (rowsL_one P n) (by omega) HB.out.size ?_; rintro v' w3 ho3 hg3 _))
    have HB3 := Kp.mk (HB.out.grown hg3 HB.out.size (fun j hj => own_base66 HO.out hj))
    have HO3 : Kp (OwnP w3 w.heap.size v' n P) := ⟨by unfold OwnP; simpa using ho3⟩
    clear ho3 hg3
    go_wp2
    go_ret
    exact ⟨_, rfl, HO3.out, HB3.out⟩
set_option maxRecDepth 100000 in
theorem page_copy (a : Option Addr) (n cap : Nat) (P : Nat → PageV) (w : World) (h : RdP w a n cap P) :
    Calls Tryz.prog 23 #[.slice a n cap] w fun e w' => ∃ v, e = .returned v ∧ OwnP w' w.heap.size v n P ∧ Below w.heap.size w w' := by
  have K := Kp.mk (page_clone a n cap P w h)
  clear h
  go_enter Tryz.func23, Tryz.ntmps23
  go_wp2_with fail
  refine K.out.mono ?_
  rintro e w1 ⟨v, rfl, ho, hb⟩
  have HO := Kp.mk ho
  have HB := Kp.mk hb
  clear ho hb
  go_wp2
  go_ret
  exact ⟨_, rfl, HO.out, HB.out⟩
set_option maxRecDepth 100000 in
set_option maxHeartbeats 4000000 in
theorem page_poke_no (a : Option Addr) (n cap : Nat) (P : Nat → PageV) (w : World) (h : RdP w a n cap P) (ad s x : Nat) (had : ad < 4294967296) (hs : okSize s) (h0 : lookF P n ad s 1 ≠ 0) :
    Calls Tryz.prog 48 #[.slice a n cap, .int .u32 (ad : Int), .int .i64 (s : Int), .int .u32 (x : Int)] w fun e w' => e = .returned (.tuple #[.int .i64 (lookF P n ad s 1 : Nat), .nilIface]) ∧ w' = w := by
  have K := Kp.mk (page_look a n cap P w h ad s 1 had hs (by decide) 2 5 (by decide) (by decide))
  obtain ⟨f, hf⟩ : ∃ f : Nat, f = lookF P n ad s 1 := ⟨_, rfl⟩
  rw [← hf]
  rw [← hf] at K h0
  have hne : ((f : Int) != 0) = true := by simp; omega
  clear hf h0 h hs
  go_enter Tryz.func48, Tryz.ntmps48
  go_wp2_with (refine K.out.mono ?_; rintro e w' ⟨rfl, hw⟩; obtain rfl := hw.symm)
  go_ret2
  exact ⟨rfl, rfl⟩
set_option maxRecDepth 100000 in
set_option maxHeartbeats 4000000 in
theorem page_poke_bad (A : Nat → Addr) (a : Option Addr) (n cap : Nat) (w : World) (ad : Nat) (s : Int) (x : Nat) (h1 : s ≠ 1) (h2 : s ≠ 2) (h4 : s ≠ 4) (hE : Errs w [12] A) :
    Calls Tryz.prog 48 #[.slice a n cap, .int .u32 (ad : Int), .int .i64 s, .int .u32 (x : Int)] w fun e w' => e = .returned (.tuple #[.int .i64 0, errv (A 12)]) ∧ Drew w w' := by
  have K := Kp.mk (page_look_bad A a n cap w ad s 2 5 h1 h2 h4 hE)
  clear h1 h2 h4 hE
  go_enter Tryz.func48, Tryz.ntmps48
  go_wp2_with (refine K.out.mono ?_; rintro e w' ⟨rfl, hd⟩)
  go_ret2
  exact ⟨rfl, hd⟩
end Go.Proofs.YtadikbmbadldpaaGreatDoor
