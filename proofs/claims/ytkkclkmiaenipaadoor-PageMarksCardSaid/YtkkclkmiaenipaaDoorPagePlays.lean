/- PagePlays, walked. -/
import Derived.Test.YtkkclkmiaenipaaDoorPagePlay
import Derived.Test.YtkkclkmiaenipaaDoorPageKnown
namespace Go.Proofs.YtkkclkmiaenipaaDoor
open Go Go.RowKit
set_option linter.unusedVariables false

/-- A slice of calls that can be read. -/
structure RdQ (w : World) (a : Option Addr) (n cap : Nat) (C : Nat → PopV) : Prop where
  bound : n ≤ 9223372036854775807
  fits : ∀ i, i < n → (C i).fits
  cells : 0 < n → ∃ b off, a = some ⟨b, off, none⟩ ∧ ∀ i, i < n → w.rangeAt b (off + i * 5) (C i).row
theorem RdQ.later {w w1 : World} {a : Option Addr} {n cap : Nat} {C : Nat → PopV} (h : RdQ w a n cap C) (hb : Below w.heap.size w w1) : RdQ w1 a n cap C :=
  ⟨h.bound, h.fits, fun hn => by
    obtain ⟨b, off, e, hc⟩ := h.cells hn
    exact ⟨b, off, e, fun i hi => prange_later (hc i hi) hb⟩⟩
theorem popLen (o : PopV) : (Tryd.prog.info? 41).map (·.size) = some o.row.length := by
  have h : (Tryd.prog.info? 41).map (·.size) = some 5 := by kernel_rfl
  exact h
set_option maxRecDepth 100000 in
set_option maxHeartbeats 4000000 in
theorem law_PagePlays (A : Nat → Addr) (a : Option Addr) (n cap : Nat) (P : Nat → PageV) (a2 : Option Addr) (m c2 : Nat) (C : Nat → PopV) (w : World) (h : RdP w a n cap P) (h2 : RdQ w a2 m c2 C) (hE : Errs w allCodes A) (hT : TypeVar w) :
    Calls Tryd.prog 8 #[.slice a n cap, .slice a2 m c2] w fun e w' => e = .returned (.bool true) ∧ Below w.heap.size w w' := by
  have H0 := Kp.mk h
  have H2 := Kp.mk h2
  have HE := Kp.mk hE
  have HT := Kp.mk hT
  have hn := h.bound
  have hm := h2.bound
  clear h h2 hE hT
  go_enter Tryd.func8, Tryd.ntmps8
  go_wp2_with fail
  refine (law_known _).mono ?_
  rintro e w1 ⟨rfl, hb⟩
  have B1 := Kp.mk hb
  clear hb
  go_wp2_with fail
  refine (ref_copy _ _ _ _ w1 (H0.out.later B1.out)).mono ?_
  rintro e w2 ⟨v2, rfl, o2, hb⟩
  obtain ⟨a3, cap3, rfl, hr⟩ := o2.rd hn
  have R2 := Kp.mk hr
  have B2 := Kp.mk (B1.out.trans (hb.mono B1.out.size))
  clear hb o2 hr
  go_wp2
  go_loopw [0, 5] (fun mv iv wr => ∃ (k : Nat) (a' : Option Addr) (cap' : Nat) (P' : Nat → PageV), k ≤ m ∧ iv = .int .i64 (k : Int) ∧ mv = .slice a' n cap' ∧ Kp (RdP wr a' n cap' P') ∧ Kp (Below w.heap.size w wr)) (fun _ iv _ => m - (intOf iv).toNat)
  case atStart => exact ⟨0, _, _, _, by omega, rfl, rfl, R2, B2⟩
  case round =>
    obtain ⟨k, a', cap', P', hk, rfl, rfl, HR, HB⟩ := hrel
    by_cases hlt : k < m
    · have hb : decide ((k : Int) < m) = true := decide_eq_true (by omega)
      obtain ⟨b, off, ha, hcell⟩ := H2.out.cells (by omega)
      have hfit := H2.out.fits k hlt
      have hc := prange_later (hcell k hlt) HB.out
      obtain ⟨o, ho⟩ : ∃ o, o = C k := ⟨_, rfl⟩
      rw [← ho] at hfit hc
      have HC := Kp.mk hc
      have K := Kp.mk (law_plays A a' n cap' P' o hfit wr HR.out (HE.out.later HB.out) (HT.out.later HB.out))
      have HL := Kp.mk (popLen o)
      obtain ⟨row, hrow⟩ : ∃ row, row = o.row := ⟨_, rfl⟩
      rw [← hrow] at HC K HL
      subst ha
      clear hcell hfit hc ho hrow
      go_wp2_with (first
        | (refine wpList_load_mid rfl 41 _ rfl b (off + k * 5) rfl row _ HC.out Tryd.underlying41 rfl HL.out ?_))
      refine K.out.mono ?_
      rintro e w3 ⟨a3, cap3, P3, rfl, hr3, hb⟩
      have HR3 := Kp.mk hr3
      have HB3 := Kp.mk (HB.out.trans (hb.mono HB.out.size))
      clear hr3 hb
      go_wp2
      go_roundw
      case rel => exact ⟨k + 1, _, _, _, by omega, by go_num, rfl, HR3, HB3⟩
      case measure => simp [intOf]; omega
    · have : k = m := by omega
      subst this
      have hb : decide ((k : Int) < k) = false := by simp
      go_wp2
      go_ret
      exact ⟨rfl, HB.out⟩
end Go.Proofs.YtkkclkmiaenipaaDoor
