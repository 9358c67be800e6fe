/- The fixed answers of the laws on ports, walked. -/
import Derived.Test.YtjlgnbjfgeppcaaDoorPortGet
namespace Go.Proofs.YtjlgnbjfgeppcaaDoor
open Go Go.RowKit
set_option linter.unusedVariables false

abbrev sX : ByteArray := ⟨#[120]⟩
abbrev sY : ByteArray := ⟨#[121]⟩
abbrev sZ : ByteArray := ⟨#[122]⟩
abbrev sAB : ByteArray := ⟨#[97, 98]⟩
theorem put1 : addC ⟨1, 4, 1, 2⟩ [sX] 9 sAB (inK 1) = 0 ∧ addL ⟨1, 4, 1, 2⟩ [sX] 9 sAB (inK 1) = [sAB] := by
  have e := addC_one (p := ⟨1, 4, 1, 2⟩) (l := [sX]) (g := 9) (D := sAB) (by rfl) (by decide) (by decide)
  exact ⟨e, addL_one e (by decide)⟩
theorem get1 : getC ⟨3, 4, 2, 0⟩ [sX, sY] 0 = 0 ∧ getL ⟨3, 4, 2, 0⟩ [sX, sY] 0 = [sY] ∧ getG ⟨3, 4, 2, 0⟩ [sX, sY] 0 = 0 ∧ getT ⟨3, 4, 2, 0⟩ [sX, sY] 0 = sX ∧ getB ⟨3, 4, 2, 0⟩ [sX, sY] 0 = true := by
  have e := getC_ok (p := ⟨3, 4, 2, 0⟩) (l := [sX, sY]) (g := 0) (by rfl) (by decide) (by decide)
  obtain ⟨h1, h2, h3, h4⟩ := get_queue e (show ¬ (3 : Int) = 1 by decide)
  exact ⟨e, h1, h2, h3, h4⟩
theorem put2 : addC ⟨3, 4, 2, 0⟩ [sX, sY] 0 sZ (inK 3) = 14 := addC_full (by rfl) (by decide) (by decide) (by decide)
theorem rd_lit (w : World) (l : List ByteArray) (hs : ∀ s ∈ l, s.size < 9223372036854775808) (hl : l.length ≤ 1000) : RdS (w.alloc (.cells (sv l).toArray 9)) (some ⟨w.heap.size, 0, none⟩) l.length l.length l :=
  ⟨rfl, Nat.le_refl _, by omega, hs, (fun h => by cases h), fun _ => ⟨w.heap.size, 0, rfl, fun i hi => by
    rw [Nat.zero_add, World.cell?_alloc_new]
    have := sv_get l i hi
    simpa using this⟩⟩
theorem OwnS.rdn {w : World} {B : Nat} {a : Option Addr} {n c : Nat} {l : List ByteArray} (h : OwnS w B (.slice a n c) l) (hn : l.length ≤ 8796093022208) (hs : ∀ s ∈ l, s.size < 9223372036854775808) : RdS w a n c l := by
  obtain ⟨a', c', e, hr⟩ := h.rd hn hs
  simp only [Value.slice.injEq] at e
  obtain ⟨rfl, rfl, rfl⟩ := e
  exact hr
theorem small1 : ∀ s ∈ [sAB], s.size < 9223372036854775808 := by decide
theorem below_alloc (w : World) (o : Obj) : Below w.heap.size w (w.alloc o) := (Below.refl _ _).alloc (Nat.le_refl _) _
set_option maxRecDepth 100000 in
set_option maxHeartbeats 8000000 in
theorem law_fixed (A : Nat → Addr) (w : World) (hE : Errs w allCodes A) :
    Calls Tryd.prog 9 #[] w fun e w' => e = .returned (.bool true) ∧ Below w.heap.size w w' := by
  obtain ⟨wa, ea⟩ : ∃ wa, wa = w.alloc (.cells (rowK 1 4 1 2) 23) := ⟨_, rfl⟩
  obtain ⟨wb, eb⟩ : ∃ wb, wb = wa.alloc (.cells (rowK 3 4 2 0) 23) := ⟨_, rfl⟩
  have sa : wa.heap.size = w.heap.size + 1 := by rw [ea]; simp
  have sb : wb.heap.size = w.heap.size + 1 + 1 := by rw [eb]; simp [sa]
  have bb : Below w.heap.size w wb := by rw [eb]; exact (by rw [ea]; exact below_alloc _ _ : Below w.heap.size w wa).alloc (by omega) _
  have p2 : PlanAt wb (w.heap.size + 1) ⟨3, 4, 2, 0⟩ := by
    obtain ⟨w1, e1, p, _⟩ := plan_box wa 3 4 2 0
    rw [← eb] at e1
    subst e1
    rw [sa] at p
    exact p
  obtain ⟨w1, e1⟩ : ∃ w1, w1 = wb.alloc (.cells #[.string sX] 9) := ⟨_, rfl⟩
  have b1 : Below wb.heap.size wb w1 := by rw [e1]; exact below_alloc _ _
  have r1 : RdS w1 (some ⟨w.heap.size + 1 + 1, 0, none⟩) 1 1 [sX] := by rw [e1, ← sb]; exact rd_lit wb [sX] (by decide) (by decide)
  have B1 := Kp.mk (bb.trans (b1.mono bb.size))
  have P1 := Kp.mk (p2.later b1)
  have HE := Kp.mk hE
  have HC := Kp.mk (port_put A ⟨1, 4, 1, 2⟩ _ 1 1 [sX] 9 sAB w1 r1 (by decide) ((hE.later B1.out).sub (by decide)))
  rw [show (PortP.mk 1 4 1 2).kind = 1 from rfl, put1.1, put1.2] at HC
  have E1 : Kp (w1 = ((w.alloc (.cells (rowK 1 4 1 2) 23)).alloc (.cells (rowK 3 4 2 0) 23)).alloc (.cells #[.string sX] 9)) := ⟨by rw [e1, eb, ea]⟩
  clear hE ea eb sa sb bb p2 e1 b1 r1
  go_enter Tryd.func9, Tryd.ntmps9
  go_wp2_with fail
  rw [← E1.out]
  refine HC.out.mono ?_
  rintro e w2 ⟨v, rfl, ho, hb⟩
  obtain ⟨a', c', m', hm', rfl⟩ := ho.shapeN
  have B2 := Kp.mk (B1.out.trans (hb.mono B1.out.size))
  have P2 := Kp.mk (P1.out.later hb)
  have R2 := Kp.mk (ho.rdn (by decide) small1)
  clear hb ho
  obtain ⟨wc, ec⟩ : ∃ wc, wc = w2.alloc (.cells #[.slice a' m' c', .int .i64 0] 29) := ⟨_, rfl⟩
  have sc : wc.heap.size = w2.heap.size + 1 := by rw [ec]; simp
  have bc : Below w2.heap.size w2 wc := by rw [ec]; exact below_alloc _ _
  obtain ⟨w3, e3⟩ : ∃ w3, w3 = wc.alloc (.cells #[.string sAB] 9) := ⟨_, rfl⟩
  have b3 : Below w2.heap.size w2 w3 := by rw [e3]; exact bc.alloc bc.size _
  have r3 : RdS w3 (some ⟨w2.heap.size + 1, 0, none⟩) 1 1 [sAB] := by rw [e3, ← sc]; exact rd_lit wc [sAB] (by decide) (by decide)
  have B3 := Kp.mk (B2.out.trans (b3.mono B2.out.size))
  have P3 := Kp.mk (P2.out.later b3)
  have HS := Kp.mk (ref_same a' m' c' _ 1 1 [sAB] 0 w3 (R2.out.later b3) r3)
  have E3 : Kp (w3 = (w2.alloc (.cells #[.slice a' m' c', .int .i64 0] 29)).alloc (.cells #[.string sAB] 9)) := ⟨by rw [e3, ec]⟩
  have hnil : errOf A 0 = Value.nilIface := rfl
  simp only [hnil]
  clear ec sc bc e3 b3 r3
  go_wp2_with fail
  rw [← E3.out]
  refine HS.out.mono ?_
  rintro e w4 ⟨rfl, hb⟩
  have B4 := Kp.mk (B3.out.trans (hb.mono B3.out.size))
  have P4 := Kp.mk (P3.out.later hb)
  clear hb
  have c0 := P4.out.c0
  have c1 := P4.out.c1
  have c2 := P4.out.c2
  have c3 := P4.out.c3
  obtain ⟨w5, e5⟩ : ∃ w5, w5 = w4.alloc (.cells #[.string sX, .string sY] 9) := ⟨_, rfl⟩
  have b5 : Below w4.heap.size w4 w5 := by rw [e5]; exact below_alloc _ _
  have r5 : RdS w5 (some ⟨w4.heap.size, 0, none⟩) 2 2 [sX, sY] := by rw [e5]; exact rd_lit w4 [sX, sY] (by decide) (by decide)
  have B5 := Kp.mk (B4.out.trans (b5.mono B4.out.size))
  have P5 := Kp.mk (P4.out.later b5)
  have HG := Kp.mk (port_get A ⟨3, 4, 2, 0⟩ _ 2 2 [sX, sY] 0 w5 r5 ((HE.out.later B5.out).sub (by decide)))
  rw [get1.1, get1.2.1, get1.2.2.1, get1.2.2.2.1, get1.2.2.2.2] at HG
  have E5 := Kp.mk e5
  clear e5 b5 r5
  go_wp2_with fail
  rw [← E5.out]
  refine HG.out.mono ?_
  rintro e w6 ⟨v, rfl, ho, hb⟩
  obtain ⟨a6, c6, m6, hm6, rfl⟩ := ho.shapeN
  have B6 := Kp.mk (B5.out.trans (hb.mono B5.out.size))
  have P6 := Kp.mk (P5.out.later hb)
  have R6 := Kp.mk (ho.rdn (by decide) (by decide))
  clear hb ho c0 c1 c2 c3
  obtain ⟨wc, ec⟩ : ∃ wc, wc = w6.alloc (.cells #[.slice a6 m6 c6, .int .i64 0] 29) := ⟨_, rfl⟩
  have sc : wc.heap.size = w6.heap.size + 1 := by rw [ec]; simp
  have bc : Below w6.heap.size w6 wc := by rw [ec]; exact below_alloc _ _
  obtain ⟨w7, e7⟩ : ∃ w7, w7 = wc.alloc (.cells #[.string sY] 9) := ⟨_, rfl⟩
  have b7 : Below w6.heap.size w6 w7 := by rw [e7]; exact bc.alloc bc.size _
  have r7 : RdS w7 (some ⟨w6.heap.size + 1, 0, none⟩) 1 1 [sY] := by rw [e7, ← sc]; exact rd_lit wc [sY] (by decide) (by decide)
  have B7 := Kp.mk (B6.out.trans (b7.mono B6.out.size))
  have P7 := Kp.mk (P6.out.later b7)
  have HS7 := Kp.mk (ref_same a6 m6 c6 _ 1 1 [sY] 0 w7 (R6.out.later b7) r7)
  have E7 : Kp (w7 = (w6.alloc (.cells #[.slice a6 m6 c6, .int .i64 0] 29)).alloc (.cells #[.string sY] 9)) := ⟨by rw [e7, ec]⟩
  have hnil : errOf A 0 = Value.nilIface := rfl
  simp only [hnil]
  clear ec sc bc e7 b7 r7
  go_wp2_with fail
  rw [← E7.out]
  refine HS7.out.mono ?_
  rintro e w8 ⟨rfl, hb⟩
  have B8 := Kp.mk (B7.out.trans (hb.mono B7.out.size))
  have P8 := Kp.mk (P7.out.later hb)
  clear hb
  have c0 := P8.out.c0
  have c1 := P8.out.c1
  have c2 := P8.out.c2
  have c3 := P8.out.c3
  obtain ⟨w9, e9⟩ : ∃ w9, w9 = w8.alloc (.cells #[.string sX, .string sY] 9) := ⟨_, rfl⟩
  have b9 : Below w8.heap.size w8 w9 := by rw [e9]; exact below_alloc _ _
  have r9 : RdS w9 (some ⟨w8.heap.size, 0, none⟩) 2 2 [sX, sY] := by rw [e9]; exact rd_lit w8 [sX, sY] (by decide) (by decide)
  have B9 := Kp.mk (B8.out.trans (b9.mono B8.out.size))
  have HP := Kp.mk (port_put A ⟨3, 4, 2, 0⟩ _ 2 2 [sX, sY] 0 sZ w9 r9 (by decide) ((HE.out.later B9.out).sub (by decide)))
  rw [show (PortP.mk 3 4 2 0).kind = 3 from rfl, put2] at HP
  have E9 := Kp.mk e9
  clear e9 b9 r9
  go_wp2_with fail
  rw [← E9.out]
  refine HP.out.mono ?_
  rintro e w10 ⟨v, rfl, ho, hb⟩
  have B10 := Kp.mk (B9.out.trans (hb.mono B9.out.size))
  have HK := Kp.mk (err_code w10 (HE.out.later B10.out) 14 (by decide))
  clear hb ho c0 c1 c2 c3
  go_wp2_with fail
  refine HK.out.mono ?_
  rintro e w11 ⟨rfl, rfl⟩
  go_wp2_with fail
  go_ret
  exact ⟨rfl, B10.out⟩
end Go.Proofs.YtjlgnbjfgeppcaaDoor
