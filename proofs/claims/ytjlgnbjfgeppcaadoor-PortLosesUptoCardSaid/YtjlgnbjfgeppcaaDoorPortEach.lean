/- The program's each, walked. -/
import Derived.Test.YtjlgnbjfgeppcaaDoorPortRows
import Derived.Test.YtjlgnbjfgeppcaaDoorErrP
namespace Go.Proofs.YtjlgnbjfgeppcaaDoor
open Go Go.RowKit
set_option linter.unusedVariables false
attribute [local go_sem ↓] Go.wp_at_zero Go.wp_at_succ

theorem err_is {A : Nat → Addr} {w : World} (hE : Errs w allCodes A) (c k : Nat) (hc : c ≤ 20) (hk1 : 1 ≤ k) (hk : k ≤ 20) :
    Calls Tryd.prog 66 #[errOf A c, errv (A k)] w fun e w' => e = .returned (.bool (decide (c = k))) ∧ w = w' := by
  cases c with
  | zero =>
    rw [decide_eq_false (by omega)]
    exact (is_nil (A k) w).mono fun e w' ⟨h1, h2⟩ => ⟨h1, h2.symm⟩
  | succ c => exact (is_code hE (c + 1) k (by omega) hc hk1 hk).mono fun e w' ⟨h1, h2⟩ => ⟨h1, h2.symm⟩
set_option maxRecDepth 100000 in
set_option maxHeartbeats 16000000 in
theorem port_each (A : Nat → Addr) (pa : Option Addr) (n pc : Nat) (P : Nat → PortP) (qa : Option Addr) (m qc : Nat) (V : Nat → PortV) (w : World) (h : RdPl w pa n pc P) (h2 : RdPo w qa m qc V) (c : Nat) (pl : Int) (hA : AllE P V n m c pl) (hE : Errs w allCodes A) :
    Calls Tryd.prog 63 #[.slice pa n pc, .slice qa m qc] w fun e w' => ∃ v, e = .returned v ∧ ErrP w' A c pl v ∧ Below w.heap.size w w' := by
  have hn := h.bound
  have HE := Kp.mk hE
  have HA := Kp.mk hA
  by_cases hnm : n = m
  · have hb0 : ((n : Int) != (m : Int)) = false := by simp [hnm]
    have HNM := Kp.mk hnm
    have x8 := hE.cell 8 (by decide)
    have x9 := hE.cell 9 (by decide)
    simp only [errVar] at x8 x9
    obtain ⟨w2, e2⟩ : ∃ w2, w2 = w.alloc (.cells #[errv (A 8), errv (A 9)] 31) := ⟨_, rfl⟩
    have b2 : Below w.heap.size w w2 := by rw [e2]; exact below_alloc _ _
    have Z2 : Kp (Blk w2 w.heap.size #[errv (A 8), errv (A 9)] 31) := ⟨by rw [e2]; exact Blk.new _ _ _⟩
    have HP := Kp.mk (h.later b2)
    have HQ := Kp.mk (h2.later b2)
    have B2 := Kp.mk b2
    have E2 := Kp.mk e2
    clear h h2 hA hE hnm b2 e2
    go_enter Tryd.func63, Tryd.ntmps63
    go_wp2
    rw [← E2.out]
    clear x8 x9
    go_loopw [20] (fun ov wo => ∃ o : Nat, o ≤ 2 ∧ ov = .int .i64 (o : Int) ∧ Kp (1 ≤ o → ∀ x, x < n → planC (P x) = 0) ∧ Kp (2 ≤ o → ∀ x, x < n → fitsP (P x) (V x).l (V x).g = true) ∧ Kp (Below w2.heap.size w2 wo)) (fun ov _ => 2 - (intOf ov).toNat)
    case atStart => exact ⟨0, by omega, rfl, ⟨fun h => by omega⟩, ⟨fun h => by omega⟩, ⟨Below.refl _ _⟩⟩
    case round =>
      obtain ⟨o, ho, rfl, HP0, HF0, HBo⟩ := hrel
      obtain ⟨wo, ewo⟩ : ∃ x : World, x = wr := ⟨_, rfl⟩
      subst ewo
      have y0 := (Z2.out.later HBo.out).cell 0 _ rfl
      have y1 := (Z2.out.later HBo.out).cell 1 _ rfl
      rcases (by omega : o = 0 ∨ o = 1 ∨ o = 2) with rfl | rfl | rfl
      · clear ho
        go_wp2
        go_loopw [26] (fun iv wr => ∃ i : Nat, i ≤ n ∧ iv = .int .i64 (i : Int) ∧ Kp (∀ x, x < i → planC (P x) = 0) ∧ Kp (Below w2.heap.size w2 wr)) (fun iv _ => n - (intOf iv).toNat)
        case atStart => exact ⟨0, by omega, rfl, ⟨fun j hj => by omega⟩, HBo⟩
        case round =>
          obtain ⟨i, hi, rfl, HG, HB⟩ := hrel
          by_cases hlt : i < n
          · have hb' : decide ((i : Int) < n) = true := decide_eq_true (by omega)
            have hb1 : (0 : Int) ≤ (i : Int) := by omega
            have hb2 : (i : Int) < (n : Int) := by omega
            have hb3 : (i : Int) < (m : Int) := by have := HNM.out; omega
            obtain ⟨b, off, ha, c0, c1, c2, c3⟩ := (HP.out.later HB.out).at i hlt
            obtain ⟨b', off', ha', q0, q1⟩ := (HQ.out.later HB.out).at i (by have := HNM.out; omega)
            have hrd := (HQ.out.later HB.out).rd i (by have := HNM.out; omega)
            obtain ⟨⟨k, s, d, r⟩, hp⟩ : ∃ p, p = P i := ⟨_, rfl⟩
            obtain ⟨⟨va, vm, vc, vg, vl⟩, hv⟩ : ∃ v, v = V i := ⟨_, rfl⟩
            have HPV := Kp.mk (And.intro hp hv)
            rw [← hp] at c0 c1 c2 c3
            rw [← hv] at q0 q1 hrd
            have c0 : wr.cell? ⟨b, off + i * 4, none⟩ = some (.int .i64 k) := c0
            have c1 : wr.cell? ⟨b, off + i * 4 + 1, none⟩ = some (.int .i64 s) := c1
            have c2 : wr.cell? ⟨b, off + i * 4 + 2, none⟩ = some (.int .i64 d) := c2
            have c3 : wr.cell? ⟨b, off + i * 4 + 3, none⟩ = some (.int .i64 r) := c3
            have q0 : wr.cell? ⟨b', off' + i * 2, none⟩ = some (.slice va vm vc) := q0
            have q1 : wr.cell? ⟨b', off' + i * 2 + 1, none⟩ = some (.int .i64 vg) := q1
            obtain ⟨w4, e4, p4, b4⟩ := plan_box wr k s d r
            have HR : Kp (RdS w4 va vm vc vl) := ⟨RdS.later hrd b4⟩
            have B4 := Kp.mk (B2.out.trans ((HB.out.trans (b4.mono HB.out.size)).mono B2.out.size))
            have HB4 := Kp.mk (HB.out.trans (b4.mono HB.out.size))
            have Q0 := Kp.mk (scell_later b4 q0)
            have Q1 := Kp.mk (scell_later b4 q1)
            have P4 := Kp.mk p4
            have E4 := Kp.mk e4
            have HC : Kp (∀ v, Below w4.heap.size w4 v → Calls Tryd.prog 14 #[.agg (rowK k s d r), .agg (portA va vm vc vg)] v fun e w' => e = .returned (errOf A (portC ⟨k, s, d, r⟩ vl vg)) ∧ Below w4.heap.size w4 w') := ⟨fun v hv => (port_check A ⟨k, s, d, r⟩ va vm vc vl vg v (HR.out.later hv) ((HE.out.later (B4.out.trans (hv.mono B4.out.size))).sub (by decide))).mono fun e w' ⟨h1, h2⟩ => ⟨h1, hv.trans (h2.mono hv.size)⟩⟩
            have SQ : Kp (∀ v, Below w4.heap.size w4 v → v.cell? ⟨wr.heap.size, 0, none⟩ = some (.int .i64 k) ∧ v.cell? ⟨wr.heap.size, 1, none⟩ = some (.int .i64 s) ∧ v.cell? ⟨wr.heap.size, 2, none⟩ = some (.int .i64 d) ∧ v.cell? ⟨wr.heap.size, 3, none⟩ = some (.int .i64 r) ∧ v.cell? ⟨b', off' + i * 2, none⟩ = some (.slice va vm vc) ∧ v.cell? ⟨b', off' + i * 2 + 1, none⟩ = some (.int .i64 vg)) := ⟨fun v hv =>
              ⟨(P4.out.later hv).c0, (P4.out.later hv).c1, (P4.out.later hv).c2, (P4.out.later hv).c3, scell_later hv Q0.out, scell_later hv Q1.out⟩⟩
            have hzp : ∀ w, (zeroValue 23).run Tryd.prog w = .ok (.agg (rowK 0 0 0 0)) w := fun w => by kernel_rfl
            obtain ⟨cc, hcc⟩ : ∃ c, c = portC ⟨k, s, d, r⟩ vl vg := ⟨_, rfl⟩
            have hor := portC_or ⟨k, s, d, r⟩ vl vg
            rw [← hcc] at hor HC
            have HCC := Kp.mk hcc
            obtain ⟨ev, hev⟩ : ∃ v, v = errOf A cc := ⟨_, rfl⟩
            rw [← hev] at HC
            have HIS : Kp (∀ v, Below w4.heap.size w4 v → Calls Tryd.prog 66 #[ev, errv (A 8)] v fun e w' => e = .returned (.bool (decide (cc = 8))) ∧ v = w') := ⟨fun v hv => by rw [hev]; exact err_is (HE.out.later (B4.out.trans (hv.mono B4.out.size))) cc 8 (by omega) (by omega) (by omega)⟩
            have HEV := Kp.mk hev
            subst ha
            subst ha'
            clear hp hv hrd p4 b4 e4 hcc hev
            go_wp2_with fail
            rw [← E4.out]
            clear c0 c1 c2 c3 q0 q1
            obtain ⟨c0, c1, c2, c3⟩ := plan4 P4.out
            have q0 := Q0.out
            have q1 := Q1.out
            go_region_held3 (fun v => v.cell? ⟨wr.heap.size, 0, none⟩ = some (.int .i64 k) ∧ v.cell? ⟨wr.heap.size, 1, none⟩ = some (.int .i64 s) ∧ v.cell? ⟨wr.heap.size, 2, none⟩ = some (.int .i64 d) ∧ v.cell? ⟨wr.heap.size, 3, none⟩ = some (.int .i64 r) ∧ v.cell? ⟨b', off' + i * 2, none⟩ = some (.slice va vm vc) ∧ v.cell? ⟨b', off' + i * 2 + 1, none⟩ = some (.int .i64 vg)) (first | exact SQ.out _ (Drew.once _).below | exact SQ.out _ HX1.out)
              ((go_at_call 14; (with_reducible refine (HC.out _ (Drew.once _).below).mono ?_); rintro e x1 ⟨rfl, hb⟩; have HX1 := Kp.mk hb; clear hb))
            have HB5 := Kp.mk (HB4.out.trans (HX1.out.mono HB4.out.size))
            by_cases hbad : cc = 8
            · have HI1 := Kp.mk (HIS.out x1 HX1.out)
              rw [decide_eq_true hbad] at HI1
              have hx : c = 8 ∧ pl = i := allE_plan HA.out HNM.out hlt (by rw [← HPV.out.1]; intro h0; have h1 := HCC.out; rw [hbad] at h1; unfold portC at h1; rw [decide_eq_true h0] at h1; cases hf : fitsP ⟨k, s, d, r⟩ vl vg <;> rw [hf] at h1 <;> simp at h1) HG.out
              obtain ⟨hc8, hpl8⟩ := hx
              subst hc8
              subst hpl8
              have hev2 : ev = errv (A 8) := by rw [HEV.out, hbad]; rfl
              clear hbad hor c0 c1 c2 c3 q0 q1 SQ HC HIS
              subst hev2
              go_wp2_with fail
              refine HI1.out.mono ?_
              rintro e w5 ⟨rfl, rfl⟩
              have HAT : Kp (AtAt (x1.alloc (.cells #[.int .i64 (i : Int), errv (A 8)] 126)) x1.heap.size (i : Int) (A 8)) := ⟨⟨by rw [World.cell?_alloc_new]; rfl, by rw [World.cell?_alloc_new]; rfl⟩⟩
              have BF := Kp.mk ((B2.out.trans (HB5.out.mono B2.out.size)).alloc (B2.out.trans (HB5.out.mono B2.out.size)).size (.cells #[.int .i64 (i : Int), errv (A 8)] 126))
              go_wp2_with fail
              go_ret
              exact ⟨_, rfl, .inr (.inr ⟨by decide, by decide, _, rfl, HAT.out⟩), BF.out⟩
            · have HI1 := Kp.mk (HIS.out x1 HX1.out)
              rw [decide_eq_false hbad] at HI1
              have HG2 : Kp (∀ x, x < i + 1 → planC (P x) = 0) := ⟨fun x hx => by
                rcases Nat.lt_or_ge x i with h | h
                · exact HG.out x h
                · have : x = i := by omega
                  subst this
                  rw [← HPV.out.1]; by_cases h0 : planC ⟨k, s, d, r⟩ = 0
                  · exact h0
                  · exact absurd (HCC.out.trans (portC_plan h0)) hbad⟩
              clear hbad hor c0 c1 c2 c3 q0 q1 SQ HC HIS
              go_wp2_with fail
              refine HI1.out.mono ?_
              rintro e w5 ⟨rfl, rfl⟩
              go_wp2_with fail
              go_roundw
              case rel => first
                | exact ⟨i + 1, by omega, by go_num, HG2, HB5⟩
                | ((repeat apply Exists.intro); exact ⟨⟨i + 1, by omega, by go_num, HG2, HB5⟩, rfl⟩)
              case measure => simp [intOf]; omega
          · have : i = n := by omega
            subst this
            have hb' : decide ((i : Int) < i) = false := by simp
            go_wp2
            go_roundw
            case rel => exact ⟨1, by omega, rfl, ⟨fun _ => HG.out⟩, ⟨fun h => by omega⟩, HB⟩
            case measure => simp [intOf]
      · clear ho
        go_wp2
        go_loopw [26] (fun iv wr => ∃ i : Nat, i ≤ n ∧ iv = .int .i64 (i : Int) ∧ Kp (∀ x, x < i → fitsP (P x) (V x).l (V x).g = true) ∧ Kp (Below w2.heap.size w2 wr)) (fun iv _ => n - (intOf iv).toNat)
        case atStart => exact ⟨0, by omega, rfl, ⟨fun j hj => by omega⟩, HBo⟩
        case round =>
          obtain ⟨i, hi, rfl, HG, HB⟩ := hrel
          by_cases hlt : i < n
          · have hb' : decide ((i : Int) < n) = true := decide_eq_true (by omega)
            have hb1 : (0 : Int) ≤ (i : Int) := by omega
            have hb2 : (i : Int) < (n : Int) := by omega
            have hb3 : (i : Int) < (m : Int) := by have := HNM.out; omega
            obtain ⟨b, off, ha, c0, c1, c2, c3⟩ := (HP.out.later HB.out).at i hlt
            obtain ⟨b', off', ha', q0, q1⟩ := (HQ.out.later HB.out).at i (by have := HNM.out; omega)
            have hrd := (HQ.out.later HB.out).rd i (by have := HNM.out; omega)
            obtain ⟨⟨k, s, d, r⟩, hp⟩ : ∃ p, p = P i := ⟨_, rfl⟩
            obtain ⟨⟨va, vm, vc, vg, vl⟩, hv⟩ : ∃ v, v = V i := ⟨_, rfl⟩
            have HPV := Kp.mk (And.intro hp hv)
            rw [← hp] at c0 c1 c2 c3
            rw [← hv] at q0 q1 hrd
            have c0 : wr.cell? ⟨b, off + i * 4, none⟩ = some (.int .i64 k) := c0
            have c1 : wr.cell? ⟨b, off + i * 4 + 1, none⟩ = some (.int .i64 s) := c1
            have c2 : wr.cell? ⟨b, off + i * 4 + 2, none⟩ = some (.int .i64 d) := c2
            have c3 : wr.cell? ⟨b, off + i * 4 + 3, none⟩ = some (.int .i64 r) := c3
            have q0 : wr.cell? ⟨b', off' + i * 2, none⟩ = some (.slice va vm vc) := q0
            have q1 : wr.cell? ⟨b', off' + i * 2 + 1, none⟩ = some (.int .i64 vg) := q1
            obtain ⟨w4, e4, p4, b4⟩ := plan_box wr k s d r
            have HR : Kp (RdS w4 va vm vc vl) := ⟨RdS.later hrd b4⟩
            have B4 := Kp.mk (B2.out.trans ((HB.out.trans (b4.mono HB.out.size)).mono B2.out.size))
            have HB4 := Kp.mk (HB.out.trans (b4.mono HB.out.size))
            have Q0 := Kp.mk (scell_later b4 q0)
            have Q1 := Kp.mk (scell_later b4 q1)
            have P4 := Kp.mk p4
            have E4 := Kp.mk e4
            have HC : Kp (∀ v, Below w4.heap.size w4 v → Calls Tryd.prog 14 #[.agg (rowK k s d r), .agg (portA va vm vc vg)] v fun e w' => e = .returned (errOf A (portC ⟨k, s, d, r⟩ vl vg)) ∧ Below w4.heap.size w4 w') := ⟨fun v hv => (port_check A ⟨k, s, d, r⟩ va vm vc vl vg v (HR.out.later hv) ((HE.out.later (B4.out.trans (hv.mono B4.out.size))).sub (by decide))).mono fun e w' ⟨h1, h2⟩ => ⟨h1, hv.trans (h2.mono hv.size)⟩⟩
            have SQ : Kp (∀ v, Below w4.heap.size w4 v → v.cell? ⟨wr.heap.size, 0, none⟩ = some (.int .i64 k) ∧ v.cell? ⟨wr.heap.size, 1, none⟩ = some (.int .i64 s) ∧ v.cell? ⟨wr.heap.size, 2, none⟩ = some (.int .i64 d) ∧ v.cell? ⟨wr.heap.size, 3, none⟩ = some (.int .i64 r) ∧ v.cell? ⟨b', off' + i * 2, none⟩ = some (.slice va vm vc) ∧ v.cell? ⟨b', off' + i * 2 + 1, none⟩ = some (.int .i64 vg)) := ⟨fun v hv =>
              ⟨(P4.out.later hv).c0, (P4.out.later hv).c1, (P4.out.later hv).c2, (P4.out.later hv).c3, scell_later hv Q0.out, scell_later hv Q1.out⟩⟩
            have hzp : ∀ w, (zeroValue 23).run Tryd.prog w = .ok (.agg (rowK 0 0 0 0)) w := fun w => by kernel_rfl
            obtain ⟨cc, hcc⟩ : ∃ c, c = portC ⟨k, s, d, r⟩ vl vg := ⟨_, rfl⟩
            have hor := portC_or ⟨k, s, d, r⟩ vl vg
            rw [← hcc] at hor HC
            have HCC := Kp.mk hcc
            obtain ⟨ev, hev⟩ : ∃ v, v = errOf A cc := ⟨_, rfl⟩
            rw [← hev] at HC
            have HIS : Kp (∀ v, Below w4.heap.size w4 v → Calls Tryd.prog 66 #[ev, errv (A 9)] v fun e w' => e = .returned (.bool (decide (cc = 9))) ∧ v = w') := ⟨fun v hv => by rw [hev]; exact err_is (HE.out.later (B4.out.trans (hv.mono B4.out.size))) cc 9 (by omega) (by omega) (by omega)⟩
            have HEV := Kp.mk hev
            subst ha
            subst ha'
            clear hp hv hrd p4 b4 e4 hcc hev
            go_wp2_with fail
            rw [← E4.out]
            clear c0 c1 c2 c3 q0 q1
            obtain ⟨c0, c1, c2, c3⟩ := plan4 P4.out
            have q0 := Q0.out
            have q1 := Q1.out
            go_region_held3 (fun v => v.cell? ⟨wr.heap.size, 0, none⟩ = some (.int .i64 k) ∧ v.cell? ⟨wr.heap.size, 1, none⟩ = some (.int .i64 s) ∧ v.cell? ⟨wr.heap.size, 2, none⟩ = some (.int .i64 d) ∧ v.cell? ⟨wr.heap.size, 3, none⟩ = some (.int .i64 r) ∧ v.cell? ⟨b', off' + i * 2, none⟩ = some (.slice va vm vc) ∧ v.cell? ⟨b', off' + i * 2 + 1, none⟩ = some (.int .i64 vg)) (first | exact SQ.out _ (Drew.once _).below | exact SQ.out _ HX1.out)
              ((go_at_call 14; (with_reducible refine (HC.out _ (Drew.once _).below).mono ?_); rintro e x1 ⟨rfl, hb⟩; have HX1 := Kp.mk hb; clear hb))
            have HB5 := Kp.mk (HB4.out.trans (HX1.out.mono HB4.out.size))
            by_cases hbad : cc = 9
            · have HI1 := Kp.mk (HIS.out x1 HX1.out)
              rw [decide_eq_true hbad] at HI1
              have hx : c = 9 ∧ pl = i := allE_state (k := i) HA.out HNM.out (HP0.out (by omega)) hlt (by rw [← HPV.out.1, ← HPV.out.2]; have h1 := HCC.out; rw [hbad] at h1; have h0 := HP0.out (by omega) i hlt; rw [← HPV.out.1] at h0; unfold portC at h1; rw [decide_eq_true h0] at h1; cases hf : fitsP ⟨k, s, d, r⟩ vl vg with | true => rw [hf] at h1; simp at h1 | false => rfl) HG.out
              obtain ⟨hc8, hpl8⟩ := hx
              subst hc8
              subst hpl8
              have hev2 : ev = errv (A 9) := by rw [HEV.out, hbad]; rfl
              clear hbad hor c0 c1 c2 c3 q0 q1 SQ HC HIS
              subst hev2
              go_wp2_with fail
              refine HI1.out.mono ?_
              rintro e w5 ⟨rfl, rfl⟩
              have HAT : Kp (AtAt (x1.alloc (.cells #[.int .i64 (i : Int), errv (A 9)] 126)) x1.heap.size (i : Int) (A 9)) := ⟨⟨by rw [World.cell?_alloc_new]; rfl, by rw [World.cell?_alloc_new]; rfl⟩⟩
              have BF := Kp.mk ((B2.out.trans (HB5.out.mono B2.out.size)).alloc (B2.out.trans (HB5.out.mono B2.out.size)).size (.cells #[.int .i64 (i : Int), errv (A 9)] 126))
              go_wp2_with fail
              go_ret
              exact ⟨_, rfl, .inr (.inr ⟨by decide, by decide, _, rfl, HAT.out⟩), BF.out⟩
            · have HI1 := Kp.mk (HIS.out x1 HX1.out)
              rw [decide_eq_false hbad] at HI1
              have HG2 : Kp (∀ x, x < i + 1 → fitsP (P x) (V x).l (V x).g = true) := ⟨fun x hx => by
                rcases Nat.lt_or_ge x i with h | h
                · exact HG.out x h
                · have : x = i := by omega
                  subst this
                  rw [← HPV.out.1, ← HPV.out.2]; have h0 := HP0.out (by omega) x hlt; rw [← HPV.out.1] at h0; cases hf : fitsP ⟨k, s, d, r⟩ vl vg with
                  | true => rfl
                  | false => exact absurd (HCC.out.trans (portC_bad h0 hf)) hbad⟩
              clear hbad hor c0 c1 c2 c3 q0 q1 SQ HC HIS
              go_wp2_with fail
              refine HI1.out.mono ?_
              rintro e w5 ⟨rfl, rfl⟩
              go_wp2_with fail
              go_roundw
              case rel => first
                | exact ⟨i + 1, by omega, by go_num, HG2, HB5⟩
                | ((repeat apply Exists.intro); exact ⟨⟨i + 1, by omega, by go_num, HG2, HB5⟩, rfl⟩)
              case measure => simp [intOf]; omega
          · have : i = n := by omega
            subst this
            have hb' : decide ((i : Int) < i) = false := by simp
            go_wp2
            go_roundw
            case rel => exact ⟨2, by omega, rfl, ⟨fun _ => HP0.out (by omega)⟩, ⟨fun _ => HG.out⟩, HB⟩
            case measure => simp [intOf]
      · obtain ⟨hc0, hpl0⟩ := allE_good HA.out HNM.out (HP0.out (by omega)) (HF0.out (by omega))
        subst hc0
        subst hpl0
        go_wp2
        go_ret
        exact ⟨_, rfl, .inl ⟨rfl, rfl, rfl⟩, B2.out.trans (HBo.out.mono B2.out.size)⟩
  · obtain ⟨hc12, hpl⟩ := allE_len HA.out hnm
    subst hc12
    subst hpl
    have hb0 : ((n : Int) != (m : Int)) = true := by simp; omega
    have x12 := hE.cell 12 (by decide)
    simp only [errVar] at x12
    clear hnm h h2 hA hE
    go_enter Tryd.func63, Tryd.ntmps63
    go_wp2
    go_ret
    exact ⟨_, rfl, .inr (.inl ⟨by decide, by decide, rfl, rfl⟩), Below.refl _ _⟩
end Go.Proofs.YtjlgnbjfgeppcaaDoor
