/- Get and Drain of both sides, walked. -/
import Derived.Test.YtjlgnbjfgeppcaaDoorPortPut
import Derived.Deep.DeepMust
namespace Go.Proofs.YtjlgnbjfgeppcaaDoor
open Go Go.RowKit
set_option linter.unusedVariables false
attribute [local go_sem ↓] Go.wp_at_zero Go.wp_at_succ

/-- Get: the code, the messages left, the age, the text, whether it is fresh. -/
def getC (p : PortP) (l : List ByteArray) (g : Int) : Nat := bif decide (portC p l g = 0) then (bif inK p.kind then (bif decide (l.length = 0) then 17 else 0) else 7) else portC p l g
def getL (p : PortP) (l : List ByteArray) (g : Int) : List ByteArray := bif decide (getC p l g = 0) then (bif decide (p.kind = 1) then l else l.drop 1) else []
def getG (p : PortP) (l : List ByteArray) (g : Int) : Int := bif decide (getC p l g = 0) then (bif decide (p.kind = 1) then g else 0) else 0
def getT (p : PortP) (l : List ByteArray) (g : Int) : ByteArray := bif decide (getC p l g = 0) then l.getD 0 noS else noS
def getB (p : PortP) (l : List ByteArray) (g : Int) : Bool := bif decide (getC p l g = 0) then (bif decide (p.kind = 1) then decide (g < p.refresh) else true) else false
theorem get_not {p : PortP} {l : List ByteArray} {g : Int} (h : getC p l g ≠ 0) : getL p l g = [] ∧ getG p l g = 0 ∧ getT p l g = noS ∧ getB p l g = false := by
  unfold getL getG getT getB; rw [decide_eq_false h]; exact ⟨rfl, rfl, rfl, rfl⟩
theorem get_one {p : PortP} {l : List ByteArray} {g : Int} (h : getC p l g = 0) (hk : p.kind = 1) : getL p l g = l ∧ getG p l g = g ∧ getT p l g = l.getD 0 noS ∧ getB p l g = decide (g < p.refresh) := by
  unfold getL getG getT getB; rw [decide_eq_true h, decide_eq_true hk]; exact ⟨rfl, rfl, rfl, rfl⟩
theorem get_queue {p : PortP} {l : List ByteArray} {g : Int} (h : getC p l g = 0) (hk : ¬ p.kind = 1) : getL p l g = l.drop 1 ∧ getG p l g = 0 ∧ getT p l g = l.getD 0 noS ∧ getB p l g = true := by
  unfold getL getG getT getB; rw [decide_eq_true h, decide_eq_false hk]; exact ⟨rfl, rfl, rfl, rfl⟩
theorem getC_bad {p : PortP} {l : List ByteArray} {g : Int} (h : portC p l g ≠ 0) : getC p l g = portC p l g := by unfold getC; rw [decide_eq_false h]; rfl
theorem getC_kind {p : PortP} {l : List ByteArray} {g : Int} (h : portC p l g = 0) (hk : inK p.kind = false) : getC p l g = 7 := by unfold getC; rw [decide_eq_true h, hk]; rfl
theorem getC_none {p : PortP} {l : List ByteArray} {g : Int} (h : portC p l g = 0) (hk : inK p.kind = true) (h0 : l.length = 0) : getC p l g = 17 := by unfold getC; rw [decide_eq_true h, hk, decide_eq_true h0]; rfl
theorem getC_ok {p : PortP} {l : List ByteArray} {g : Int} (h : portC p l g = 0) (hk : inK p.kind = true) (h0 : ¬ l.length = 0) : getC p l g = 0 := by unfold getC; rw [decide_eq_true h, hk, decide_eq_false h0]; rfl
/-- Drain: the code, the messages. -/
def drC (p : PortP) (l : List ByteArray) (g : Int) : Nat := bif decide (portC p l g = 0) then (bif inK p.kind then 7 else 0) else portC p l g
def drL (p : PortP) (l : List ByteArray) (g : Int) : List ByteArray := bif decide (drC p l g = 0) then l else []
theorem drC_bad {p : PortP} {l : List ByteArray} {g : Int} (h : portC p l g ≠ 0) : drC p l g = portC p l g := by unfold drC; rw [decide_eq_false h]; rfl
theorem drC_in {p : PortP} {l : List ByteArray} {g : Int} (h : portC p l g = 0) (hk : inK p.kind = true) : drC p l g = 7 := by unfold drC; rw [decide_eq_true h, hk]; rfl
theorem drC_ok {p : PortP} {l : List ByteArray} {g : Int} (h : portC p l g = 0) (hk : inK p.kind = false) : drC p l g = 0 := by unfold drC; rw [decide_eq_true h, hk]; rfl
theorem drL_not {p : PortP} {l : List ByteArray} {g : Int} (h : drC p l g ≠ 0) : drL p l g = [] := by unfold drL; rw [decide_eq_false h]; rfl
theorem drL_ok {p : PortP} {l : List ByteArray} {g : Int} (h : drC p l g = 0) : drL p l g = l := by unfold drL; rw [decide_eq_true h]; rfl
/-- 'q.Msgs[1:]'. -/
theorem tail_of {w : World} {a : Option Addr} {n cap : Nat} {l : List ByteArray} (h : RdS w a n cap l) (hn : 0 < n) :
    ∃ ta, RdS w ta (n - 1) (cap - 1) (l.drop 1) ∧ ∀ w', (Instr.sliceAt 27 (.slice a n cap) (some (.int .i64 1)) none none).run Tryd.prog w' = .ok (.slice ta (n - 1) (cap - 1)) w' := by
  have hl := h.len
  have hf := h.fits
  obtain ⟨b, off, ha, hc⟩ := h.cells hn
  subst ha
  refine ⟨if cap = 1 then some ⟨b, off, none⟩ else (some (⟨b, off, none⟩ : Addr)).map (·.add (1 * 1)), ⟨by simp; omega, by omega, by have := h.bound; omega, fun s hs => h.size s (List.mem_of_mem_drop hs), ?_, ?_⟩, fun w' => ?_⟩
  · intro e
    split at e <;> simp at e
  · intro h0
    refine ⟨b, off + 1, ?_, fun i hi => ?_⟩
    · rw [if_neg (by omega)]
      simp [Addr.add]
    · rw [Nat.add_assoc, hc (1 + i) (by omega)]
      congr 2
      simp [List.getD_eq_getElem?_getD, Nat.add_comm]
  · have he : Tryd.prog.elem 27 = 9 := by kernel_rfl
    rw [run_sliceAt_slice _ _ _ _ _ _ (by rw [he]; exact Tryd.underlying27), run_slice_l (P := Tryd.prog) w' 27 _ n cap (by rw [he]; exact Tryd.underlying27) .i64 1 (by omega) (by omega)]
    rw [he]
    obtain ⟨i, hi, _, hz1, _⟩ := info_parts infoStr
    simp [sizeOf, typeInfo, hi, hz1, sliced, Result.andThen]
theorem rdNil (w : World) : RdS w none 0 0 [] := ⟨rfl, by omega, by omega, by simp, (fun _ => rfl), fun h => by omega⟩
theorem one_msg {l : List ByteArray} {n : Nat} {T : ByteArray} (h : l.length = n) (h1 : n = 1) (hT : T = l.getD 0 noS) : l = [T] := by
  match l, h with
  | [x], _ => rw [hT]; rfl
  | [], h => simp at h; omega
  | x :: y :: r, h => simp at h; omega
theorem sflat {w : World} {b : Nat} {k s d r : Int} {a : Option Addr} {n cap : Nat} {g : Int} {X : Prop} (h : PQS w b k s d r a n cap g ∧ X) :
  w.cell? ⟨b, 0, none⟩ = some (.int .i64 k) ∧ w.cell? ⟨b, 1, none⟩ = some (.int .i64 s) ∧ w.cell? ⟨b, 2, none⟩ = some (.int .i64 d) ∧ w.cell? ⟨b, 3, none⟩ = some (.int .i64 r) ∧
  w.cell? ⟨b + 1, 0, none⟩ = some (.slice a n cap) ∧ w.cell? ⟨b + 1, 1, none⟩ = some (.int .i64 g) ∧ X :=
  ⟨h.1.1, h.1.2.1, h.1.2.2.1, h.1.2.2.2.1, h.1.2.2.2.2.1, h.1.2.2.2.2.2, h.2⟩
set_option maxRecDepth 100000 in
set_option maxHeartbeats 16000000 in
theorem port_get (A : Nat → Addr) (p : PortP) (a : Option Addr) (n cap : Nat) (l : List ByteArray) (g : Int) (w : World) (h : RdS w a n cap l) (hE : Errs w [4, 7, 8, 9, 11, 17] A) :
    Calls Tryd.prog 12 #[.agg p.row.toArray, .agg (portA a n cap g)] w fun e w' => ∃ v, e = .returned (.tuple #[.agg #[v, .int .i64 (getG p l g)], .string (getT p l g), .bool (getB p l g), errOf A (getC p l g)]) ∧ OwnS w' w.heap.size v (getL p l g) ∧ Below w.heap.size w w' := by
  obtain ⟨k, s, d, r⟩ := p
  obtain ⟨w3, e3, p3, q3, z3, b3⟩ := tri_box w k s d r a n cap g
  have E3 := Kp.mk e3
  have B3 := Kp.mk b3
  have H0 := Kp.mk h
  have P3 := Kp.mk p3
  have Q3 := Kp.mk q3
  have Z3 := Kp.mk z3
  have HLN := Kp.mk h.len
  have hnb := h.bound
  have HE := Kp.mk hE
  have HC := Kp.mk (port_check A ⟨k, s, d, r⟩ a n cap l g w3 (h.later b3) ((hE.later b3).sub (by decide)))
  have HI : Kp (∀ w, Calls Tryd.prog 51 #[.agg (rowK k s d r)] w fun e w' => e = .returned (.bool (inK k)) ∧ Below w.heap.size w w') := ⟨fun w => port_isIn ⟨k, s, d, r⟩ w⟩
  have HQ : Kp (∀ w, Calls Tryd.prog 52 #[.agg (rowK k s d r)] w fun e w' => e = .returned (.bool (queueK k)) ∧ Below w.heap.size w w') := ⟨fun w => port_isQueue ⟨k, s, d, r⟩ w⟩
  clear h e3 p3 q3 z3 b3 hE
  by_cases hc : portC ⟨k, s, d, r⟩ l g = 0
  · have hpl := planC_zero (portC_plan0 hc)
    have hfp := fitsP_parts (portC_zero hc).2
    have hk1 : 1 ≤ k := hpl.1
    have hk4 : k ≤ 4 := hpl.2.1
    have hdn : (n : Int) ≤ d := by have := hfp.1; rw [HLN.out] at this; exact this
    have hd8 : d ≤ 8 := Int.le_trans hpl.2.2.2.2.2.1 (depthM_le k)
    have hd1 : k < 3 → d = 1 := fun hk => by have h5 := depthM_low hk; have h6 : d ≤ depthM k := hpl.2.2.2.2.2.1; have h7 : 1 ≤ d := hpl.2.2.2.2.1; omega
    clear hpl hfp
    rcases (by omega : k = 1 ∨ k = 2 ∨ k = 3 ∨ k = 4) with rfl | rfl | rfl | rfl
    · have hk : inK (PortP.mk 1 s d r).kind = true := rfl
      have HI : Kp (∀ w, Calls Tryd.prog 51 #[.agg (rowK 1 s d r)] w fun e w' => e = .returned (.bool true) ∧ Below w.heap.size w w') := ⟨fun w => HI.out w⟩
      have HQ : Kp (∀ w, Calls Tryd.prog 52 #[.agg (rowK 1 s d r)] w fun e w' => e = .returned (.bool false) ∧ Below w.heap.size w w') := ⟨fun w => HQ.out w⟩
      by_cases h0 : n = 0
      · have e1 := getC_none hc hk (by rw [HLN.out]; exact h0)
        obtain ⟨e2, e3, e4, e5⟩ := get_not (p := ⟨1, s, d, r⟩) (l := l) (g := g) (by rw [e1]; decide)
        rw [e1, e2, e3, e4, e5]
        clear e1 e2 e3 e4 e5
        rw [hc] at HC
        show Calls Tryd.prog 12 #[.agg (rowK 1 s d r), .agg (portA a n cap g)] w fun e w' => ∃ v, e = .returned (.tuple #[.agg #[v, .int .i64 (0)], .string (noS), .bool (false), errv (A 17)]) ∧ OwnS w' w.heap.size v ([]) ∧ Below w.heap.size w w'
        have h0' : ((n : Int) == 0) = true := by rw [h0]; rfl
        clear hc hk hk1 hk4 hdn hd8 hd1 h0
        go_enter Tryd.func12, Tryd.ntmps12
        go_wp2_with fail
        rw [← E3.out]
        refine HC.out.mono ?_
        rintro e w4 ⟨rfl, hb⟩
        have B4 := Kp.mk (B3.out.trans (hb.mono B3.out.size))
        have Q4 := Kp.mk (Q3.out.later hb)
        have P4 := Kp.mk (P3.out.later hb)
        have Z4 := Kp.mk (Z3.out.later hb)
        clear hb
        have q0 := Q4.out.cell 0 _ rfl
        have q1 := Q4.out.cell 1 _ rfl
        have c0 := P4.out.c0
        have c1 := P4.out.c1
        have c2 := P4.out.c2
        have c3 := P4.out.c3
        have z0 := Z4.out.cell 0 _ rfl
        have z1 := Z4.out.cell 1 _ rfl
        have f0 := Z4.out.free 0
        have f1 := Z4.out.free 1
        have l2 := Z4.out.lt
        have l1 := Q4.out.lt
        have l0 : w.heap.size < w4.heap.size := Nat.lt_trans (Nat.lt_succ_self _) l1
        have hnil : errOf A 0 = Value.nilIface := rfl
        simp only [hnil]
        clear hnil
        go_wp2_with fail
        refine (HI.out _).mono ?_
        rintro e w5 ⟨rfl, hb⟩
        have B5 := Kp.mk (B4.out.trans (hb.mono B4.out.size))
        have Q5 := Kp.mk (Q4.out.later hb)
        have P5 := Kp.mk (P4.out.later hb)
        have Z5 := Kp.mk (Z4.out.later hb)
        clear hb
        clear q0 q1 c0 c1 c2 c3 z0 z1 f0 f1 l0 l1 l2
        have q0 := Q5.out.cell 0 _ rfl
        have q1 := Q5.out.cell 1 _ rfl
        have c0 := P5.out.c0
        have c1 := P5.out.c1
        have c2 := P5.out.c2
        have c3 := P5.out.c3
        have z0 := Z5.out.cell 0 _ rfl
        have z1 := Z5.out.cell 1 _ rfl
        have f0 := Z5.out.free 0
        have f1 := Z5.out.free 1
        have l2 := Z5.out.lt
        have l1 := Q5.out.lt
        have l0 : w.heap.size < w5.heap.size := Nat.lt_trans (Nat.lt_succ_self _) l1
        go_wp2_with fail
        have x := (HE.out.later B5.out).cell 17 (by decide)
        have xl := World.block_lt_of_cell? w ⟨errVar 17, 0, none⟩ (HE.out.cell 17 (by decide))
        simp only [errVar] at x xl
        have x1 := far1 xl
        have x2 := far2 xl
        have x3 := far3 xl
        have x4 := far4 xl
        have x5 := far5 xl
        have x6 := far6 xl
        simp only [Nat.reduceSub] at x5 x6
        clear xl
        have HZ := Kp.mk (Z5.out.set2 (.slice none 0 0) (.int .i64 0))
        have BF := Kp.mk (below_set2 (B5.out.trans ((Drew.once w5).below.mono B5.out.size)) (w.heap.size + 2) (.slice none 0 0) (.int .i64 0) (by omega))
        have BG := Kp.mk (BF.out.drew)
        have BH := Kp.mk ((below_set2 B5.out (w.heap.size + 2) (.slice none 0 0) (.int .i64 0) (by omega)).drew)
        go_region
        all_goals (
          go_wp2
          refine bodyPost_ret (res4 (p := 4) (q := 5) (r := 6) (s := 7) (ty := 29) rfl _ rfl (by exact HZ.out) _ Tryd.underlying29 (portInfo _ rfl)) rfl ⟨_, rfl, OwnS.nil _ _, by first | exact BF.out | exact BH.out⟩)
      have e1 := getC_ok hc hk (by rw [HLN.out]; exact h0)
      obtain ⟨e2, e3, e4, e5⟩ := get_one e1 rfl
      rw [e1, e2, e3, e4, e5]
      clear e1 e2 e3 e4 e5
      rw [hc] at HC
      have h0' : ((n : Int) == 0) = false := by simp; omega
      have hn8 : n ≤ 8 := by omega
      have hn1 : n = 1 := by have := hd1 (by omega); omega
      have hn0 : 0 < n := by omega
      have HN1 := Kp.mk hn1
      clear hn1
      obtain ⟨tb, to, hta, htc, hts⟩ := H0.out.at 0 hn0
      have htl := World.block_lt_of_cell? w _ htc
      have HTC : Kp (∀ v, Below w.heap.size w v → v.cell? ⟨tb, to, none⟩ = some (.string (l.getD 0 noS))) := ⟨fun v hv => (hv.cell (p := ⟨tb, to, none⟩) htl).trans htc⟩
      have HTS := Kp.mk hts
      obtain ⟨T, hT⟩ : ∃ T, T = l.getD 0 noS := ⟨_, rfl⟩
      have HTL := Kp.mk hT
      rw [← hT] at HTC HTS ⊢
      show Calls Tryd.prog 12 #[.agg (rowK 1 s d r), .agg (portA a n cap g)] w fun e w' => ∃ v, e = .returned (.tuple #[.agg #[v, .int .i64 (g)], .string (T), .bool (decide (g < r)), .nilIface]) ∧ OwnS w' w.heap.size v (l) ∧ Below w.heap.size w w'
      subst hta
      have hi0 : (0 : Int) < (n : Int) := by omega
      clear hc hk hk1 hk4 hdn hd8 hd1 h0 htc htl hts hT
      go_enter Tryd.func12, Tryd.ntmps12
      go_wp2_with fail
      rw [← E3.out]
      refine HC.out.mono ?_
      rintro e w4 ⟨rfl, hb⟩
      have B4 := Kp.mk (B3.out.trans (hb.mono B3.out.size))
      have Q4 := Kp.mk (Q3.out.later hb)
      have P4 := Kp.mk (P3.out.later hb)
      have Z4 := Kp.mk (Z3.out.later hb)
      clear hb
      have q0 := Q4.out.cell 0 _ rfl
      have q1 := Q4.out.cell 1 _ rfl
      have c0 := P4.out.c0
      have c1 := P4.out.c1
      have c2 := P4.out.c2
      have c3 := P4.out.c3
      have z0 := Z4.out.cell 0 _ rfl
      have z1 := Z4.out.cell 1 _ rfl
      have f0 := Z4.out.free 0
      have f1 := Z4.out.free 1
      have l2 := Z4.out.lt
      have l1 := Q4.out.lt
      have l0 : w.heap.size < w4.heap.size := Nat.lt_trans (Nat.lt_succ_self _) l1
      have hnil : errOf A 0 = Value.nilIface := rfl
      simp only [hnil]
      clear hnil
      go_wp2_with fail
      refine (HI.out _).mono ?_
      rintro e w5 ⟨rfl, hb⟩
      have B5 := Kp.mk (B4.out.trans (hb.mono B4.out.size))
      have Q5 := Kp.mk (Q4.out.later hb)
      have P5 := Kp.mk (P4.out.later hb)
      have Z5 := Kp.mk (Z4.out.later hb)
      clear hb
      clear q0 q1 c0 c1 c2 c3 z0 z1 f0 f1 l0 l1 l2
      have q0 := Q5.out.cell 0 _ rfl
      have q1 := Q5.out.cell 1 _ rfl
      have c0 := P5.out.c0
      have c1 := P5.out.c1
      have c2 := P5.out.c2
      have c3 := P5.out.c3
      have z0 := Z5.out.cell 0 _ rfl
      have z1 := Z5.out.cell 1 _ rfl
      have f0 := Z5.out.free 0
      have f1 := Z5.out.free 1
      have l2 := Z5.out.lt
      have l1 := Q5.out.lt
      have l0 : w.heap.size < w5.heap.size := Nat.lt_trans (Nat.lt_succ_self _) l1
      go_wp2_with fail
      refine (HQ.out _).mono ?_
      rintro e w6 ⟨rfl, hb⟩
      have B6 := Kp.mk (B5.out.trans (hb.mono B5.out.size))
      have Q6 := Kp.mk (Q5.out.later hb)
      have P6 := Kp.mk (P5.out.later hb)
      have Z6 := Kp.mk (Z5.out.later hb)
      clear hb
      clear q0 q1 c0 c1 c2 c3 z0 z1 f0 f1 l0 l1 l2
      have q0 := Q6.out.cell 0 _ rfl
      have q1 := Q6.out.cell 1 _ rfl
      have c0 := P6.out.c0
      have c1 := P6.out.c1
      have c2 := P6.out.c2
      have c3 := P6.out.c3
      have z0 := Z6.out.cell 0 _ rfl
      have z1 := Z6.out.cell 1 _ rfl
      have f0 := Z6.out.free 0
      have f1 := Z6.out.free 1
      have l2 := Z6.out.lt
      have l1 := Q6.out.lt
      have l0 : w.heap.size < w6.heap.size := Nat.lt_trans (Nat.lt_succ_self _) l1
      go_wp2_with fail
      have t0 := HTC.out w6 B6.out
      have SQ : Kp (∀ v, Below w6.heap.size w6 v → PQS v w.heap.size 1 s d r (some ⟨tb, to, none⟩) n cap g ∧ v.cell? ⟨tb, to, none⟩ = some (.string T)) := ⟨fun v hv => ⟨pqs_of (P6.out.later hv) (Q6.out.later hv), HTC.out v (B6.out.trans (hv.mono B6.out.size))⟩⟩
      have SR : Kp (∀ v x y, Below w6.heap.size w6 v → PQS ((v.setCell ⟨w.heap.size + 2, 0, none⟩ x).setCell ⟨w.heap.size + 2, 1, none⟩ y) w.heap.size 1 s d r (some ⟨tb, to, none⟩) n cap g ∧ ((v.setCell ⟨w.heap.size + 2, 0, none⟩ x).setCell ⟨w.heap.size + 2, 1, none⟩ y).cell? ⟨tb, to, none⟩ = some (.string T)) := ⟨fun v x y hv => ⟨pqs_of ((P6.out.later hv).other2 _ _ _ (by omega)) ((Q6.out.later hv).other2 _ _ _ (by omega)), HTC.out _ (below_set2 (B6.out.trans (hv.mono B6.out.size)) _ _ _ (by omega))⟩⟩
      go_region_held3 (fun v => v.cell? ⟨w.heap.size, 0, none⟩ = some (.int .i64 1) ∧ v.cell? ⟨w.heap.size, 1, none⟩ = some (.int .i64 s) ∧ v.cell? ⟨w.heap.size, 2, none⟩ = some (.int .i64 d) ∧ v.cell? ⟨w.heap.size, 3, none⟩ = some (.int .i64 r) ∧ v.cell? ⟨w.heap.size + 1, 0, none⟩ = some (.slice (some ⟨tb, to, none⟩) n cap) ∧ v.cell? ⟨w.heap.size + 1, 1, none⟩ = some (.int .i64 g) ∧ v.cell? ⟨tb, to, none⟩ = some (.string T)) (first | exact sflat (SQ.out _ (Drew.once _).below) | exact sflat (SQ.out _ (bl1 _ _ _)) | exact sflat (SQ.out _ HX.out) | exact sflat (SR.out _ _ _ HX.out))
        ((go_at_call 54; refine (port_copied (some ⟨tb, to, none⟩) n cap l g _ (H0.out.later (B6.out.trans ((Drew.once w6).below.mono B6.out.size)))).mono ?_; rintro e wy ⟨v, rfl, ho, hb⟩; obtain ⟨a', c', m', hm', rfl⟩ := ho.shapeN; have HX := Kp.mk ((Drew.once w6).below.trans (hb.mono (Drew.once w6).below.size)); have HO := Kp.mk ho; have z0' := (Z6.out.later HX.out).cell 0 _ rfl; have z1' := (Z6.out.later HX.out).cell 1 _ rfl; have f0' := (Z6.out.later HX.out).free 0; have f1' := (Z6.out.later HX.out).free 1; clear hb ho))
      all_goals (
        have HZ := Kp.mk ((Z6.out.later HX.out).set2 (.slice a' m' c') (.int .i64 g))
        have BF := Kp.mk (below_set2 (B6.out.trans (HX.out.mono B6.out.size)) (w.heap.size + 2) (.slice a' m' c') (.int .i64 g) (by omega))
        have OF := Kp.mk ((HO.out.set2 (w.heap.size + 2) (.slice a' m' c') (.int .i64 g) Z6.out.lt).mono (B' := w.heap.size) B6.out.size)
        go_wp2
        refine bodyPost_ret (res4 (p := 4) (q := 5) (r := 6) (s := 7) (ty := 29) rfl _ rfl (by exact HZ.out) _ Tryd.underlying29 (portInfo _ rfl)) rfl ⟨_, rfl, by exact OF.out, BF.out⟩)
    · have hk : inK (PortP.mk 2 s d r).kind = false := rfl
      have HI : Kp (∀ w, Calls Tryd.prog 51 #[.agg (rowK 2 s d r)] w fun e w' => e = .returned (.bool false) ∧ Below w.heap.size w w') := ⟨fun w => HI.out w⟩
      have HQ : Kp (∀ w, Calls Tryd.prog 52 #[.agg (rowK 2 s d r)] w fun e w' => e = .returned (.bool false) ∧ Below w.heap.size w w') := ⟨fun w => HQ.out w⟩
      have e1 := getC_kind hc hk
      obtain ⟨e2, e3, e4, e5⟩ := get_not (p := ⟨2, s, d, r⟩) (l := l) (g := g) (by rw [e1]; decide)
      rw [e1, e2, e3, e4, e5]
      clear e1 e2 e3 e4 e5
      rw [hc] at HC
      show Calls Tryd.prog 12 #[.agg (rowK 2 s d r), .agg (portA a n cap g)] w fun e w' => ∃ v, e = .returned (.tuple #[.agg #[v, .int .i64 (0)], .string (noS), .bool (false), errv (A 7)]) ∧ OwnS w' w.heap.size v ([]) ∧ Below w.heap.size w w'
      clear hc hk hk1 hk4 hdn hd8 hd1
      go_enter Tryd.func12, Tryd.ntmps12
      go_wp2_with fail
      rw [← E3.out]
      refine HC.out.mono ?_
      rintro e w4 ⟨rfl, hb⟩
      have B4 := Kp.mk (B3.out.trans (hb.mono B3.out.size))
      have Q4 := Kp.mk (Q3.out.later hb)
      have P4 := Kp.mk (P3.out.later hb)
      have Z4 := Kp.mk (Z3.out.later hb)
      clear hb
      have q0 := Q4.out.cell 0 _ rfl
      have q1 := Q4.out.cell 1 _ rfl
      have c0 := P4.out.c0
      have c1 := P4.out.c1
      have c2 := P4.out.c2
      have c3 := P4.out.c3
      have z0 := Z4.out.cell 0 _ rfl
      have z1 := Z4.out.cell 1 _ rfl
      have f0 := Z4.out.free 0
      have f1 := Z4.out.free 1
      have l2 := Z4.out.lt
      have l1 := Q4.out.lt
      have l0 : w.heap.size < w4.heap.size := Nat.lt_trans (Nat.lt_succ_self _) l1
      have hnil : errOf A 0 = Value.nilIface := rfl
      simp only [hnil]
      clear hnil
      go_wp2_with fail
      refine (HI.out _).mono ?_
      rintro e w5 ⟨rfl, hb⟩
      have B5 := Kp.mk (B4.out.trans (hb.mono B4.out.size))
      have Q5 := Kp.mk (Q4.out.later hb)
      have P5 := Kp.mk (P4.out.later hb)
      have Z5 := Kp.mk (Z4.out.later hb)
      clear hb
      clear q0 q1 c0 c1 c2 c3 z0 z1 f0 f1 l0 l1 l2
      have q0 := Q5.out.cell 0 _ rfl
      have q1 := Q5.out.cell 1 _ rfl
      have c0 := P5.out.c0
      have c1 := P5.out.c1
      have c2 := P5.out.c2
      have c3 := P5.out.c3
      have z0 := Z5.out.cell 0 _ rfl
      have z1 := Z5.out.cell 1 _ rfl
      have f0 := Z5.out.free 0
      have f1 := Z5.out.free 1
      have l2 := Z5.out.lt
      have l1 := Q5.out.lt
      have l0 : w.heap.size < w5.heap.size := Nat.lt_trans (Nat.lt_succ_self _) l1
      go_wp2_with fail
      have x := (HE.out.later B5.out).cell 7 (by decide)
      have xl := World.block_lt_of_cell? w ⟨errVar 7, 0, none⟩ (HE.out.cell 7 (by decide))
      simp only [errVar] at x xl
      have x1 := far1 xl
      have x2 := far2 xl
      have x3 := far3 xl
      have x4 := far4 xl
      have x5 := far5 xl
      have x6 := far6 xl
      simp only [Nat.reduceSub] at x5 x6
      clear xl
      have HZ := Kp.mk (Z5.out.set2 (.slice none 0 0) (.int .i64 0))
      have BF := Kp.mk (below_set2 (B5.out.trans ((Drew.once w5).below.mono B5.out.size)) (w.heap.size + 2) (.slice none 0 0) (.int .i64 0) (by omega))
      have BG := Kp.mk (BF.out.drew)
      have BH := Kp.mk ((below_set2 B5.out (w.heap.size + 2) (.slice none 0 0) (.int .i64 0) (by omega)).drew)
      go_region
      all_goals (
        go_wp2
        refine bodyPost_ret (res4 (p := 4) (q := 5) (r := 6) (s := 7) (ty := 29) rfl _ rfl (by exact HZ.out) _ Tryd.underlying29 (portInfo _ rfl)) rfl ⟨_, rfl, OwnS.nil _ _, by first | exact BF.out | exact BH.out⟩)
    · have hk : inK (PortP.mk 3 s d r).kind = true := rfl
      have HI : Kp (∀ w, Calls Tryd.prog 51 #[.agg (rowK 3 s d r)] w fun e w' => e = .returned (.bool true) ∧ Below w.heap.size w w') := ⟨fun w => HI.out w⟩
      have HQ : Kp (∀ w, Calls Tryd.prog 52 #[.agg (rowK 3 s d r)] w fun e w' => e = .returned (.bool true) ∧ Below w.heap.size w w') := ⟨fun w => HQ.out w⟩
      by_cases h0 : n = 0
      · have e1 := getC_none hc hk (by rw [HLN.out]; exact h0)
        obtain ⟨e2, e3, e4, e5⟩ := get_not (p := ⟨3, s, d, r⟩) (l := l) (g := g) (by rw [e1]; decide)
        rw [e1, e2, e3, e4, e5]
        clear e1 e2 e3 e4 e5
        rw [hc] at HC
        show Calls Tryd.prog 12 #[.agg (rowK 3 s d r), .agg (portA a n cap g)] w fun e w' => ∃ v, e = .returned (.tuple #[.agg #[v, .int .i64 (0)], .string (noS), .bool (false), errv (A 17)]) ∧ OwnS w' w.heap.size v ([]) ∧ Below w.heap.size w w'
        have h0' : ((n : Int) == 0) = true := by rw [h0]; rfl
        clear hc hk hk1 hk4 hdn hd8 hd1 h0
        go_enter Tryd.func12, Tryd.ntmps12
        go_wp2_with fail
        rw [← E3.out]
        refine HC.out.mono ?_
        rintro e w4 ⟨rfl, hb⟩
        have B4 := Kp.mk (B3.out.trans (hb.mono B3.out.size))
        have Q4 := Kp.mk (Q3.out.later hb)
        have P4 := Kp.mk (P3.out.later hb)
        have Z4 := Kp.mk (Z3.out.later hb)
        clear hb
        have q0 := Q4.out.cell 0 _ rfl
        have q1 := Q4.out.cell 1 _ rfl
        have c0 := P4.out.c0
        have c1 := P4.out.c1
        have c2 := P4.out.c2
        have c3 := P4.out.c3
        have z0 := Z4.out.cell 0 _ rfl
        have z1 := Z4.out.cell 1 _ rfl
        have f0 := Z4.out.free 0
        have f1 := Z4.out.free 1
        have l2 := Z4.out.lt
        have l1 := Q4.out.lt
        have l0 : w.heap.size < w4.heap.size := Nat.lt_trans (Nat.lt_succ_self _) l1
        have hnil : errOf A 0 = Value.nilIface := rfl
        simp only [hnil]
        clear hnil
        go_wp2_with fail
        refine (HI.out _).mono ?_
        rintro e w5 ⟨rfl, hb⟩
        have B5 := Kp.mk (B4.out.trans (hb.mono B4.out.size))
        have Q5 := Kp.mk (Q4.out.later hb)
        have P5 := Kp.mk (P4.out.later hb)
        have Z5 := Kp.mk (Z4.out.later hb)
        clear hb
        clear q0 q1 c0 c1 c2 c3 z0 z1 f0 f1 l0 l1 l2
        have q0 := Q5.out.cell 0 _ rfl
        have q1 := Q5.out.cell 1 _ rfl
        have c0 := P5.out.c0
        have c1 := P5.out.c1
        have c2 := P5.out.c2
        have c3 := P5.out.c3
        have z0 := Z5.out.cell 0 _ rfl
        have z1 := Z5.out.cell 1 _ rfl
        have f0 := Z5.out.free 0
        have f1 := Z5.out.free 1
        have l2 := Z5.out.lt
        have l1 := Q5.out.lt
        have l0 : w.heap.size < w5.heap.size := Nat.lt_trans (Nat.lt_succ_self _) l1
        go_wp2_with fail
        have x := (HE.out.later B5.out).cell 17 (by decide)
        have xl := World.block_lt_of_cell? w ⟨errVar 17, 0, none⟩ (HE.out.cell 17 (by decide))
        simp only [errVar] at x xl
        have x1 := far1 xl
        have x2 := far2 xl
        have x3 := far3 xl
        have x4 := far4 xl
        have x5 := far5 xl
        have x6 := far6 xl
        simp only [Nat.reduceSub] at x5 x6
        clear xl
        have HZ := Kp.mk (Z5.out.set2 (.slice none 0 0) (.int .i64 0))
        have BF := Kp.mk (below_set2 (B5.out.trans ((Drew.once w5).below.mono B5.out.size)) (w.heap.size + 2) (.slice none 0 0) (.int .i64 0) (by omega))
        have BG := Kp.mk (BF.out.drew)
        have BH := Kp.mk ((below_set2 B5.out (w.heap.size + 2) (.slice none 0 0) (.int .i64 0) (by omega)).drew)
        go_region
        all_goals (
          go_wp2
          refine bodyPost_ret (res4 (p := 4) (q := 5) (r := 6) (s := 7) (ty := 29) rfl _ rfl (by exact HZ.out) _ Tryd.underlying29 (portInfo _ rfl)) rfl ⟨_, rfl, OwnS.nil _ _, by first | exact BF.out | exact BH.out⟩)
      have e1 := getC_ok hc hk (by rw [HLN.out]; exact h0)
      obtain ⟨e2, e3, e4, e5⟩ := get_queue e1 (show ¬ (3 : Int) = 1 by decide)
      rw [e1, e2, e3, e4, e5]
      clear e1 e2 e3 e4 e5
      rw [hc] at HC
      have h0' : ((n : Int) == 0) = false := by simp; omega
      have hn8 : n ≤ 8 := by omega
      have hn1 : 0 < n := by omega
      have hn0 : 0 < n := by omega
      have HN1 := Kp.mk hn1
      clear hn1
      obtain ⟨tb, to, hta, htc, hts⟩ := H0.out.at 0 hn0
      have htl := World.block_lt_of_cell? w _ htc
      have HTC : Kp (∀ v, Below w.heap.size w v → v.cell? ⟨tb, to, none⟩ = some (.string (l.getD 0 noS))) := ⟨fun v hv => (hv.cell (p := ⟨tb, to, none⟩) htl).trans htc⟩
      have HTS := Kp.mk hts
      obtain ⟨T, hT⟩ : ∃ T, T = l.getD 0 noS := ⟨_, rfl⟩
      have HTL := Kp.mk hT
      rw [← hT] at HTC HTS ⊢
      show Calls Tryd.prog 12 #[.agg (rowK 3 s d r), .agg (portA a n cap g)] w fun e w' => ∃ v, e = .returned (.tuple #[.agg #[v, .int .i64 (0)], .string (T), .bool (true), .nilIface]) ∧ OwnS w' w.heap.size v (l.drop 1) ∧ Below w.heap.size w w'
      subst hta
      have hi0 : (0 : Int) < (n : Int) := by omega
      clear hc hk hk1 hk4 hdn hd8 hd1 h0 htc htl hts hT
      obtain ⟨ta, hta, hsl⟩ := tail_of H0.out hn0
      have HTA := Kp.mk hta
      clear hta
      go_enter Tryd.func12, Tryd.ntmps12
      go_wp2_with fail
      rw [← E3.out]
      refine HC.out.mono ?_
      rintro e w4 ⟨rfl, hb⟩
      have B4 := Kp.mk (B3.out.trans (hb.mono B3.out.size))
      have Q4 := Kp.mk (Q3.out.later hb)
      have P4 := Kp.mk (P3.out.later hb)
      have Z4 := Kp.mk (Z3.out.later hb)
      clear hb
      have q0 := Q4.out.cell 0 _ rfl
      have q1 := Q4.out.cell 1 _ rfl
      have c0 := P4.out.c0
      have c1 := P4.out.c1
      have c2 := P4.out.c2
      have c3 := P4.out.c3
      have z0 := Z4.out.cell 0 _ rfl
      have z1 := Z4.out.cell 1 _ rfl
      have f0 := Z4.out.free 0
      have f1 := Z4.out.free 1
      have l2 := Z4.out.lt
      have l1 := Q4.out.lt
      have l0 : w.heap.size < w4.heap.size := Nat.lt_trans (Nat.lt_succ_self _) l1
      have hnil : errOf A 0 = Value.nilIface := rfl
      simp only [hnil]
      clear hnil
      go_wp2_with fail
      refine (HI.out _).mono ?_
      rintro e w5 ⟨rfl, hb⟩
      have B5 := Kp.mk (B4.out.trans (hb.mono B4.out.size))
      have Q5 := Kp.mk (Q4.out.later hb)
      have P5 := Kp.mk (P4.out.later hb)
      have Z5 := Kp.mk (Z4.out.later hb)
      clear hb
      clear q0 q1 c0 c1 c2 c3 z0 z1 f0 f1 l0 l1 l2
      have q0 := Q5.out.cell 0 _ rfl
      have q1 := Q5.out.cell 1 _ rfl
      have c0 := P5.out.c0
      have c1 := P5.out.c1
      have c2 := P5.out.c2
      have c3 := P5.out.c3
      have z0 := Z5.out.cell 0 _ rfl
      have z1 := Z5.out.cell 1 _ rfl
      have f0 := Z5.out.free 0
      have f1 := Z5.out.free 1
      have l2 := Z5.out.lt
      have l1 := Q5.out.lt
      have l0 : w.heap.size < w5.heap.size := Nat.lt_trans (Nat.lt_succ_self _) l1
      go_wp2_with fail
      refine (HQ.out _).mono ?_
      rintro e w6 ⟨rfl, hb⟩
      have B6 := Kp.mk (B5.out.trans (hb.mono B5.out.size))
      have Q6 := Kp.mk (Q5.out.later hb)
      have P6 := Kp.mk (P5.out.later hb)
      have Z6 := Kp.mk (Z5.out.later hb)
      clear hb
      clear q0 q1 c0 c1 c2 c3 z0 z1 f0 f1 l0 l1 l2
      have q0 := Q6.out.cell 0 _ rfl
      have q1 := Q6.out.cell 1 _ rfl
      have c0 := P6.out.c0
      have c1 := P6.out.c1
      have c2 := P6.out.c2
      have c3 := P6.out.c3
      have z0 := Z6.out.cell 0 _ rfl
      have z1 := Z6.out.cell 1 _ rfl
      have f0 := Z6.out.free 0
      have f1 := Z6.out.free 1
      have l2 := Z6.out.lt
      have l1 := Q6.out.lt
      have l0 : w.heap.size < w6.heap.size := Nat.lt_trans (Nat.lt_succ_self _) l1
      go_wp2_with fail
      have t0 := HTC.out w6 B6.out
      have SQ : Kp (∀ v, Below w6.heap.size w6 v → PQS v w.heap.size 3 s d r (some ⟨tb, to, none⟩) n cap g ∧ v.cell? ⟨tb, to, none⟩ = some (.string T)) := ⟨fun v hv => ⟨pqs_of (P6.out.later hv) (Q6.out.later hv), HTC.out v (B6.out.trans (hv.mono B6.out.size))⟩⟩
      have SR : Kp (∀ v x y, Below w6.heap.size w6 v → PQS ((v.setCell ⟨w.heap.size + 2, 0, none⟩ x).setCell ⟨w.heap.size + 2, 1, none⟩ y) w.heap.size 3 s d r (some ⟨tb, to, none⟩) n cap g ∧ ((v.setCell ⟨w.heap.size + 2, 0, none⟩ x).setCell ⟨w.heap.size + 2, 1, none⟩ y).cell? ⟨tb, to, none⟩ = some (.string T)) := ⟨fun v x y hv => ⟨pqs_of ((P6.out.later hv).other2 _ _ _ (by omega)) ((Q6.out.later hv).other2 _ _ _ (by omega)), HTC.out _ (below_set2 (B6.out.trans (hv.mono B6.out.size)) _ _ _ (by omega))⟩⟩
      go_region_held3 (fun v => v.cell? ⟨w.heap.size, 0, none⟩ = some (.int .i64 3) ∧ v.cell? ⟨w.heap.size, 1, none⟩ = some (.int .i64 s) ∧ v.cell? ⟨w.heap.size, 2, none⟩ = some (.int .i64 d) ∧ v.cell? ⟨w.heap.size, 3, none⟩ = some (.int .i64 r) ∧ v.cell? ⟨w.heap.size + 1, 0, none⟩ = some (.slice (some ⟨tb, to, none⟩) n cap) ∧ v.cell? ⟨w.heap.size + 1, 1, none⟩ = some (.int .i64 g) ∧ v.cell? ⟨tb, to, none⟩ = some (.string T)) (first | exact sflat (SQ.out _ (Drew.once _).below) | exact sflat (SQ.out _ (bl1 _ _ _)) | exact sflat (SQ.out _ HX.out) | exact sflat (SR.out _ _ _ HX.out))
        ((go_at_call 53; refine (str_clone ta (n - 1) (cap - 1) (l.drop 1) _ (HTA.out.later (B6.out.trans ((Drew.once w6).below.mono B6.out.size)))).mono ?_; rintro e wy ⟨v, rfl, ho, hb⟩; obtain ⟨a', c', m', hm', rfl⟩ := ho.shapeN; have HX := Kp.mk ((Drew.once w6).below.trans (hb.mono (Drew.once w6).below.size)); have HO := Kp.mk ho; have z0' := (Z6.out.later HX.out).cell 0 _ rfl; have z1' := (Z6.out.later HX.out).cell 1 _ rfl; have f0' := (Z6.out.later HX.out).free 0; have f1' := (Z6.out.later HX.out).free 1; clear hb ho))
      all_goals (
        have HZ := Kp.mk ((Z6.out.later HX.out).set2 (.slice a' m' c') (.int .i64 0))
        have BF := Kp.mk (below_set2 (B6.out.trans (HX.out.mono B6.out.size)) (w.heap.size + 2) (.slice a' m' c') (.int .i64 0) (by omega))
        have OF := Kp.mk ((HO.out.set2 (w.heap.size + 2) (.slice a' m' c') (.int .i64 0) Z6.out.lt).mono (B' := w.heap.size) B6.out.size)
        go_wp2
        refine bodyPost_ret (res4 (p := 4) (q := 5) (r := 6) (s := 7) (ty := 29) rfl _ rfl (by exact HZ.out) _ Tryd.underlying29 (portInfo _ rfl)) rfl ⟨_, rfl, by exact OF.out, BF.out⟩)
    · have hk : inK (PortP.mk 4 s d r).kind = false := rfl
      have HI : Kp (∀ w, Calls Tryd.prog 51 #[.agg (rowK 4 s d r)] w fun e w' => e = .returned (.bool false) ∧ Below w.heap.size w w') := ⟨fun w => HI.out w⟩
      have HQ : Kp (∀ w, Calls Tryd.prog 52 #[.agg (rowK 4 s d r)] w fun e w' => e = .returned (.bool true) ∧ Below w.heap.size w w') := ⟨fun w => HQ.out w⟩
      have e1 := getC_kind hc hk
      obtain ⟨e2, e3, e4, e5⟩ := get_not (p := ⟨4, s, d, r⟩) (l := l) (g := g) (by rw [e1]; decide)
      rw [e1, e2, e3, e4, e5]
      clear e1 e2 e3 e4 e5
      rw [hc] at HC
      show Calls Tryd.prog 12 #[.agg (rowK 4 s d r), .agg (portA a n cap g)] w fun e w' => ∃ v, e = .returned (.tuple #[.agg #[v, .int .i64 (0)], .string (noS), .bool (false), errv (A 7)]) ∧ OwnS w' w.heap.size v ([]) ∧ Below w.heap.size w w'
      clear hc hk hk1 hk4 hdn hd8 hd1
      go_enter Tryd.func12, Tryd.ntmps12
      go_wp2_with fail
      rw [← E3.out]
      refine HC.out.mono ?_
      rintro e w4 ⟨rfl, hb⟩
      have B4 := Kp.mk (B3.out.trans (hb.mono B3.out.size))
      have Q4 := Kp.mk (Q3.out.later hb)
      have P4 := Kp.mk (P3.out.later hb)
      have Z4 := Kp.mk (Z3.out.later hb)
      clear hb
      have q0 := Q4.out.cell 0 _ rfl
      have q1 := Q4.out.cell 1 _ rfl
      have c0 := P4.out.c0
      have c1 := P4.out.c1
      have c2 := P4.out.c2
      have c3 := P4.out.c3
      have z0 := Z4.out.cell 0 _ rfl
      have z1 := Z4.out.cell 1 _ rfl
      have f0 := Z4.out.free 0
      have f1 := Z4.out.free 1
      have l2 := Z4.out.lt
      have l1 := Q4.out.lt
      have l0 : w.heap.size < w4.heap.size := Nat.lt_trans (Nat.lt_succ_self _) l1
      have hnil : errOf A 0 = Value.nilIface := rfl
      simp only [hnil]
      clear hnil
      go_wp2_with fail
      refine (HI.out _).mono ?_
      rintro e w5 ⟨rfl, hb⟩
      have B5 := Kp.mk (B4.out.trans (hb.mono B4.out.size))
      have Q5 := Kp.mk (Q4.out.later hb)
      have P5 := Kp.mk (P4.out.later hb)
      have Z5 := Kp.mk (Z4.out.later hb)
      clear hb
      clear q0 q1 c0 c1 c2 c3 z0 z1 f0 f1 l0 l1 l2
      have q0 := Q5.out.cell 0 _ rfl
      have q1 := Q5.out.cell 1 _ rfl
      have c0 := P5.out.c0
      have c1 := P5.out.c1
      have c2 := P5.out.c2
      have c3 := P5.out.c3
      have z0 := Z5.out.cell 0 _ rfl
      have z1 := Z5.out.cell 1 _ rfl
      have f0 := Z5.out.free 0
      have f1 := Z5.out.free 1
      have l2 := Z5.out.lt
      have l1 := Q5.out.lt
      have l0 : w.heap.size < w5.heap.size := Nat.lt_trans (Nat.lt_succ_self _) l1
      go_wp2_with fail
      have x := (HE.out.later B5.out).cell 7 (by decide)
      have xl := World.block_lt_of_cell? w ⟨errVar 7, 0, none⟩ (HE.out.cell 7 (by decide))
      simp only [errVar] at x xl
      have x1 := far1 xl
      have x2 := far2 xl
      have x3 := far3 xl
      have x4 := far4 xl
      have x5 := far5 xl
      have x6 := far6 xl
      simp only [Nat.reduceSub] at x5 x6
      clear xl
      have HZ := Kp.mk (Z5.out.set2 (.slice none 0 0) (.int .i64 0))
      have BF := Kp.mk (below_set2 (B5.out.trans ((Drew.once w5).below.mono B5.out.size)) (w.heap.size + 2) (.slice none 0 0) (.int .i64 0) (by omega))
      have BG := Kp.mk (BF.out.drew)
      have BH := Kp.mk ((below_set2 B5.out (w.heap.size + 2) (.slice none 0 0) (.int .i64 0) (by omega)).drew)
      go_region
      all_goals (
        go_wp2
        refine bodyPost_ret (res4 (p := 4) (q := 5) (r := 6) (s := 7) (ty := 29) rfl _ rfl (by exact HZ.out) _ Tryd.underlying29 (portInfo _ rfl)) rfl ⟨_, rfl, OwnS.nil _ _, by first | exact BF.out | exact BH.out⟩)
  · have e1 := getC_bad hc
    obtain ⟨e2, e3, e4, e5⟩ := get_not (p := ⟨k, s, d, r⟩) (l := l) (g := g) (by rw [e1]; exact hc)
    rw [e1, e2, e3, e4, e5]
    clear e1 e2 e3 e4 e5
    obtain ⟨c, ec⟩ : ∃ c, portC ⟨k, s, d, r⟩ l g = c + 1 := ⟨portC ⟨k, s, d, r⟩ l g - 1, by omega⟩
    rw [ec] at HC ⊢
    have hx : errOf A (c + 1) = errv (A (c + 1)) := rfl
    rw [hx] at HC ⊢
    clear hx hc ec
    show Calls Tryd.prog 12 #[.agg (rowK k s d r), .agg (portA a n cap g)] w _
    go_enter Tryd.func12, Tryd.ntmps12
    go_wp2_with fail
    rw [← E3.out]
    refine HC.out.mono ?_
    rintro e w4 ⟨rfl, hb⟩
    have B4 := Kp.mk (B3.out.trans (hb.mono B3.out.size))
    have Q4 := Kp.mk (Q3.out.later hb)
    have P4 := Kp.mk (P3.out.later hb)
    have Z4 := Kp.mk (Z3.out.later hb)
    clear hb
    have q0 := Q4.out.cell 0 _ rfl
    have q1 := Q4.out.cell 1 _ rfl
    have c0 := P4.out.c0
    have c1 := P4.out.c1
    have c2 := P4.out.c2
    have c3 := P4.out.c3
    have z0 := Z4.out.cell 0 _ rfl
    have z1 := Z4.out.cell 1 _ rfl
    have f0 := Z4.out.free 0
    have f1 := Z4.out.free 1
    have l2 := Z4.out.lt
    have l1 := Q4.out.lt
    have l0 : w.heap.size < w4.heap.size := Nat.lt_trans (Nat.lt_succ_self _) l1
    go_wp2_with fail
    have HZ := Kp.mk (Z4.out.set2 (.slice none 0 0) (.int .i64 0))
    have BF := Kp.mk (below_set2 B4.out (w.heap.size + 2) (.slice none 0 0) (.int .i64 0) (by omega))
    refine bodyPost_ret (res4 (p := 4) (q := 5) (r := 6) (s := 7) (ty := 29) rfl _ rfl HZ.out _ Tryd.underlying29 (portInfo _ rfl)) rfl ⟨_, rfl, OwnS.nil _ _, BF.out⟩
set_option maxRecDepth 100000 in
set_option maxHeartbeats 16000000 in
theorem port_drain (A : Nat → Addr) (p : PortP) (a : Option Addr) (n cap : Nat) (l : List ByteArray) (g : Int) (w : World) (h : RdS w a n cap l) (hE : Errs w [4, 7, 8, 9, 11, 17] A) :
    Calls Tryd.prog 30 #[.agg p.row.toArray, .agg (portA a n cap g)] w fun e w' => ∃ v, e = .returned (.tuple #[.agg (portA none 0 0 0), v, errOf A (drC p l g)]) ∧ OwnS w' w.heap.size v (drL p l g) ∧ Below w.heap.size w w' := by
  obtain ⟨k, s, d, r⟩ := p
  obtain ⟨w3, e3, p3, q3, z3, b3⟩ := tri_box w k s d r a n cap g
  have E3 := Kp.mk e3
  have B3 := Kp.mk b3
  have H0 := Kp.mk h
  have P3 := Kp.mk p3
  have Q3 := Kp.mk q3
  have Z3 := Kp.mk z3
  have HLN := Kp.mk h.len
  have hnb := h.bound
  have HE := Kp.mk hE
  have HC := Kp.mk (port_check A ⟨k, s, d, r⟩ a n cap l g w3 (h.later b3) ((hE.later b3).sub (by decide)))
  have HI : Kp (∀ w, Calls Tryd.prog 59 #[.agg (rowK k s d r)] w fun e w' => e = .returned (.bool (outK k)) ∧ Below w.heap.size w w') := ⟨fun w => port_isOut ⟨k, s, d, r⟩ w⟩
  clear h e3 p3 q3 z3 b3 hE
  by_cases hc : portC ⟨k, s, d, r⟩ l g = 0
  · have hpl := planC_zero (portC_plan0 hc)
    have hfp := fitsP_parts (portC_zero hc).2
    have hk1 : 1 ≤ k := hpl.1
    have hk4 : k ≤ 4 := hpl.2.1
    have hdn : (n : Int) ≤ d := by have := hfp.1; rw [HLN.out] at this; exact this
    have hd8 : d ≤ 8 := Int.le_trans hpl.2.2.2.2.2.1 (depthM_le k)
    have hd1 : k < 3 → d = 1 := fun hk => by have h5 := depthM_low hk; have h6 : d ≤ depthM k := hpl.2.2.2.2.2.1; have h7 : 1 ≤ d := hpl.2.2.2.2.1; omega
    clear hpl hfp
    rcases (by omega : k = 1 ∨ k = 2 ∨ k = 3 ∨ k = 4) with rfl | rfl | rfl | rfl
    · have hk : inK (PortP.mk 1 s d r).kind = true := rfl
      have HI : Kp (∀ w, Calls Tryd.prog 59 #[.agg (rowK 1 s d r)] w fun e w' => e = .returned (.bool false) ∧ Below w.heap.size w w') := ⟨fun w => HI.out w⟩
      have e1 := drC_in hc hk
      have e2 := drL_not (p := ⟨1, s, d, r⟩) (l := l) (g := g) (by rw [e1]; decide)
      rw [e1, e2]
      clear e1 e2
      rw [hc] at HC
      show Calls Tryd.prog 30 #[.agg (rowK 1 s d r), .agg (portA a n cap g)] w fun e w' => ∃ v, e = .returned (.tuple #[.agg (portA none 0 0 0), v, errv (A 7)]) ∧ OwnS w' w.heap.size v ([]) ∧ Below w.heap.size w w'
      clear hc hk hk1 hk4 hdn hd8 hd1
      go_enter Tryd.func30, Tryd.ntmps30
      go_wp2_with fail
      rw [← E3.out]
      refine HC.out.mono ?_
      rintro e w4 ⟨rfl, hb⟩
      have B4 := Kp.mk (B3.out.trans (hb.mono B3.out.size))
      have Q4 := Kp.mk (Q3.out.later hb)
      have P4 := Kp.mk (P3.out.later hb)
      have Z4 := Kp.mk (Z3.out.later hb)
      clear hb
      have q0 := Q4.out.cell 0 _ rfl
      have q1 := Q4.out.cell 1 _ rfl
      have c0 := P4.out.c0
      have c1 := P4.out.c1
      have c2 := P4.out.c2
      have c3 := P4.out.c3
      have z0 := Z4.out.cell 0 _ rfl
      have z1 := Z4.out.cell 1 _ rfl
      have f0 := Z4.out.free 0
      have f1 := Z4.out.free 1
      have l2 := Z4.out.lt
      have l1 := Q4.out.lt
      have l0 : w.heap.size < w4.heap.size := Nat.lt_trans (Nat.lt_succ_self _) l1
      have hnil : errOf A 0 = Value.nilIface := rfl
      simp only [hnil]
      clear hnil
      go_wp2_with fail
      refine (HI.out _).mono ?_
      rintro e w5 ⟨rfl, hb⟩
      have B5 := Kp.mk (B4.out.trans (hb.mono B4.out.size))
      have Q5 := Kp.mk (Q4.out.later hb)
      have P5 := Kp.mk (P4.out.later hb)
      have Z5 := Kp.mk (Z4.out.later hb)
      clear hb
      clear q0 q1 c0 c1 c2 c3 z0 z1 f0 f1 l0 l1 l2
      have q0 := Q5.out.cell 0 _ rfl
      have q1 := Q5.out.cell 1 _ rfl
      have c0 := P5.out.c0
      have c1 := P5.out.c1
      have c2 := P5.out.c2
      have c3 := P5.out.c3
      have z0 := Z5.out.cell 0 _ rfl
      have z1 := Z5.out.cell 1 _ rfl
      have f0 := Z5.out.free 0
      have f1 := Z5.out.free 1
      have l2 := Z5.out.lt
      have l1 := Q5.out.lt
      have l0 : w.heap.size < w5.heap.size := Nat.lt_trans (Nat.lt_succ_self _) l1
      go_wp2_with fail
      have x := (HE.out.later B5.out).cell 7 (by decide)
      have xl := World.block_lt_of_cell? w ⟨errVar 7, 0, none⟩ (HE.out.cell 7 (by decide))
      simp only [errVar] at x xl
      have x1 := far1 xl
      have x2 := far2 xl
      have x3 := far3 xl
      have x4 := far4 xl
      have x5 := far5 xl
      have x6 := far6 xl
      simp only [Nat.reduceSub] at x5 x6
      clear xl
      have HZ := Kp.mk (Z5.out.set2 (.slice none 0 0) (.int .i64 0))
      have BF := Kp.mk (below_set2 (B5.out.trans ((Drew.once w5).below.mono B5.out.size)) (w.heap.size + 2) (.slice none 0 0) (.int .i64 0) (by omega))
      have BG := Kp.mk (BF.out.drew)
      have BH := Kp.mk ((below_set2 B5.out (w.heap.size + 2) (.slice none 0 0) (.int .i64 0) (by omega)).drew)
      go_region
      all_goals (
        go_wp2
        refine bodyPost_ret (res3 (p := 4) (q := 5) (r := 6) (ty := 29) rfl _ rfl (by exact HZ.out) _ Tryd.underlying29 (portInfo _ rfl)) rfl ⟨_, rfl, OwnS.nil _ _, by first | exact BF.out | exact BH.out⟩)
    · have hk : inK (PortP.mk 2 s d r).kind = false := rfl
      have HI : Kp (∀ w, Calls Tryd.prog 59 #[.agg (rowK 2 s d r)] w fun e w' => e = .returned (.bool true) ∧ Below w.heap.size w w') := ⟨fun w => HI.out w⟩
      have e1 := drC_ok hc hk
      have e2 := drL_ok e1
      rw [e1, e2]
      clear e1 e2
      rw [hc] at HC
      show Calls Tryd.prog 30 #[.agg (rowK 2 s d r), .agg (portA a n cap g)] w fun e w' => ∃ v, e = .returned (.tuple #[.agg (portA none 0 0 0), v, .nilIface]) ∧ OwnS w' w.heap.size v (l) ∧ Below w.heap.size w w'
      have hn8 : n ≤ 8 := by omega
      clear hc hk hk1 hk4 hdn hd8 hd1
      go_enter Tryd.func30, Tryd.ntmps30
      go_wp2_with fail
      rw [← E3.out]
      refine HC.out.mono ?_
      rintro e w4 ⟨rfl, hb⟩
      have B4 := Kp.mk (B3.out.trans (hb.mono B3.out.size))
      have Q4 := Kp.mk (Q3.out.later hb)
      have P4 := Kp.mk (P3.out.later hb)
      have Z4 := Kp.mk (Z3.out.later hb)
      clear hb
      have q0 := Q4.out.cell 0 _ rfl
      have q1 := Q4.out.cell 1 _ rfl
      have c0 := P4.out.c0
      have c1 := P4.out.c1
      have c2 := P4.out.c2
      have c3 := P4.out.c3
      have z0 := Z4.out.cell 0 _ rfl
      have z1 := Z4.out.cell 1 _ rfl
      have f0 := Z4.out.free 0
      have f1 := Z4.out.free 1
      have l2 := Z4.out.lt
      have l1 := Q4.out.lt
      have l0 : w.heap.size < w4.heap.size := Nat.lt_trans (Nat.lt_succ_self _) l1
      have hnil : errOf A 0 = Value.nilIface := rfl
      simp only [hnil]
      clear hnil
      go_wp2_with fail
      refine (HI.out _).mono ?_
      rintro e w5 ⟨rfl, hb⟩
      have B5 := Kp.mk (B4.out.trans (hb.mono B4.out.size))
      have Q5 := Kp.mk (Q4.out.later hb)
      have P5 := Kp.mk (P4.out.later hb)
      have Z5 := Kp.mk (Z4.out.later hb)
      clear hb
      clear q0 q1 c0 c1 c2 c3 z0 z1 f0 f1 l0 l1 l2
      have q0 := Q5.out.cell 0 _ rfl
      have q1 := Q5.out.cell 1 _ rfl
      have c0 := P5.out.c0
      have c1 := P5.out.c1
      have c2 := P5.out.c2
      have c3 := P5.out.c3
      have z0 := Z5.out.cell 0 _ rfl
      have z1 := Z5.out.cell 1 _ rfl
      have f0 := Z5.out.free 0
      have f1 := Z5.out.free 1
      have l2 := Z5.out.lt
      have l1 := Q5.out.lt
      have l0 : w.heap.size < w5.heap.size := Nat.lt_trans (Nat.lt_succ_self _) l1
      go_wp2_with fail
      refine (str_clone a n cap l w5 (H0.out.later B5.out)).mono ?_
      rintro e w6 ⟨v, rfl, ho, hb⟩
      have ZS := Kp.mk Z5.out.lt
      have B6 := Kp.mk (B5.out.trans (hb.mono B5.out.size))
      have Q6 := Kp.mk (Q5.out.later hb)
      have P6 := Kp.mk (P5.out.later hb)
      have Z6 := Kp.mk (Z5.out.later hb)
      have HO := Kp.mk ho
      clear hb ho
      clear q0 q1 c0 c1 c2 c3 z0 z1 f0 f1 l0 l1 l2
      have q0 := Q6.out.cell 0 _ rfl
      have q1 := Q6.out.cell 1 _ rfl
      have c0 := P6.out.c0
      have c1 := P6.out.c1
      have c2 := P6.out.c2
      have c3 := P6.out.c3
      have z0 := Z6.out.cell 0 _ rfl
      have z1 := Z6.out.cell 1 _ rfl
      have f0 := Z6.out.free 0
      have f1 := Z6.out.free 1
      have l2 := Z6.out.lt
      have l1 := Q6.out.lt
      have l0 : w.heap.size < w6.heap.size := Nat.lt_trans (Nat.lt_succ_self _) l1
      go_wp2_with fail
      have HZ := Kp.mk (Z6.out.set2 (.slice none 0 0) (.int .i64 0))
      have BF := Kp.mk (below_set2 B6.out (w.heap.size + 2) (.slice none 0 0) (.int .i64 0) (by omega))
      have OF := Kp.mk ((HO.out.set2 (w.heap.size + 2) (.slice none 0 0) (.int .i64 0) ZS.out).mono (B' := w.heap.size) B5.out.size)
      refine bodyPost_ret (res3 (p := 4) (q := 5) (r := 6) (ty := 29) rfl _ rfl HZ.out _ Tryd.underlying29 (portInfo _ rfl)) rfl ⟨_, rfl, OF.out, BF.out⟩
    · have hk : inK (PortP.mk 3 s d r).kind = true := rfl
      have HI : Kp (∀ w, Calls Tryd.prog 59 #[.agg (rowK 3 s d r)] w fun e w' => e = .returned (.bool false) ∧ Below w.heap.size w w') := ⟨fun w => HI.out w⟩
      have e1 := drC_in hc hk
      have e2 := drL_not (p := ⟨3, s, d, r⟩) (l := l) (g := g) (by rw [e1]; decide)
      rw [e1, e2]
      clear e1 e2
      rw [hc] at HC
      show Calls Tryd.prog 30 #[.agg (rowK 3 s d r), .agg (portA a n cap g)] w fun e w' => ∃ v, e = .returned (.tuple #[.agg (portA none 0 0 0), v, errv (A 7)]) ∧ OwnS w' w.heap.size v ([]) ∧ Below w.heap.size w w'
      clear hc hk hk1 hk4 hdn hd8 hd1
      go_enter Tryd.func30, Tryd.ntmps30
      go_wp2_with fail
      rw [← E3.out]
      refine HC.out.mono ?_
      rintro e w4 ⟨rfl, hb⟩
      have B4 := Kp.mk (B3.out.trans (hb.mono B3.out.size))
      have Q4 := Kp.mk (Q3.out.later hb)
      have P4 := Kp.mk (P3.out.later hb)
      have Z4 := Kp.mk (Z3.out.later hb)
      clear hb
      have q0 := Q4.out.cell 0 _ rfl
      have q1 := Q4.out.cell 1 _ rfl
      have c0 := P4.out.c0
      have c1 := P4.out.c1
      have c2 := P4.out.c2
      have c3 := P4.out.c3
      have z0 := Z4.out.cell 0 _ rfl
      have z1 := Z4.out.cell 1 _ rfl
      have f0 := Z4.out.free 0
      have f1 := Z4.out.free 1
      have l2 := Z4.out.lt
      have l1 := Q4.out.lt
      have l0 : w.heap.size < w4.heap.size := Nat.lt_trans (Nat.lt_succ_self _) l1
      have hnil : errOf A 0 = Value.nilIface := rfl
      simp only [hnil]
      clear hnil
      go_wp2_with fail
      refine (HI.out _).mono ?_
      rintro e w5 ⟨rfl, hb⟩
      have B5 := Kp.mk (B4.out.trans (hb.mono B4.out.size))
      have Q5 := Kp.mk (Q4.out.later hb)
      have P5 := Kp.mk (P4.out.later hb)
      have Z5 := Kp.mk (Z4.out.later hb)
      clear hb
      clear q0 q1 c0 c1 c2 c3 z0 z1 f0 f1 l0 l1 l2
      have q0 := Q5.out.cell 0 _ rfl
      have q1 := Q5.out.cell 1 _ rfl
      have c0 := P5.out.c0
      have c1 := P5.out.c1
      have c2 := P5.out.c2
      have c3 := P5.out.c3
      have z0 := Z5.out.cell 0 _ rfl
      have z1 := Z5.out.cell 1 _ rfl
      have f0 := Z5.out.free 0
      have f1 := Z5.out.free 1
      have l2 := Z5.out.lt
      have l1 := Q5.out.lt
      have l0 : w.heap.size < w5.heap.size := Nat.lt_trans (Nat.lt_succ_self _) l1
      go_wp2_with fail
      have x := (HE.out.later B5.out).cell 7 (by decide)
      have xl := World.block_lt_of_cell? w ⟨errVar 7, 0, none⟩ (HE.out.cell 7 (by decide))
      simp only [errVar] at x xl
      have x1 := far1 xl
      have x2 := far2 xl
      have x3 := far3 xl
      have x4 := far4 xl
      have x5 := far5 xl
      have x6 := far6 xl
      simp only [Nat.reduceSub] at x5 x6
      clear xl
      have HZ := Kp.mk (Z5.out.set2 (.slice none 0 0) (.int .i64 0))
      have BF := Kp.mk (below_set2 (B5.out.trans ((Drew.once w5).below.mono B5.out.size)) (w.heap.size + 2) (.slice none 0 0) (.int .i64 0) (by omega))
      have BG := Kp.mk (BF.out.drew)
      have BH := Kp.mk ((below_set2 B5.out (w.heap.size + 2) (.slice none 0 0) (.int .i64 0) (by omega)).drew)
      go_region
      all_goals (
        go_wp2
        refine bodyPost_ret (res3 (p := 4) (q := 5) (r := 6) (ty := 29) rfl _ rfl (by exact HZ.out) _ Tryd.underlying29 (portInfo _ rfl)) rfl ⟨_, rfl, OwnS.nil _ _, by first | exact BF.out | exact BH.out⟩)
    · have hk : inK (PortP.mk 4 s d r).kind = false := rfl
      have HI : Kp (∀ w, Calls Tryd.prog 59 #[.agg (rowK 4 s d r)] w fun e w' => e = .returned (.bool true) ∧ Below w.heap.size w w') := ⟨fun w => HI.out w⟩
      have e1 := drC_ok hc hk
      have e2 := drL_ok e1
      rw [e1, e2]
      clear e1 e2
      rw [hc] at HC
      show Calls Tryd.prog 30 #[.agg (rowK 4 s d r), .agg (portA a n cap g)] w fun e w' => ∃ v, e = .returned (.tuple #[.agg (portA none 0 0 0), v, .nilIface]) ∧ OwnS w' w.heap.size v (l) ∧ Below w.heap.size w w'
      have hn8 : n ≤ 8 := by omega
      clear hc hk hk1 hk4 hdn hd8 hd1
      go_enter Tryd.func30, Tryd.ntmps30
      go_wp2_with fail
      rw [← E3.out]
      refine HC.out.mono ?_
      rintro e w4 ⟨rfl, hb⟩
      have B4 := Kp.mk (B3.out.trans (hb.mono B3.out.size))
      have Q4 := Kp.mk (Q3.out.later hb)
      have P4 := Kp.mk (P3.out.later hb)
      have Z4 := Kp.mk (Z3.out.later hb)
      clear hb
      have q0 := Q4.out.cell 0 _ rfl
      have q1 := Q4.out.cell 1 _ rfl
      have c0 := P4.out.c0
      have c1 := P4.out.c1
      have c2 := P4.out.c2
      have c3 := P4.out.c3
      have z0 := Z4.out.cell 0 _ rfl
      have z1 := Z4.out.cell 1 _ rfl
      have f0 := Z4.out.free 0
      have f1 := Z4.out.free 1
      have l2 := Z4.out.lt
      have l1 := Q4.out.lt
      have l0 : w.heap.size < w4.heap.size := Nat.lt_trans (Nat.lt_succ_self _) l1
      have hnil : errOf A 0 = Value.nilIface := rfl
      simp only [hnil]
      clear hnil
      go_wp2_with fail
      refine (HI.out _).mono ?_
      rintro e w5 ⟨rfl, hb⟩
      have B5 := Kp.mk (B4.out.trans (hb.mono B4.out.size))
      have Q5 := Kp.mk (Q4.out.later hb)
      have P5 := Kp.mk (P4.out.later hb)
      have Z5 := Kp.mk (Z4.out.later hb)
      clear hb
      clear q0 q1 c0 c1 c2 c3 z0 z1 f0 f1 l0 l1 l2
      have q0 := Q5.out.cell 0 _ rfl
      have q1 := Q5.out.cell 1 _ rfl
      have c0 := P5.out.c0
      have c1 := P5.out.c1
      have c2 := P5.out.c2
      have c3 := P5.out.c3
      have z0 := Z5.out.cell 0 _ rfl
      have z1 := Z5.out.cell 1 _ rfl
      have f0 := Z5.out.free 0
      have f1 := Z5.out.free 1
      have l2 := Z5.out.lt
      have l1 := Q5.out.lt
      have l0 : w.heap.size < w5.heap.size := Nat.lt_trans (Nat.lt_succ_self _) l1
      go_wp2_with fail
      refine (str_clone a n cap l w5 (H0.out.later B5.out)).mono ?_
      rintro e w6 ⟨v, rfl, ho, hb⟩
      have ZS := Kp.mk Z5.out.lt
      have B6 := Kp.mk (B5.out.trans (hb.mono B5.out.size))
      have Q6 := Kp.mk (Q5.out.later hb)
      have P6 := Kp.mk (P5.out.later hb)
      have Z6 := Kp.mk (Z5.out.later hb)
      have HO := Kp.mk ho
      clear hb ho
      clear q0 q1 c0 c1 c2 c3 z0 z1 f0 f1 l0 l1 l2
      have q0 := Q6.out.cell 0 _ rfl
      have q1 := Q6.out.cell 1 _ rfl
      have c0 := P6.out.c0
      have c1 := P6.out.c1
      have c2 := P6.out.c2
      have c3 := P6.out.c3
      have z0 := Z6.out.cell 0 _ rfl
      have z1 := Z6.out.cell 1 _ rfl
      have f0 := Z6.out.free 0
      have f1 := Z6.out.free 1
      have l2 := Z6.out.lt
      have l1 := Q6.out.lt
      have l0 : w.heap.size < w6.heap.size := Nat.lt_trans (Nat.lt_succ_self _) l1
      go_wp2_with fail
      have HZ := Kp.mk (Z6.out.set2 (.slice none 0 0) (.int .i64 0))
      have BF := Kp.mk (below_set2 B6.out (w.heap.size + 2) (.slice none 0 0) (.int .i64 0) (by omega))
      have OF := Kp.mk ((HO.out.set2 (w.heap.size + 2) (.slice none 0 0) (.int .i64 0) ZS.out).mono (B' := w.heap.size) B5.out.size)
      refine bodyPost_ret (res3 (p := 4) (q := 5) (r := 6) (ty := 29) rfl _ rfl HZ.out _ Tryd.underlying29 (portInfo _ rfl)) rfl ⟨_, rfl, OF.out, BF.out⟩
  · have e1 := drC_bad hc
    have e2 := drL_not (p := ⟨k, s, d, r⟩) (l := l) (g := g) (by rw [e1]; exact hc)
    rw [e1, e2]
    clear e1 e2
    obtain ⟨c, ec⟩ : ∃ c, portC ⟨k, s, d, r⟩ l g = c + 1 := ⟨portC ⟨k, s, d, r⟩ l g - 1, by omega⟩
    rw [ec] at HC ⊢
    have hx : errOf A (c + 1) = errv (A (c + 1)) := rfl
    rw [hx] at HC ⊢
    clear hx hc ec
    show Calls Tryd.prog 30 #[.agg (rowK k s d r), .agg (portA a n cap g)] w _
    go_enter Tryd.func30, Tryd.ntmps30
    go_wp2_with fail
    rw [← E3.out]
    refine HC.out.mono ?_
    rintro e w4 ⟨rfl, hb⟩
    have B4 := Kp.mk (B3.out.trans (hb.mono B3.out.size))
    have Q4 := Kp.mk (Q3.out.later hb)
    have P4 := Kp.mk (P3.out.later hb)
    have Z4 := Kp.mk (Z3.out.later hb)
    clear hb
    have q0 := Q4.out.cell 0 _ rfl
    have q1 := Q4.out.cell 1 _ rfl
    have c0 := P4.out.c0
    have c1 := P4.out.c1
    have c2 := P4.out.c2
    have c3 := P4.out.c3
    have z0 := Z4.out.cell 0 _ rfl
    have z1 := Z4.out.cell 1 _ rfl
    have f0 := Z4.out.free 0
    have f1 := Z4.out.free 1
    have l2 := Z4.out.lt
    have l1 := Q4.out.lt
    have l0 : w.heap.size < w4.heap.size := Nat.lt_trans (Nat.lt_succ_self _) l1
    go_wp2_with fail
    have HZ := Kp.mk (Z4.out.set2 (.slice none 0 0) (.int .i64 0))
    have BF := Kp.mk (below_set2 B4.out (w.heap.size + 2) (.slice none 0 0) (.int .i64 0) (by omega))
    refine bodyPost_ret (res3 (p := 4) (q := 5) (r := 6) (ty := 29) rfl _ rfl HZ.out _ Tryd.underlying29 (portInfo _ rfl)) rfl ⟨_, rfl, OwnS.nil _ _, BF.out⟩
set_option maxRecDepth 100000 in
set_option maxHeartbeats 16000000 in
theorem ref_get (p : PortP) (a : Option Addr) (n cap : Nat) (l : List ByteArray) (g : Int) (w : World) (h : RdS w a n cap l) :
    Calls Tryd.prog 29 #[.agg p.row.toArray, .agg (portA a n cap g)] w fun e w' => ∃ v, e = .returned (.tuple #[.agg #[v, .int .i64 (getG p l g)], .string (getT p l g), .bool (getB p l g), .int .i64 (getC p l g : Nat)]) ∧ OwnS w' w.heap.size v (getL p l g) ∧ Below w.heap.size w w' := by
  obtain ⟨k, s, d, r⟩ := p
  obtain ⟨w3, e3, p3, q3, z3, b3⟩ := tri_box w k s d r a n cap g
  have E3 := Kp.mk e3
  have B3 := Kp.mk b3
  have H0 := Kp.mk h
  have P3 := Kp.mk p3
  have Q3 := Kp.mk q3
  have Z3 := Kp.mk z3
  have HLN := Kp.mk h.len
  have hnb := h.bound
  have HC := Kp.mk (ref_check ⟨k, s, d, r⟩ a n cap l g w3 (h.later b3))
  have HI : Kp (∀ w, Calls Tryd.prog 60 #[.agg (rowK k s d r)] w fun e w' => e = .returned (.bool (inK k)) ∧ Below w.heap.size w w') := ⟨fun w => ref_isIn ⟨k, s, d, r⟩ w⟩
  clear h e3 p3 q3 z3 b3
  by_cases hc : portC ⟨k, s, d, r⟩ l g = 0
  · have hpl := planC_zero (portC_plan0 hc)
    have hfp := fitsP_parts (portC_zero hc).2
    have hk1 : 1 ≤ k := hpl.1
    have hk4 : k ≤ 4 := hpl.2.1
    have hdn : (n : Int) ≤ d := by have := hfp.1; rw [HLN.out] at this; exact this
    have hd8 : d ≤ 8 := Int.le_trans hpl.2.2.2.2.2.1 (depthM_le k)
    have hd1 : k < 3 → d = 1 := fun hk => by have h5 := depthM_low hk; have h6 : d ≤ depthM k := hpl.2.2.2.2.2.1; have h7 : 1 ≤ d := hpl.2.2.2.2.1; omega
    clear hpl hfp
    rcases (by omega : k = 1 ∨ k = 2 ∨ k = 3 ∨ k = 4) with rfl | rfl | rfl | rfl
    · have hk : inK (PortP.mk 1 s d r).kind = true := rfl
      have HI : Kp (∀ w, Calls Tryd.prog 60 #[.agg (rowK 1 s d r)] w fun e w' => e = .returned (.bool true) ∧ Below w.heap.size w w') := ⟨fun w => HI.out w⟩
      by_cases h0 : n = 0
      · have e1 := getC_none hc hk (by rw [HLN.out]; exact h0)
        obtain ⟨e2, e3, e4, e5⟩ := get_not (p := ⟨1, s, d, r⟩) (l := l) (g := g) (by rw [e1]; decide)
        rw [e1, e2, e3, e4, e5]
        clear e1 e2 e3 e4 e5
        rw [hc] at HC
        show Calls Tryd.prog 29 #[.agg (rowK 1 s d r), .agg (portA a n cap g)] w fun e w' => ∃ v, e = .returned (.tuple #[.agg #[v, .int .i64 (0)], .string (noS), .bool (false), .int .i64 17]) ∧ OwnS w' w.heap.size v ([]) ∧ Below w.heap.size w w'
        have h0' : ((n : Int) == 0) = true := by rw [h0]; rfl
        clear hc hk hk1 hk4 hdn hd8 hd1 h0
        go_enter Tryd.func29, Tryd.ntmps29
        go_wp2_with fail
        rw [← E3.out]
        refine HC.out.mono ?_
        rintro e w4 ⟨rfl, hb⟩
        have B4 := Kp.mk (B3.out.trans (hb.mono B3.out.size))
        have Q4 := Kp.mk (Q3.out.later hb)
        have P4 := Kp.mk (P3.out.later hb)
        have Z4 := Kp.mk (Z3.out.later hb)
        clear hb
        have q0 := Q4.out.cell 0 _ rfl
        have q1 := Q4.out.cell 1 _ rfl
        have c0 := P4.out.c0
        have c1 := P4.out.c1
        have c2 := P4.out.c2
        have c3 := P4.out.c3
        have z0 := Z4.out.cell 0 _ rfl
        have z1 := Z4.out.cell 1 _ rfl
        have f0 := Z4.out.free 0
        have f1 := Z4.out.free 1
        have l2 := Z4.out.lt
        have l1 := Q4.out.lt
        have l0 : w.heap.size < w4.heap.size := Nat.lt_trans (Nat.lt_succ_self _) l1
        go_wp2_with fail
        refine (HI.out _).mono ?_
        rintro e w5 ⟨rfl, hb⟩
        have B5 := Kp.mk (B4.out.trans (hb.mono B4.out.size))
        have Q5 := Kp.mk (Q4.out.later hb)
        have P5 := Kp.mk (P4.out.later hb)
        have Z5 := Kp.mk (Z4.out.later hb)
        clear hb
        clear q0 q1 c0 c1 c2 c3 z0 z1 f0 f1 l0 l1 l2
        have q0 := Q5.out.cell 0 _ rfl
        have q1 := Q5.out.cell 1 _ rfl
        have c0 := P5.out.c0
        have c1 := P5.out.c1
        have c2 := P5.out.c2
        have c3 := P5.out.c3
        have z0 := Z5.out.cell 0 _ rfl
        have z1 := Z5.out.cell 1 _ rfl
        have f0 := Z5.out.free 0
        have f1 := Z5.out.free 1
        have l2 := Z5.out.lt
        have l1 := Q5.out.lt
        have l0 : w.heap.size < w5.heap.size := Nat.lt_trans (Nat.lt_succ_self _) l1
        go_wp2_with fail
        have HZ := Kp.mk (Z5.out.set2 (.slice none 0 0) (.int .i64 0))
        have BF := Kp.mk (below_set2 B5.out (w.heap.size + 2) (.slice none 0 0) (.int .i64 0) (by omega))
        refine bodyPost_ret (res4 (p := 4) (q := 5) (r := 6) (s := 7) (ty := 29) rfl _ rfl HZ.out _ Tryd.underlying29 (portInfo _ rfl)) rfl ⟨_, rfl, OwnS.nil _ _, BF.out⟩
      have e1 := getC_ok hc hk (by rw [HLN.out]; exact h0)
      obtain ⟨e2, e3, e4, e5⟩ := get_one e1 rfl
      rw [e1, e2, e3, e4, e5]
      clear e1 e2 e3 e4 e5
      rw [hc] at HC
      have h0' : ((n : Int) == 0) = false := by simp; omega
      have hn8 : n ≤ 8 := by omega
      have hn1 : n = 1 := by have := hd1 (by omega); omega
      have hn0 : 0 < n := by omega
      have HN1 := Kp.mk hn1
      clear hn1
      obtain ⟨tb, to, hta, htc, hts⟩ := H0.out.at 0 hn0
      have htl := World.block_lt_of_cell? w _ htc
      have HTC : Kp (∀ v, Below w.heap.size w v → v.cell? ⟨tb, to, none⟩ = some (.string (l.getD 0 noS))) := ⟨fun v hv => (hv.cell (p := ⟨tb, to, none⟩) htl).trans htc⟩
      have HTS := Kp.mk hts
      obtain ⟨T, hT⟩ : ∃ T, T = l.getD 0 noS := ⟨_, rfl⟩
      have HTL := Kp.mk hT
      rw [← hT] at HTC HTS ⊢
      show Calls Tryd.prog 29 #[.agg (rowK 1 s d r), .agg (portA a n cap g)] w fun e w' => ∃ v, e = .returned (.tuple #[.agg #[v, .int .i64 (g)], .string (T), .bool (decide (g < r)), .int .i64 0]) ∧ OwnS w' w.heap.size v (l) ∧ Below w.heap.size w w'
      subst hta
      have hi0 : (0 : Int) < (n : Int) := by omega
      clear hc hk hk1 hk4 hdn hd8 hd1 h0 htc htl hts hT
      go_enter Tryd.func29, Tryd.ntmps29
      go_wp2_with fail
      rw [← E3.out]
      refine HC.out.mono ?_
      rintro e w4 ⟨rfl, hb⟩
      have B4 := Kp.mk (B3.out.trans (hb.mono B3.out.size))
      have Q4 := Kp.mk (Q3.out.later hb)
      have P4 := Kp.mk (P3.out.later hb)
      have Z4 := Kp.mk (Z3.out.later hb)
      clear hb
      have q0 := Q4.out.cell 0 _ rfl
      have q1 := Q4.out.cell 1 _ rfl
      have c0 := P4.out.c0
      have c1 := P4.out.c1
      have c2 := P4.out.c2
      have c3 := P4.out.c3
      have z0 := Z4.out.cell 0 _ rfl
      have z1 := Z4.out.cell 1 _ rfl
      have f0 := Z4.out.free 0
      have f1 := Z4.out.free 1
      have l2 := Z4.out.lt
      have l1 := Q4.out.lt
      have l0 : w.heap.size < w4.heap.size := Nat.lt_trans (Nat.lt_succ_self _) l1
      go_wp2_with fail
      refine (HI.out _).mono ?_
      rintro e w5 ⟨rfl, hb⟩
      have B5 := Kp.mk (B4.out.trans (hb.mono B4.out.size))
      have Q5 := Kp.mk (Q4.out.later hb)
      have P5 := Kp.mk (P4.out.later hb)
      have Z5 := Kp.mk (Z4.out.later hb)
      clear hb
      clear q0 q1 c0 c1 c2 c3 z0 z1 f0 f1 l0 l1 l2
      have q0 := Q5.out.cell 0 _ rfl
      have q1 := Q5.out.cell 1 _ rfl
      have c0 := P5.out.c0
      have c1 := P5.out.c1
      have c2 := P5.out.c2
      have c3 := P5.out.c3
      have z0 := Z5.out.cell 0 _ rfl
      have z1 := Z5.out.cell 1 _ rfl
      have f0 := Z5.out.free 0
      have f1 := Z5.out.free 1
      have l2 := Z5.out.lt
      have l1 := Q5.out.lt
      have l0 : w.heap.size < w5.heap.size := Nat.lt_trans (Nat.lt_succ_self _) l1
      go_wp2_with fail
      have t0 := HTC.out w5 B5.out
      have SQ : Kp (∀ v, Below w5.heap.size w5 v → PQS v w.heap.size 1 s d r (some ⟨tb, to, none⟩) n cap g ∧ v.cell? ⟨tb, to, none⟩ = some (.string T)) := ⟨fun v hv => ⟨pqs_of (P5.out.later hv) (Q5.out.later hv), HTC.out v (B5.out.trans (hv.mono B5.out.size))⟩⟩
      have SR : Kp (∀ v x y, Below w5.heap.size w5 v → PQS ((v.setCell ⟨w.heap.size + 2, 0, none⟩ x).setCell ⟨w.heap.size + 2, 1, none⟩ y) w.heap.size 1 s d r (some ⟨tb, to, none⟩) n cap g ∧ ((v.setCell ⟨w.heap.size + 2, 0, none⟩ x).setCell ⟨w.heap.size + 2, 1, none⟩ y).cell? ⟨tb, to, none⟩ = some (.string T)) := ⟨fun v x y hv => ⟨pqs_of ((P5.out.later hv).other2 _ _ _ (by omega)) ((Q5.out.later hv).other2 _ _ _ (by omega)), HTC.out _ (below_set2 (B5.out.trans (hv.mono B5.out.size)) _ _ _ (by omega))⟩⟩
      go_region_held3 (fun v => v.cell? ⟨w.heap.size, 0, none⟩ = some (.int .i64 1) ∧ v.cell? ⟨w.heap.size, 1, none⟩ = some (.int .i64 s) ∧ v.cell? ⟨w.heap.size, 2, none⟩ = some (.int .i64 d) ∧ v.cell? ⟨w.heap.size, 3, none⟩ = some (.int .i64 r) ∧ v.cell? ⟨w.heap.size + 1, 0, none⟩ = some (.slice (some ⟨tb, to, none⟩) n cap) ∧ v.cell? ⟨w.heap.size + 1, 1, none⟩ = some (.int .i64 g) ∧ v.cell? ⟨tb, to, none⟩ = some (.string T)) (first | exact sflat (SQ.out _ (Drew.once _).below) | exact sflat (SQ.out _ (bl1 _ _ _)) | exact sflat (SQ.out _ HX.out) | exact sflat (SR.out _ _ _ HX.out))
        ((go_at_call 61; refine (ref_with none 0 0 [] T _ (rdNil _) HTS.out (by omega)).mono ?_; rintro e wy ⟨v, rfl, ho, hb⟩; obtain ⟨a', c', m', hm', rfl⟩ := ho.shapeN; have HX := Kp.mk ((Drew.once w5).below.trans (hb.mono (Drew.once w5).below.size)); have HO := Kp.mk ho; have z0' := (Z5.out.later HX.out).cell 0 _ rfl; have z1' := (Z5.out.later HX.out).cell 1 _ rfl; have f0' := (Z5.out.later HX.out).free 0; have f1' := (Z5.out.later HX.out).free 1; clear hb ho))
      all_goals (
        have HZ := Kp.mk ((Z5.out.later HX.out).set2 (.slice a' m' c') (.int .i64 g))
        have BF := Kp.mk (below_set2 (B5.out.trans (HX.out.mono B5.out.size)) (w.heap.size + 2) (.slice a' m' c') (.int .i64 g) (by omega))
        have OF := Kp.mk ((HO.out.set2 (w.heap.size + 2) (.slice a' m' c') (.int .i64 g) Z5.out.lt).mono (B' := w.heap.size) B5.out.size)
        go_wp2
        refine bodyPost_ret (res4 (p := 4) (q := 5) (r := 6) (s := 7) (ty := 29) rfl _ rfl (by exact HZ.out) _ Tryd.underlying29 (portInfo _ rfl)) rfl ⟨_, rfl, by rw [show l = [T] from one_msg HLN.out HN1.out HTL.out]; exact OF.out, BF.out⟩)
    · have hk : inK (PortP.mk 2 s d r).kind = false := rfl
      have HI : Kp (∀ w, Calls Tryd.prog 60 #[.agg (rowK 2 s d r)] w fun e w' => e = .returned (.bool false) ∧ Below w.heap.size w w') := ⟨fun w => HI.out w⟩
      have e1 := getC_kind hc hk
      obtain ⟨e2, e3, e4, e5⟩ := get_not (p := ⟨2, s, d, r⟩) (l := l) (g := g) (by rw [e1]; decide)
      rw [e1, e2, e3, e4, e5]
      clear e1 e2 e3 e4 e5
      rw [hc] at HC
      show Calls Tryd.prog 29 #[.agg (rowK 2 s d r), .agg (portA a n cap g)] w fun e w' => ∃ v, e = .returned (.tuple #[.agg #[v, .int .i64 (0)], .string (noS), .bool (false), .int .i64 7]) ∧ OwnS w' w.heap.size v ([]) ∧ Below w.heap.size w w'
      clear hc hk hk1 hk4 hdn hd8 hd1
      go_enter Tryd.func29, Tryd.ntmps29
      go_wp2_with fail
      rw [← E3.out]
      refine HC.out.mono ?_
      rintro e w4 ⟨rfl, hb⟩
      have B4 := Kp.mk (B3.out.trans (hb.mono B3.out.size))
      have Q4 := Kp.mk (Q3.out.later hb)
      have P4 := Kp.mk (P3.out.later hb)
      have Z4 := Kp.mk (Z3.out.later hb)
      clear hb
      have q0 := Q4.out.cell 0 _ rfl
      have q1 := Q4.out.cell 1 _ rfl
      have c0 := P4.out.c0
      have c1 := P4.out.c1
      have c2 := P4.out.c2
      have c3 := P4.out.c3
      have z0 := Z4.out.cell 0 _ rfl
      have z1 := Z4.out.cell 1 _ rfl
      have f0 := Z4.out.free 0
      have f1 := Z4.out.free 1
      have l2 := Z4.out.lt
      have l1 := Q4.out.lt
      have l0 : w.heap.size < w4.heap.size := Nat.lt_trans (Nat.lt_succ_self _) l1
      go_wp2_with fail
      refine (HI.out _).mono ?_
      rintro e w5 ⟨rfl, hb⟩
      have B5 := Kp.mk (B4.out.trans (hb.mono B4.out.size))
      have Q5 := Kp.mk (Q4.out.later hb)
      have P5 := Kp.mk (P4.out.later hb)
      have Z5 := Kp.mk (Z4.out.later hb)
      clear hb
      clear q0 q1 c0 c1 c2 c3 z0 z1 f0 f1 l0 l1 l2
      have q0 := Q5.out.cell 0 _ rfl
      have q1 := Q5.out.cell 1 _ rfl
      have c0 := P5.out.c0
      have c1 := P5.out.c1
      have c2 := P5.out.c2
      have c3 := P5.out.c3
      have z0 := Z5.out.cell 0 _ rfl
      have z1 := Z5.out.cell 1 _ rfl
      have f0 := Z5.out.free 0
      have f1 := Z5.out.free 1
      have l2 := Z5.out.lt
      have l1 := Q5.out.lt
      have l0 : w.heap.size < w5.heap.size := Nat.lt_trans (Nat.lt_succ_self _) l1
      go_wp2_with fail
      have HZ := Kp.mk (Z5.out.set2 (.slice none 0 0) (.int .i64 0))
      have BF := Kp.mk (below_set2 B5.out (w.heap.size + 2) (.slice none 0 0) (.int .i64 0) (by omega))
      refine bodyPost_ret (res4 (p := 4) (q := 5) (r := 6) (s := 7) (ty := 29) rfl _ rfl HZ.out _ Tryd.underlying29 (portInfo _ rfl)) rfl ⟨_, rfl, OwnS.nil _ _, BF.out⟩
    · have hk : inK (PortP.mk 3 s d r).kind = true := rfl
      have HI : Kp (∀ w, Calls Tryd.prog 60 #[.agg (rowK 3 s d r)] w fun e w' => e = .returned (.bool true) ∧ Below w.heap.size w w') := ⟨fun w => HI.out w⟩
      by_cases h0 : n = 0
      · have e1 := getC_none hc hk (by rw [HLN.out]; exact h0)
        obtain ⟨e2, e3, e4, e5⟩ := get_not (p := ⟨3, s, d, r⟩) (l := l) (g := g) (by rw [e1]; decide)
        rw [e1, e2, e3, e4, e5]
        clear e1 e2 e3 e4 e5
        rw [hc] at HC
        show Calls Tryd.prog 29 #[.agg (rowK 3 s d r), .agg (portA a n cap g)] w fun e w' => ∃ v, e = .returned (.tuple #[.agg #[v, .int .i64 (0)], .string (noS), .bool (false), .int .i64 17]) ∧ OwnS w' w.heap.size v ([]) ∧ Below w.heap.size w w'
        have h0' : ((n : Int) == 0) = true := by rw [h0]; rfl
        clear hc hk hk1 hk4 hdn hd8 hd1 h0
        go_enter Tryd.func29, Tryd.ntmps29
        go_wp2_with fail
        rw [← E3.out]
        refine HC.out.mono ?_
        rintro e w4 ⟨rfl, hb⟩
        have B4 := Kp.mk (B3.out.trans (hb.mono B3.out.size))
        have Q4 := Kp.mk (Q3.out.later hb)
        have P4 := Kp.mk (P3.out.later hb)
        have Z4 := Kp.mk (Z3.out.later hb)
        clear hb
        have q0 := Q4.out.cell 0 _ rfl
        have q1 := Q4.out.cell 1 _ rfl
        have c0 := P4.out.c0
        have c1 := P4.out.c1
        have c2 := P4.out.c2
        have c3 := P4.out.c3
        have z0 := Z4.out.cell 0 _ rfl
        have z1 := Z4.out.cell 1 _ rfl
        have f0 := Z4.out.free 0
        have f1 := Z4.out.free 1
        have l2 := Z4.out.lt
        have l1 := Q4.out.lt
        have l0 : w.heap.size < w4.heap.size := Nat.lt_trans (Nat.lt_succ_self _) l1
        go_wp2_with fail
        refine (HI.out _).mono ?_
        rintro e w5 ⟨rfl, hb⟩
        have B5 := Kp.mk (B4.out.trans (hb.mono B4.out.size))
        have Q5 := Kp.mk (Q4.out.later hb)
        have P5 := Kp.mk (P4.out.later hb)
        have Z5 := Kp.mk (Z4.out.later hb)
        clear hb
        clear q0 q1 c0 c1 c2 c3 z0 z1 f0 f1 l0 l1 l2
        have q0 := Q5.out.cell 0 _ rfl
        have q1 := Q5.out.cell 1 _ rfl
        have c0 := P5.out.c0
        have c1 := P5.out.c1
        have c2 := P5.out.c2
        have c3 := P5.out.c3
        have z0 := Z5.out.cell 0 _ rfl
        have z1 := Z5.out.cell 1 _ rfl
        have f0 := Z5.out.free 0
        have f1 := Z5.out.free 1
        have l2 := Z5.out.lt
        have l1 := Q5.out.lt
        have l0 : w.heap.size < w5.heap.size := Nat.lt_trans (Nat.lt_succ_self _) l1
        go_wp2_with fail
        have HZ := Kp.mk (Z5.out.set2 (.slice none 0 0) (.int .i64 0))
        have BF := Kp.mk (below_set2 B5.out (w.heap.size + 2) (.slice none 0 0) (.int .i64 0) (by omega))
        refine bodyPost_ret (res4 (p := 4) (q := 5) (r := 6) (s := 7) (ty := 29) rfl _ rfl HZ.out _ Tryd.underlying29 (portInfo _ rfl)) rfl ⟨_, rfl, OwnS.nil _ _, BF.out⟩
      have e1 := getC_ok hc hk (by rw [HLN.out]; exact h0)
      obtain ⟨e2, e3, e4, e5⟩ := get_queue e1 (show ¬ (3 : Int) = 1 by decide)
      rw [e1, e2, e3, e4, e5]
      clear e1 e2 e3 e4 e5
      rw [hc] at HC
      have h0' : ((n : Int) == 0) = false := by simp; omega
      have hn8 : n ≤ 8 := by omega
      have hn1 : 0 < n := by omega
      have hn0 : 0 < n := by omega
      have HN1 := Kp.mk hn1
      clear hn1
      obtain ⟨tb, to, hta, htc, hts⟩ := H0.out.at 0 hn0
      have htl := World.block_lt_of_cell? w _ htc
      have HTC : Kp (∀ v, Below w.heap.size w v → v.cell? ⟨tb, to, none⟩ = some (.string (l.getD 0 noS))) := ⟨fun v hv => (hv.cell (p := ⟨tb, to, none⟩) htl).trans htc⟩
      have HTS := Kp.mk hts
      obtain ⟨T, hT⟩ : ∃ T, T = l.getD 0 noS := ⟨_, rfl⟩
      have HTL := Kp.mk hT
      rw [← hT] at HTC HTS ⊢
      show Calls Tryd.prog 29 #[.agg (rowK 3 s d r), .agg (portA a n cap g)] w fun e w' => ∃ v, e = .returned (.tuple #[.agg #[v, .int .i64 (0)], .string (T), .bool (true), .int .i64 0]) ∧ OwnS w' w.heap.size v (l.drop 1) ∧ Below w.heap.size w w'
      subst hta
      have hi0 : (0 : Int) < (n : Int) := by omega
      clear hc hk hk1 hk4 hdn hd8 hd1 h0 htc htl hts hT
      obtain ⟨ta, hta, hsl⟩ := tail_of H0.out hn0
      have HTA := Kp.mk hta
      clear hta
      go_enter Tryd.func29, Tryd.ntmps29
      go_wp2_with fail
      rw [← E3.out]
      refine HC.out.mono ?_
      rintro e w4 ⟨rfl, hb⟩
      have B4 := Kp.mk (B3.out.trans (hb.mono B3.out.size))
      have Q4 := Kp.mk (Q3.out.later hb)
      have P4 := Kp.mk (P3.out.later hb)
      have Z4 := Kp.mk (Z3.out.later hb)
      clear hb
      have q0 := Q4.out.cell 0 _ rfl
      have q1 := Q4.out.cell 1 _ rfl
      have c0 := P4.out.c0
      have c1 := P4.out.c1
      have c2 := P4.out.c2
      have c3 := P4.out.c3
      have z0 := Z4.out.cell 0 _ rfl
      have z1 := Z4.out.cell 1 _ rfl
      have f0 := Z4.out.free 0
      have f1 := Z4.out.free 1
      have l2 := Z4.out.lt
      have l1 := Q4.out.lt
      have l0 : w.heap.size < w4.heap.size := Nat.lt_trans (Nat.lt_succ_self _) l1
      go_wp2_with fail
      refine (HI.out _).mono ?_
      rintro e w5 ⟨rfl, hb⟩
      have B5 := Kp.mk (B4.out.trans (hb.mono B4.out.size))
      have Q5 := Kp.mk (Q4.out.later hb)
      have P5 := Kp.mk (P4.out.later hb)
      have Z5 := Kp.mk (Z4.out.later hb)
      clear hb
      clear q0 q1 c0 c1 c2 c3 z0 z1 f0 f1 l0 l1 l2
      have q0 := Q5.out.cell 0 _ rfl
      have q1 := Q5.out.cell 1 _ rfl
      have c0 := P5.out.c0
      have c1 := P5.out.c1
      have c2 := P5.out.c2
      have c3 := P5.out.c3
      have z0 := Z5.out.cell 0 _ rfl
      have z1 := Z5.out.cell 1 _ rfl
      have f0 := Z5.out.free 0
      have f1 := Z5.out.free 1
      have l2 := Z5.out.lt
      have l1 := Q5.out.lt
      have l0 : w.heap.size < w5.heap.size := Nat.lt_trans (Nat.lt_succ_self _) l1
      go_wp2_with fail
      have t0 := HTC.out w5 B5.out
      have SQ : Kp (∀ v, Below w5.heap.size w5 v → PQS v w.heap.size 3 s d r (some ⟨tb, to, none⟩) n cap g ∧ v.cell? ⟨tb, to, none⟩ = some (.string T)) := ⟨fun v hv => ⟨pqs_of (P5.out.later hv) (Q5.out.later hv), HTC.out v (B5.out.trans (hv.mono B5.out.size))⟩⟩
      have SR : Kp (∀ v x y, Below w5.heap.size w5 v → PQS ((v.setCell ⟨w.heap.size + 2, 0, none⟩ x).setCell ⟨w.heap.size + 2, 1, none⟩ y) w.heap.size 3 s d r (some ⟨tb, to, none⟩) n cap g ∧ ((v.setCell ⟨w.heap.size + 2, 0, none⟩ x).setCell ⟨w.heap.size + 2, 1, none⟩ y).cell? ⟨tb, to, none⟩ = some (.string T)) := ⟨fun v x y hv => ⟨pqs_of ((P5.out.later hv).other2 _ _ _ (by omega)) ((Q5.out.later hv).other2 _ _ _ (by omega)), HTC.out _ (below_set2 (B5.out.trans (hv.mono B5.out.size)) _ _ _ (by omega))⟩⟩
      go_region_held3 (fun v => v.cell? ⟨w.heap.size, 0, none⟩ = some (.int .i64 3) ∧ v.cell? ⟨w.heap.size, 1, none⟩ = some (.int .i64 s) ∧ v.cell? ⟨w.heap.size, 2, none⟩ = some (.int .i64 d) ∧ v.cell? ⟨w.heap.size, 3, none⟩ = some (.int .i64 r) ∧ v.cell? ⟨w.heap.size + 1, 0, none⟩ = some (.slice (some ⟨tb, to, none⟩) n cap) ∧ v.cell? ⟨w.heap.size + 1, 1, none⟩ = some (.int .i64 g) ∧ v.cell? ⟨tb, to, none⟩ = some (.string T)) (first | exact sflat (SQ.out _ (Drew.once _).below) | exact sflat (SQ.out _ (bl1 _ _ _)) | exact sflat (SQ.out _ HX.out) | exact sflat (SR.out _ _ _ HX.out))
        ((refine step_append_full rfl (.tmp 45) (.tmp 48) rfl (some ⟨w5.heap.size, 0, none⟩) 0 [] (by first | rfl | simp [Act.eval, Act.put]) (rdEmpty _ _) ta (n - 1) (cap - 1) (l.drop 1) (by first | rfl | simp [Act.eval, Act.put]) (HTA.out.later (B5.out.trans ((bl1 _ _ _).mono B5.out.size))) (by omega) w5.heap.size (bl1 _ _ _).size (fun _ => (new1 w5 #[] 9).ownNil (Nat.le_refl _)) ?_; intro v wy ho hb _; obtain ⟨a', c', m', hm', rfl⟩ := ho.shapeN; have HX := Kp.mk ((bl1 _ _ _).trans (hb.mono (bl1 _ _ _).size)); have HO := Kp.mk ho; have z0' := (Z5.out.later HX.out).cell 0 _ rfl; have z1' := (Z5.out.later HX.out).cell 1 _ rfl; have f0' := (Z5.out.later HX.out).free 0; have f1' := (Z5.out.later HX.out).free 1; clear hb ho))
      all_goals (
        have HZ := Kp.mk ((Z5.out.later HX.out).set2 (.slice a' m' c') (.int .i64 0))
        have BF := Kp.mk (below_set2 (B5.out.trans (HX.out.mono B5.out.size)) (w.heap.size + 2) (.slice a' m' c') (.int .i64 0) (by omega))
        have OF := Kp.mk ((HO.out.set2 (w.heap.size + 2) (.slice a' m' c') (.int .i64 0) Z5.out.lt).mono (B' := w.heap.size) B5.out.size)
        go_wp2
        refine bodyPost_ret (res4 (p := 4) (q := 5) (r := 6) (s := 7) (ty := 29) rfl _ rfl (by exact HZ.out) _ Tryd.underlying29 (portInfo _ rfl)) rfl ⟨_, rfl, by exact OF.out, BF.out⟩)
    · have hk : inK (PortP.mk 4 s d r).kind = false := rfl
      have HI : Kp (∀ w, Calls Tryd.prog 60 #[.agg (rowK 4 s d r)] w fun e w' => e = .returned (.bool false) ∧ Below w.heap.size w w') := ⟨fun w => HI.out w⟩
      have e1 := getC_kind hc hk
      obtain ⟨e2, e3, e4, e5⟩ := get_not (p := ⟨4, s, d, r⟩) (l := l) (g := g) (by rw [e1]; decide)
      rw [e1, e2, e3, e4, e5]
      clear e1 e2 e3 e4 e5
      rw [hc] at HC
      show Calls Tryd.prog 29 #[.agg (rowK 4 s d r), .agg (portA a n cap g)] w fun e w' => ∃ v, e = .returned (.tuple #[.agg #[v, .int .i64 (0)], .string (noS), .bool (false), .int .i64 7]) ∧ OwnS w' w.heap.size v ([]) ∧ Below w.heap.size w w'
      clear hc hk hk1 hk4 hdn hd8 hd1
      go_enter Tryd.func29, Tryd.ntmps29
      go_wp2_with fail
      rw [← E3.out]
      refine HC.out.mono ?_
      rintro e w4 ⟨rfl, hb⟩
      have B4 := Kp.mk (B3.out.trans (hb.mono B3.out.size))
      have Q4 := Kp.mk (Q3.out.later hb)
      have P4 := Kp.mk (P3.out.later hb)
      have Z4 := Kp.mk (Z3.out.later hb)
      clear hb
      have q0 := Q4.out.cell 0 _ rfl
      have q1 := Q4.out.cell 1 _ rfl
      have c0 := P4.out.c0
      have c1 := P4.out.c1
      have c2 := P4.out.c2
      have c3 := P4.out.c3
      have z0 := Z4.out.cell 0 _ rfl
      have z1 := Z4.out.cell 1 _ rfl
      have f0 := Z4.out.free 0
      have f1 := Z4.out.free 1
      have l2 := Z4.out.lt
      have l1 := Q4.out.lt
      have l0 : w.heap.size < w4.heap.size := Nat.lt_trans (Nat.lt_succ_self _) l1
      go_wp2_with fail
      refine (HI.out _).mono ?_
      rintro e w5 ⟨rfl, hb⟩
      have B5 := Kp.mk (B4.out.trans (hb.mono B4.out.size))
      have Q5 := Kp.mk (Q4.out.later hb)
      have P5 := Kp.mk (P4.out.later hb)
      have Z5 := Kp.mk (Z4.out.later hb)
      clear hb
      clear q0 q1 c0 c1 c2 c3 z0 z1 f0 f1 l0 l1 l2
      have q0 := Q5.out.cell 0 _ rfl
      have q1 := Q5.out.cell 1 _ rfl
      have c0 := P5.out.c0
      have c1 := P5.out.c1
      have c2 := P5.out.c2
      have c3 := P5.out.c3
      have z0 := Z5.out.cell 0 _ rfl
      have z1 := Z5.out.cell 1 _ rfl
      have f0 := Z5.out.free 0
      have f1 := Z5.out.free 1
      have l2 := Z5.out.lt
      have l1 := Q5.out.lt
      have l0 : w.heap.size < w5.heap.size := Nat.lt_trans (Nat.lt_succ_self _) l1
      go_wp2_with fail
      have HZ := Kp.mk (Z5.out.set2 (.slice none 0 0) (.int .i64 0))
      have BF := Kp.mk (below_set2 B5.out (w.heap.size + 2) (.slice none 0 0) (.int .i64 0) (by omega))
      refine bodyPost_ret (res4 (p := 4) (q := 5) (r := 6) (s := 7) (ty := 29) rfl _ rfl HZ.out _ Tryd.underlying29 (portInfo _ rfl)) rfl ⟨_, rfl, OwnS.nil _ _, BF.out⟩
  · have e1 := getC_bad hc
    obtain ⟨e2, e3, e4, e5⟩ := get_not (p := ⟨k, s, d, r⟩) (l := l) (g := g) (by rw [e1]; exact hc)
    rw [e1, e2, e3, e4, e5]
    clear e1 e2 e3 e4 e5
    have hz : (((portC ⟨k, s, d, r⟩ l g : Nat) : Int) != 0) = true := by simpa using hc
    obtain ⟨c, ec⟩ : ∃ c, c = portC ⟨k, s, d, r⟩ l g := ⟨_, rfl⟩
    rw [← ec] at HC hz ⊢
    clear hc ec
    show Calls Tryd.prog 29 #[.agg (rowK k s d r), .agg (portA a n cap g)] w _
    go_enter Tryd.func29, Tryd.ntmps29
    go_wp2_with fail
    rw [← E3.out]
    refine HC.out.mono ?_
    rintro e w4 ⟨rfl, hb⟩
    have B4 := Kp.mk (B3.out.trans (hb.mono B3.out.size))
    have Q4 := Kp.mk (Q3.out.later hb)
    have P4 := Kp.mk (P3.out.later hb)
    have Z4 := Kp.mk (Z3.out.later hb)
    clear hb
    have q0 := Q4.out.cell 0 _ rfl
    have q1 := Q4.out.cell 1 _ rfl
    have c0 := P4.out.c0
    have c1 := P4.out.c1
    have c2 := P4.out.c2
    have c3 := P4.out.c3
    have z0 := Z4.out.cell 0 _ rfl
    have z1 := Z4.out.cell 1 _ rfl
    have f0 := Z4.out.free 0
    have f1 := Z4.out.free 1
    have l2 := Z4.out.lt
    have l1 := Q4.out.lt
    have l0 : w.heap.size < w4.heap.size := Nat.lt_trans (Nat.lt_succ_self _) l1
    go_wp2_with fail
    have HZ := Kp.mk (Z4.out.set2 (.slice none 0 0) (.int .i64 0))
    have BF := Kp.mk (below_set2 B4.out (w.heap.size + 2) (.slice none 0 0) (.int .i64 0) (by omega))
    refine bodyPost_ret (res4 (p := 4) (q := 5) (r := 6) (s := 7) (ty := 29) rfl _ rfl HZ.out _ Tryd.underlying29 (portInfo _ rfl)) rfl ⟨_, rfl, OwnS.nil _ _, BF.out⟩
set_option maxRecDepth 100000 in
set_option maxHeartbeats 16000000 in
theorem ref_drain (p : PortP) (a : Option Addr) (n cap : Nat) (l : List ByteArray) (g : Int) (w : World) (h : RdS w a n cap l) :
    Calls Tryd.prog 31 #[.agg p.row.toArray, .agg (portA a n cap g)] w fun e w' => ∃ v, e = .returned (.tuple #[.agg (portA none 0 0 0), v, .int .i64 (drC p l g : Nat)]) ∧ OwnS w' w.heap.size v (drL p l g) ∧ Below w.heap.size w w' := by
  obtain ⟨k, s, d, r⟩ := p
  obtain ⟨w3, e3, p3, q3, z3, b3⟩ := tri_box w k s d r a n cap g
  have E3 := Kp.mk e3
  have B3 := Kp.mk b3
  have H0 := Kp.mk h
  have P3 := Kp.mk p3
  have Q3 := Kp.mk q3
  have Z3 := Kp.mk z3
  have HLN := Kp.mk h.len
  have hnb := h.bound
  have HC := Kp.mk (ref_check ⟨k, s, d, r⟩ a n cap l g w3 (h.later b3))
  have HI : Kp (∀ w, Calls Tryd.prog 60 #[.agg (rowK k s d r)] w fun e w' => e = .returned (.bool (inK k)) ∧ Below w.heap.size w w') := ⟨fun w => ref_isIn ⟨k, s, d, r⟩ w⟩
  clear h e3 p3 q3 z3 b3
  by_cases hc : portC ⟨k, s, d, r⟩ l g = 0
  · have hpl := planC_zero (portC_plan0 hc)
    have hfp := fitsP_parts (portC_zero hc).2
    have hk1 : 1 ≤ k := hpl.1
    have hk4 : k ≤ 4 := hpl.2.1
    have hdn : (n : Int) ≤ d := by have := hfp.1; rw [HLN.out] at this; exact this
    have hd8 : d ≤ 8 := Int.le_trans hpl.2.2.2.2.2.1 (depthM_le k)
    have hd1 : k < 3 → d = 1 := fun hk => by have h5 := depthM_low hk; have h6 : d ≤ depthM k := hpl.2.2.2.2.2.1; have h7 : 1 ≤ d := hpl.2.2.2.2.1; omega
    clear hpl hfp
    rcases (by omega : k = 1 ∨ k = 2 ∨ k = 3 ∨ k = 4) with rfl | rfl | rfl | rfl
    · have hk : inK (PortP.mk 1 s d r).kind = true := rfl
      have HI : Kp (∀ w, Calls Tryd.prog 60 #[.agg (rowK 1 s d r)] w fun e w' => e = .returned (.bool true) ∧ Below w.heap.size w w') := ⟨fun w => HI.out w⟩
      have e1 := drC_in hc hk
      have e2 := drL_not (p := ⟨1, s, d, r⟩) (l := l) (g := g) (by rw [e1]; decide)
      rw [e1, e2]
      clear e1 e2
      rw [hc] at HC
      show Calls Tryd.prog 31 #[.agg (rowK 1 s d r), .agg (portA a n cap g)] w fun e w' => ∃ v, e = .returned (.tuple #[.agg (portA none 0 0 0), v, .int .i64 7]) ∧ OwnS w' w.heap.size v ([]) ∧ Below w.heap.size w w'
      clear hc hk hk1 hk4 hdn hd8 hd1
      go_enter Tryd.func31, Tryd.ntmps31
      go_wp2_with fail
      rw [← E3.out]
      refine HC.out.mono ?_
      rintro e w4 ⟨rfl, hb⟩
      have B4 := Kp.mk (B3.out.trans (hb.mono B3.out.size))
      have Q4 := Kp.mk (Q3.out.later hb)
      have P4 := Kp.mk (P3.out.later hb)
      have Z4 := Kp.mk (Z3.out.later hb)
      clear hb
      have q0 := Q4.out.cell 0 _ rfl
      have q1 := Q4.out.cell 1 _ rfl
      have c0 := P4.out.c0
      have c1 := P4.out.c1
      have c2 := P4.out.c2
      have c3 := P4.out.c3
      have z0 := Z4.out.cell 0 _ rfl
      have z1 := Z4.out.cell 1 _ rfl
      have f0 := Z4.out.free 0
      have f1 := Z4.out.free 1
      have l2 := Z4.out.lt
      have l1 := Q4.out.lt
      have l0 : w.heap.size < w4.heap.size := Nat.lt_trans (Nat.lt_succ_self _) l1
      go_wp2_with fail
      refine (HI.out _).mono ?_
      rintro e w5 ⟨rfl, hb⟩
      have B5 := Kp.mk (B4.out.trans (hb.mono B4.out.size))
      have Q5 := Kp.mk (Q4.out.later hb)
      have P5 := Kp.mk (P4.out.later hb)
      have Z5 := Kp.mk (Z4.out.later hb)
      clear hb
      clear q0 q1 c0 c1 c2 c3 z0 z1 f0 f1 l0 l1 l2
      have q0 := Q5.out.cell 0 _ rfl
      have q1 := Q5.out.cell 1 _ rfl
      have c0 := P5.out.c0
      have c1 := P5.out.c1
      have c2 := P5.out.c2
      have c3 := P5.out.c3
      have z0 := Z5.out.cell 0 _ rfl
      have z1 := Z5.out.cell 1 _ rfl
      have f0 := Z5.out.free 0
      have f1 := Z5.out.free 1
      have l2 := Z5.out.lt
      have l1 := Q5.out.lt
      have l0 : w.heap.size < w5.heap.size := Nat.lt_trans (Nat.lt_succ_self _) l1
      go_wp2_with fail
      have HZ := Kp.mk (Z5.out.set2 (.slice none 0 0) (.int .i64 0))
      have BF := Kp.mk (below_set2 B5.out (w.heap.size + 2) (.slice none 0 0) (.int .i64 0) (by omega))
      refine bodyPost_ret (res3 (p := 4) (q := 5) (r := 6) (ty := 29) rfl _ rfl HZ.out _ Tryd.underlying29 (portInfo _ rfl)) rfl ⟨_, rfl, OwnS.nil _ _, BF.out⟩
    · have hk : inK (PortP.mk 2 s d r).kind = false := rfl
      have HI : Kp (∀ w, Calls Tryd.prog 60 #[.agg (rowK 2 s d r)] w fun e w' => e = .returned (.bool false) ∧ Below w.heap.size w w') := ⟨fun w => HI.out w⟩
      have e1 := drC_ok hc hk
      have e2 := drL_ok e1
      rw [e1, e2]
      clear e1 e2
      rw [hc] at HC
      show Calls Tryd.prog 31 #[.agg (rowK 2 s d r), .agg (portA a n cap g)] w fun e w' => ∃ v, e = .returned (.tuple #[.agg (portA none 0 0 0), v, .int .i64 0]) ∧ OwnS w' w.heap.size v (l) ∧ Below w.heap.size w w'
      have hn8 : n ≤ 8 := by omega
      clear hc hk hk1 hk4 hdn hd8 hd1
      go_enter Tryd.func31, Tryd.ntmps31
      go_wp2_with fail
      rw [← E3.out]
      refine HC.out.mono ?_
      rintro e w4 ⟨rfl, hb⟩
      have B4 := Kp.mk (B3.out.trans (hb.mono B3.out.size))
      have Q4 := Kp.mk (Q3.out.later hb)
      have P4 := Kp.mk (P3.out.later hb)
      have Z4 := Kp.mk (Z3.out.later hb)
      clear hb
      have q0 := Q4.out.cell 0 _ rfl
      have q1 := Q4.out.cell 1 _ rfl
      have c0 := P4.out.c0
      have c1 := P4.out.c1
      have c2 := P4.out.c2
      have c3 := P4.out.c3
      have z0 := Z4.out.cell 0 _ rfl
      have z1 := Z4.out.cell 1 _ rfl
      have f0 := Z4.out.free 0
      have f1 := Z4.out.free 1
      have l2 := Z4.out.lt
      have l1 := Q4.out.lt
      have l0 : w.heap.size < w4.heap.size := Nat.lt_trans (Nat.lt_succ_self _) l1
      go_wp2_with fail
      refine (HI.out _).mono ?_
      rintro e w5 ⟨rfl, hb⟩
      have B5 := Kp.mk (B4.out.trans (hb.mono B4.out.size))
      have Q5 := Kp.mk (Q4.out.later hb)
      have P5 := Kp.mk (P4.out.later hb)
      have Z5 := Kp.mk (Z4.out.later hb)
      clear hb
      clear q0 q1 c0 c1 c2 c3 z0 z1 f0 f1 l0 l1 l2
      have q0 := Q5.out.cell 0 _ rfl
      have q1 := Q5.out.cell 1 _ rfl
      have c0 := P5.out.c0
      have c1 := P5.out.c1
      have c2 := P5.out.c2
      have c3 := P5.out.c3
      have z0 := Z5.out.cell 0 _ rfl
      have z1 := Z5.out.cell 1 _ rfl
      have f0 := Z5.out.free 0
      have f1 := Z5.out.free 1
      have l2 := Z5.out.lt
      have l1 := Q5.out.lt
      have l0 : w.heap.size < w5.heap.size := Nat.lt_trans (Nat.lt_succ_self _) l1
      obtain ⟨wx, ex⟩ : ∃ wx, wx = w5.alloc (.cells #[] 9) := ⟨_, rfl⟩
      have bx : Below w5.heap.size w5 wx := by rw [ex]; exact (Below.refl _ _).alloc (Nat.le_refl _) _
      have BX := Kp.mk bx
      have EX := Kp.mk ex
      have VX : Kp (Blk wx w5.heap.size #[] 9) := ⟨by rw [ex]; exact Blk.new _ _ _⟩
      have RX := Kp.mk (H0.out.later (B5.out.trans (bx.mono B5.out.size)))
      clear ex bx
      go_wp2_with (at_builtin; rw [← EX.out]; go_must (refine append_full rfl (.tmp 19) (.tmp 21) rfl (some ⟨w5.heap.size, 0, none⟩) 0 [] rfl (rdEmpty _ _) a n cap l rfl RX.out (by omega) w5.heap.size BX.out.size (fun _ => VX.out.ownNil (Nat.le_refl _)) ?_; rintro v wy ho hb _; have BY := Kp.mk (BX.out.trans (hb.mono BX.out.size)); have HO : Kp (OwnS wy w5.heap.size v l) := ⟨by simpa using ho⟩; have HZY := Kp.mk (Z5.out.later BY.out); clear z0 z1 f0 f1 l0 l1 l2; have z0 := HZY.out.cell 0 _ rfl; have z1 := HZY.out.cell 1 _ rfl; have f0 := HZY.out.free 0; have f1 := HZY.out.free 1; clear ho hb))
      have HZ := Kp.mk (HZY.out.set2 (.slice none 0 0) (.int .i64 0))
      have BF := Kp.mk (below_set2 (B5.out.trans (BY.out.mono B5.out.size)) (w.heap.size + 2) (.slice none 0 0) (.int .i64 0) (by omega))
      have OF := Kp.mk ((HO.out.set2 (w.heap.size + 2) (.slice none 0 0) (.int .i64 0) Z5.out.lt).mono (B' := w.heap.size) B5.out.size)
      refine bodyPost_ret (res3 (p := 4) (q := 5) (r := 6) (ty := 29) rfl _ rfl HZ.out _ Tryd.underlying29 (portInfo _ rfl)) rfl ⟨_, rfl, OF.out, BF.out⟩
    · have hk : inK (PortP.mk 3 s d r).kind = true := rfl
      have HI : Kp (∀ w, Calls Tryd.prog 60 #[.agg (rowK 3 s d r)] w fun e w' => e = .returned (.bool true) ∧ Below w.heap.size w w') := ⟨fun w => HI.out w⟩
      have e1 := drC_in hc hk
      have e2 := drL_not (p := ⟨3, s, d, r⟩) (l := l) (g := g) (by rw [e1]; decide)
      rw [e1, e2]
      clear e1 e2
      rw [hc] at HC
      show Calls Tryd.prog 31 #[.agg (rowK 3 s d r), .agg (portA a n cap g)] w fun e w' => ∃ v, e = .returned (.tuple #[.agg (portA none 0 0 0), v, .int .i64 7]) ∧ OwnS w' w.heap.size v ([]) ∧ Below w.heap.size w w'
      clear hc hk hk1 hk4 hdn hd8 hd1
      go_enter Tryd.func31, Tryd.ntmps31
      go_wp2_with fail
      rw [← E3.out]
      refine HC.out.mono ?_
      rintro e w4 ⟨rfl, hb⟩
      have B4 := Kp.mk (B3.out.trans (hb.mono B3.out.size))
      have Q4 := Kp.mk (Q3.out.later hb)
      have P4 := Kp.mk (P3.out.later hb)
      have Z4 := Kp.mk (Z3.out.later hb)
      clear hb
      have q0 := Q4.out.cell 0 _ rfl
      have q1 := Q4.out.cell 1 _ rfl
      have c0 := P4.out.c0
      have c1 := P4.out.c1
      have c2 := P4.out.c2
      have c3 := P4.out.c3
      have z0 := Z4.out.cell 0 _ rfl
      have z1 := Z4.out.cell 1 _ rfl
      have f0 := Z4.out.free 0
      have f1 := Z4.out.free 1
      have l2 := Z4.out.lt
      have l1 := Q4.out.lt
      have l0 : w.heap.size < w4.heap.size := Nat.lt_trans (Nat.lt_succ_self _) l1
      go_wp2_with fail
      refine (HI.out _).mono ?_
      rintro e w5 ⟨rfl, hb⟩
      have B5 := Kp.mk (B4.out.trans (hb.mono B4.out.size))
      have Q5 := Kp.mk (Q4.out.later hb)
      have P5 := Kp.mk (P4.out.later hb)
      have Z5 := Kp.mk (Z4.out.later hb)
      clear hb
      clear q0 q1 c0 c1 c2 c3 z0 z1 f0 f1 l0 l1 l2
      have q0 := Q5.out.cell 0 _ rfl
      have q1 := Q5.out.cell 1 _ rfl
      have c0 := P5.out.c0
      have c1 := P5.out.c1
      have c2 := P5.out.c2
      have c3 := P5.out.c3
      have z0 := Z5.out.cell 0 _ rfl
      have z1 := Z5.out.cell 1 _ rfl
      have f0 := Z5.out.free 0
      have f1 := Z5.out.free 1
      have l2 := Z5.out.lt
      have l1 := Q5.out.lt
      have l0 : w.heap.size < w5.heap.size := Nat.lt_trans (Nat.lt_succ_self _) l1
      go_wp2_with fail
      have HZ := Kp.mk (Z5.out.set2 (.slice none 0 0) (.int .i64 0))
      have BF := Kp.mk (below_set2 B5.out (w.heap.size + 2) (.slice none 0 0) (.int .i64 0) (by omega))
      refine bodyPost_ret (res3 (p := 4) (q := 5) (r := 6) (ty := 29) rfl _ rfl HZ.out _ Tryd.underlying29 (portInfo _ rfl)) rfl ⟨_, rfl, OwnS.nil _ _, BF.out⟩
    · have hk : inK (PortP.mk 4 s d r).kind = false := rfl
      have HI : Kp (∀ w, Calls Tryd.prog 60 #[.agg (rowK 4 s d r)] w fun e w' => e = .returned (.bool false) ∧ Below w.heap.size w w') := ⟨fun w => HI.out w⟩
      have e1 := drC_ok hc hk
      have e2 := drL_ok e1
      rw [e1, e2]
      clear e1 e2
      rw [hc] at HC
      show Calls Tryd.prog 31 #[.agg (rowK 4 s d r), .agg (portA a n cap g)] w fun e w' => ∃ v, e = .returned (.tuple #[.agg (portA none 0 0 0), v, .int .i64 0]) ∧ OwnS w' w.heap.size v (l) ∧ Below w.heap.size w w'
      have hn8 : n ≤ 8 := by omega
      clear hc hk hk1 hk4 hdn hd8 hd1
      go_enter Tryd.func31, Tryd.ntmps31
      go_wp2_with fail
      rw [← E3.out]
      refine HC.out.mono ?_
      rintro e w4 ⟨rfl, hb⟩
      have B4 := Kp.mk (B3.out.trans (hb.mono B3.out.size))
      have Q4 := Kp.mk (Q3.out.later hb)
      have P4 := Kp.mk (P3.out.later hb)
      have Z4 := Kp.mk (Z3.out.later hb)
      clear hb
      have q0 := Q4.out.cell 0 _ rfl
      have q1 := Q4.out.cell 1 _ rfl
      have c0 := P4.out.c0
      have c1 := P4.out.c1
      have c2 := P4.out.c2
      have c3 := P4.out.c3
      have z0 := Z4.out.cell 0 _ rfl
      have z1 := Z4.out.cell 1 _ rfl
      have f0 := Z4.out.free 0
      have f1 := Z4.out.free 1
      have l2 := Z4.out.lt
      have l1 := Q4.out.lt
      have l0 : w.heap.size < w4.heap.size := Nat.lt_trans (Nat.lt_succ_self _) l1
      go_wp2_with fail
      refine (HI.out _).mono ?_
      rintro e w5 ⟨rfl, hb⟩
      have B5 := Kp.mk (B4.out.trans (hb.mono B4.out.size))
      have Q5 := Kp.mk (Q4.out.later hb)
      have P5 := Kp.mk (P4.out.later hb)
      have Z5 := Kp.mk (Z4.out.later hb)
      clear hb
      clear q0 q1 c0 c1 c2 c3 z0 z1 f0 f1 l0 l1 l2
      have q0 := Q5.out.cell 0 _ rfl
      have q1 := Q5.out.cell 1 _ rfl
      have c0 := P5.out.c0
      have c1 := P5.out.c1
      have c2 := P5.out.c2
      have c3 := P5.out.c3
      have z0 := Z5.out.cell 0 _ rfl
      have z1 := Z5.out.cell 1 _ rfl
      have f0 := Z5.out.free 0
      have f1 := Z5.out.free 1
      have l2 := Z5.out.lt
      have l1 := Q5.out.lt
      have l0 : w.heap.size < w5.heap.size := Nat.lt_trans (Nat.lt_succ_self _) l1
      obtain ⟨wx, ex⟩ : ∃ wx, wx = w5.alloc (.cells #[] 9) := ⟨_, rfl⟩
      have bx : Below w5.heap.size w5 wx := by rw [ex]; exact (Below.refl _ _).alloc (Nat.le_refl _) _
      have BX := Kp.mk bx
      have EX := Kp.mk ex
      have VX : Kp (Blk wx w5.heap.size #[] 9) := ⟨by rw [ex]; exact Blk.new _ _ _⟩
      have RX := Kp.mk (H0.out.later (B5.out.trans (bx.mono B5.out.size)))
      clear ex bx
      go_wp2_with (at_builtin; rw [← EX.out]; go_must (refine append_full rfl (.tmp 19) (.tmp 21) rfl (some ⟨w5.heap.size, 0, none⟩) 0 [] rfl (rdEmpty _ _) a n cap l rfl RX.out (by omega) w5.heap.size BX.out.size (fun _ => VX.out.ownNil (Nat.le_refl _)) ?_; rintro v wy ho hb _; have BY := Kp.mk (BX.out.trans (hb.mono BX.out.size)); have HO : Kp (OwnS wy w5.heap.size v l) := ⟨by simpa using ho⟩; have HZY := Kp.mk (Z5.out.later BY.out); clear z0 z1 f0 f1 l0 l1 l2; have z0 := HZY.out.cell 0 _ rfl; have z1 := HZY.out.cell 1 _ rfl; have f0 := HZY.out.free 0; have f1 := HZY.out.free 1; clear ho hb))
      have HZ := Kp.mk (HZY.out.set2 (.slice none 0 0) (.int .i64 0))
      have BF := Kp.mk (below_set2 (B5.out.trans (BY.out.mono B5.out.size)) (w.heap.size + 2) (.slice none 0 0) (.int .i64 0) (by omega))
      have OF := Kp.mk ((HO.out.set2 (w.heap.size + 2) (.slice none 0 0) (.int .i64 0) Z5.out.lt).mono (B' := w.heap.size) B5.out.size)
      refine bodyPost_ret (res3 (p := 4) (q := 5) (r := 6) (ty := 29) rfl _ rfl HZ.out _ Tryd.underlying29 (portInfo _ rfl)) rfl ⟨_, rfl, OF.out, BF.out⟩
  · have e1 := drC_bad hc
    have e2 := drL_not (p := ⟨k, s, d, r⟩) (l := l) (g := g) (by rw [e1]; exact hc)
    rw [e1, e2]
    clear e1 e2
    have hz : (((portC ⟨k, s, d, r⟩ l g : Nat) : Int) != 0) = true := by simpa using hc
    obtain ⟨c, ec⟩ : ∃ c, c = portC ⟨k, s, d, r⟩ l g := ⟨_, rfl⟩
    rw [← ec] at HC hz ⊢
    clear hc ec
    show Calls Tryd.prog 31 #[.agg (rowK k s d r), .agg (portA a n cap g)] w _
    go_enter Tryd.func31, Tryd.ntmps31
    go_wp2_with fail
    rw [← E3.out]
    refine HC.out.mono ?_
    rintro e w4 ⟨rfl, hb⟩
    have B4 := Kp.mk (B3.out.trans (hb.mono B3.out.size))
    have Q4 := Kp.mk (Q3.out.later hb)
    have P4 := Kp.mk (P3.out.later hb)
    have Z4 := Kp.mk (Z3.out.later hb)
    clear hb
    have q0 := Q4.out.cell 0 _ rfl
    have q1 := Q4.out.cell 1 _ rfl
    have c0 := P4.out.c0
    have c1 := P4.out.c1
    have c2 := P4.out.c2
    have c3 := P4.out.c3
    have z0 := Z4.out.cell 0 _ rfl
    have z1 := Z4.out.cell 1 _ rfl
    have f0 := Z4.out.free 0
    have f1 := Z4.out.free 1
    have l2 := Z4.out.lt
    have l1 := Q4.out.lt
    have l0 : w.heap.size < w4.heap.size := Nat.lt_trans (Nat.lt_succ_self _) l1
    go_wp2_with fail
    have HZ := Kp.mk (Z4.out.set2 (.slice none 0 0) (.int .i64 0))
    have BF := Kp.mk (below_set2 B4.out (w.heap.size + 2) (.slice none 0 0) (.int .i64 0) (by omega))
    refine bodyPost_ret (res3 (p := 4) (q := 5) (r := 6) (ty := 29) rfl _ rfl HZ.out _ Tryd.underlying29 (portInfo _ rfl)) rfl ⟨_, rfl, OwnS.nil _ _, BF.out⟩
end Go.Proofs.YtjlgnbjfgeppcaaDoor
