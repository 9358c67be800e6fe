/- The document's Age, walked. -/
import Derived.Test.YtjlgnbjfgeppcaaDoorPortAge
import Derived.Test.YtjlgnbjfgeppcaaDoorLawCopy
import Derived.Outline
namespace Go.Proofs.YtjlgnbjfgeppcaaDoor
open Go Go.RowKit
set_option linter.unusedVariables false
attribute [local go_sem ↓] Go.wp_at_zero Go.wp_at_succ

theorem zvPort (w : World) : (zeroValue 29).run Tryd.prog w = .ok (.agg (portA none 0 0 0)) w := by kernel_rfl
theorem bl1 (w : World) (c : Array Value) (T : TypeId) : Below w.heap.size w (w.drew.alloc (.cells c T)) := (Drew.once w).below.alloc (Drew.once w).below.size _
theorem bl2 (w : World) (c : Array Value) (T : TypeId) (d : Array Value) (U : TypeId) : Below w.heap.size w ((w.drew.alloc (.cells c T)).alloc (.cells d U)) := (bl1 w c T).alloc (bl1 w c T).size _
theorem new1 (w : World) (c : Array Value) (T : TypeId) : Blk (w.drew.alloc (.cells c T)) w.heap.size c T := Blk.new w.drew c T
theorem new2 (w : World) (c : Array Value) (T : TypeId) (d : Array Value) (U : TypeId) : Blk ((w.drew.alloc (.cells c T)).alloc (.cells d U)) (w.heap.size + 1) d U := by
  have h := Blk.new (w.drew.alloc (.cells c T)) d U
  have e : (w.drew.alloc (.cells c T)).heap.size = w.heap.size + 1 := by simp
  rwa [e] at h
/-- What stands behind the copy. -/
structure AgeF (a : Option Addr) (n cap : Nat) (l : List ByteArray) (w : World) (p : PortP) (g : Int) (a' : Option Addr) (c' : Nat) (vb : Nat) (W : World) : Prop where
  var : Blk W vb #[.slice a' l.length c', .int .i64 g] 29
  res : Blk W (w.heap.size + 2) (portA none 0 0 0) 29
  plan : PlanAt W w.heap.size p
  port : Blk W (w.heap.size + 1) (portA a n cap g) 29
  own : OwnS W (w.heap.size + 3) (.slice a' l.length c') l
  apart : (Value.slice a' l.length c').ownBlock ≠ some vb
  below : Below w.heap.size w W
  far : w.heap.size + 2 < vb
theorem AgeF.ne1 {a : Option Addr} {n cap : Nat} {l : List ByteArray} {w W : World} {p : PortP} {g : Int} {a' : Option Addr} {c' vb : Nat} (h : AgeF a n cap l w p g a' c' vb W) : ¬ vb = w.heap.size + 2 := by have := h.far; omega
theorem AgeF.ne2 {a : Option Addr} {n cap : Nat} {l : List ByteArray} {w W : World} {p : PortP} {g : Int} {a' : Option Addr} {c' vb : Nat} (h : AgeF a n cap l w p g a' c' vb W) : ¬ w.heap.size + 2 = vb := by have := h.far; omega
theorem AgeF.ne3 {a : Option Addr} {n cap : Nat} {l : List ByteArray} {w W : World} {p : PortP} {g : Int} {a' : Option Addr} {c' vb : Nat} (h : AgeF a n cap l w p g a' c' vb W) : ¬ vb = w.heap.size + 1 + 1 := by have := h.far; omega
theorem AgeF.ne4 {a : Option Addr} {n cap : Nat} {l : List ByteArray} {w W : World} {p : PortP} {g : Int} {a' : Option Addr} {c' vb : Nat} (h : AgeF a n cap l w p g a' c' vb W) : ¬ w.heap.size + 1 + 1 = vb := by have := h.far; omega
theorem AgeF.end1 {a : Option Addr} {n cap : Nat} {l : List ByteArray} {w W : World} {p : PortP} {g : Int} {a' : Option Addr} {c' vb : Nat} (h : AgeF a n cap l w p g a' c' vb W) (x : Int) :
    Blk (((W.setCell ⟨vb, 1, none⟩ (.int .i64 x)).setCell ⟨w.heap.size + 2, 0, none⟩ (.slice a' l.length c')).setCell ⟨w.heap.size + 2, 1, none⟩ (.int .i64 x)) (w.heap.size + 2) #[.slice a' l.length c', .int .i64 x] 29 ∧
    OwnS (((W.setCell ⟨vb, 1, none⟩ (.int .i64 x)).setCell ⟨w.heap.size + 2, 0, none⟩ (.slice a' l.length c')).setCell ⟨w.heap.size + 2, 1, none⟩ (.int .i64 x)) w.heap.size (.slice a' l.length c') l ∧
    Below w.heap.size w (((W.setCell ⟨vb, 1, none⟩ (.int .i64 x)).setCell ⟨w.heap.size + 2, 0, none⟩ (.slice a' l.length c')).setCell ⟨w.heap.size + 2, 1, none⟩ (.int .i64 x)) :=
  have hf := h.far
  ⟨(h.res.other vb 1 _ (by omega)).set2 _ _, ((h.own.setFar vb 1 _ h.apart).set2 (w.heap.size + 2) _ _ (by omega)).mono (B' := w.heap.size) (by omega), below_set2 (h.below.setCell (p := ⟨vb, 1, none⟩) (by show w.heap.size ≤ vb; omega) _) (w.heap.size + 2) _ _ (by omega)⟩
theorem ageF_mk {a : Option Addr} {n cap : Nat} {l : List ByteArray} {w w4 W : World} {p : PortP} {g : Int} {a' : Option Addr} {c' vb : Nat} (hb : Below w4.heap.size w4 W) (hv : Blk W vb #[.slice a' l.length c', .int .i64 g] 29)
    (hr : Blk w4 (w.heap.size + 2) (portA none 0 0 0) 29) (hp : PlanAt w4 w.heap.size p) (hq : Blk w4 (w.heap.size + 1) (portA a n cap g) 29) (ho : OwnS W w4.heap.size (.slice a' l.length c') l) (h4 : Below w.heap.size w w4) (hvb : w4.heap.size ≤ vb) (hap : (Value.slice a' l.length c').ownBlock ≠ some vb) : AgeF a n cap l w p g a' c' vb W :=
  ⟨hv, hr.later hb, hp.later hb, hq.later hb, ho.mono hr.lt, hap, h4.trans (hb.mono h4.size), Nat.lt_of_lt_of_le hr.lt hvb⟩
theorem ownS_lt {w : World} {B : Nat} {v : Value} {l : List ByteArray} (h : OwnS w B v l) : v.ownBlock ≠ some w.heap.size := by
  rcases h.2 with ⟨hv, _⟩ | ⟨g, cap, cur, hv, _, hh, _⟩
  · subst hv; simp [Value.ownBlock]
  · subst hv
    have := (Array.getElem?_eq_some_iff.1 hh).1
    simp [Value.ownBlock]; omega
theorem then_gen {K : Act → World → Prop} {Q : Exit → Act → World → Prop} {e : Exit} {a : Act} {W : World} (F : World → Prop) (hF : F W) (h : ∀ W', F W' → Exit.then K Q e a W') : Exit.then K Q e a W := h W hF
set_option maxRecDepth 100000 in
set_option maxHeartbeats 8000000 in
theorem ref_age (p : PortP) (a : Option Addr) (n cap : Nat) (l : List ByteArray) (g : Int) (w : World) (h : RdS w a n cap l) :
    Calls Tryd.prog 35 #[.agg p.row.toArray, .agg (portA a n cap g)] w fun e w' => ∃ v, e = .returned (.tuple #[.agg #[v, .int .i64 (ageG p l g)], .int .i64 (portC p l g : Nat)]) ∧ OwnS w' w.heap.size v (ageL p l g) ∧ Below w.heap.size w w' := by
  obtain ⟨k, s, d, r⟩ := p
  obtain ⟨w3, e3, p3, q3, z3, b3⟩ := tri_box w k s d r a n cap g
  have E3 := Kp.mk e3
  have B3 := Kp.mk b3
  have H0 := Kp.mk h
  have P3 := Kp.mk p3
  have Q3 := Kp.mk q3
  have Z3 := Kp.mk z3
  have HC := Kp.mk (ref_check ⟨k, s, d, r⟩ a n cap l g w3 (h.later b3))
  have hln := h.len
  have hnb := h.bound
  clear h e3 p3 q3 z3 b3
  by_cases hc : portC ⟨k, s, d, r⟩ l g = 0
  · obtain ⟨hp, hf⟩ := portC_zero hc
    obtain ⟨_, hg0, hg1, _, _⟩ := fitsP_parts hf
    have e1 : ageG ⟨k, s, d, r⟩ l g = ageUp ⟨k, s, d, r⟩ n g := by unfold ageG; rw [decide_eq_true hc, hln]; rfl
    have e2 : ageL ⟨k, s, d, r⟩ l g = l := by unfold ageL; rw [decide_eq_true hc]; rfl
    rw [e1, e2, hc]
    rw [hc] at HC
    have HLN := Kp.mk hln
    clear e1 e2 hc hp hf hln
    show Calls Tryd.prog 35 #[.agg (rowK k s d r), .agg (portA a n cap g)] w fun e w' => ∃ v, e = .returned (.tuple #[.agg #[v, .int .i64 (ageUp ⟨k, s, d, r⟩ n g)], .int .i64 0]) ∧ OwnS w' w.heap.size v l ∧ Below w.heap.size w w'
    by_cases hk : k = 1
    · by_cases hn : 0 < n
      · by_cases hg : 254 < g
        · have HU : Kp (ageUp ⟨k, s, d, r⟩ n g = 255) := ⟨by unfold ageUp; rw [decide_eq_true (p := (PortP.mk k s d r).kind = 1) hk, decide_eq_true hn, decide_eq_true hg]; rfl⟩
          have hg' : g = 255 := by omega
          subst hk
          subst hg'
          have hn' : decide (0 < n) = true := decide_eq_true hn
          have hn'' : decide ((n : Int) > 0) = true := decide_eq_true (by omega)
          clear hn hg hg0 hg1
          go_enter Tryd.func35, Tryd.ntmps35
          go_wp2_with fail
          rw [← E3.out]
          refine HC.out.mono ?_
          rintro e w4 ⟨rfl, hb⟩
          have B4 := Kp.mk (B3.out.trans (hb.mono B3.out.size))
          have SB := Kp.mk hb.size
          have Q4 := Kp.mk (Q3.out.later hb)
          have P4 := Kp.mk (P3.out.later hb)
          have Z4 := Kp.mk (Z3.out.later hb)
          have R4 := Kp.mk (H0.out.later B4.out)
          have q0 := Q4.out.cell 0 _ rfl
          have q1 := Q4.out.cell 1 _ rfl
          have SQ : Kp (∀ v, Below w4.heap.size w4 v → v.cell? ⟨w.heap.size + 1, 0, none⟩ = some (.slice a n cap) ∧ v.cell? ⟨w.heap.size + 1, 1, none⟩ = some (.int .i64 255)) := ⟨fun v hv => ⟨(Q4.out.later hv).cell 0 _ rfl, (Q4.out.later hv).cell 1 _ rfl⟩⟩
          have hzp := zvPort
          clear hb
          go_wp2_with fail
          go_region_held3 (fun v => v.cell? ⟨w.heap.size + 1, 0, none⟩ = some (.slice a n cap) ∧ v.cell? ⟨w.heap.size + 1, 1, none⟩ = some (.int .i64 255)) (first | exact SQ.out _ (Drew.once _).below | exact SQ.out _ (bl1 _ _ _) | exact SQ.out _ (bl2 _ _ _ _ _) | exact SQ.out _ HX.out | exact SQ.out _ (HX.out.alloc HX.out.size _) | exact SQ.out _ (below_set2 HX.out _ _ _ (by first | omega | simp)))
            (first
              | (refine step_append_full rfl (.tmp 15) (.tmp 17) rfl (some ⟨w4.heap.size, 0, none⟩) 0 [] (by first | rfl | simp [Act.eval, Act.put]) (rdEmpty _ _) a n cap l (by first | rfl | simp [Act.eval, Act.put]) (R4.out.later (bl1 _ _ _)) (by omega) w4.heap.size (bl1 _ _ _).size (fun _ => (new1 w4 #[] 9).ownNil (Nat.le_refl _)) ?_; intro v w5 ho hb hap; obtain ⟨a', c', rfl⟩ := ho.shape; have HX := Kp.mk ((bl1 _ _ _).trans (hb.mono (bl1 _ _ _).size)); have HO := Kp.mk ho; have HAp := Kp.mk hap; clear ho hb hap)
              | (refine step_append_full rfl (.tmp 15) (.tmp 17) rfl (some ⟨w4.heap.size, 0, none⟩) 0 [] (by first | rfl | simp [Act.eval, Act.put]) (rdEmpty _ _) a n cap l (by first | rfl | simp [Act.eval, Act.put]) (R4.out.later (bl2 _ _ _ _ _)) (by omega) w4.heap.size (bl2 _ _ _ _ _).size (fun _ => ((new1 w4 #[] 9).alloc _).ownNil (Nat.le_refl _)) ?_; intro v w5 ho hb hap; obtain ⟨a', c', rfl⟩ := ho.shape; have HX := Kp.mk ((bl2 _ _ _ _ _).trans (hb.mono (bl2 _ _ _ _ _).size)); have HO := Kp.mk ho; have HV := Kp.mk ((new2 w4 #[] 9 (portA none 0 0 0) 29).later hb); have z0 := HV.out.cell 0 _ rfl; have z1 := HV.out.cell 1 _ rfl; have f0 := HV.out.free 0; have f1 := HV.out.free 1; have HAp := Kp.mk hap; clear ho hb hap)
              | (refine step_append_full rfl (.tmp 15) (.tmp 17) rfl (some ⟨w4.heap.size + 1, 0, none⟩) 0 [] (by first | rfl | simp [Act.eval, Act.put]) (rdEmpty _ _) a n cap l (by first | rfl | simp [Act.eval, Act.put]) (R4.out.later (bl2 _ _ _ _ _)) (by omega) w4.heap.size (bl2 _ _ _ _ _).size (fun _ => (new2 w4 (portA none 0 0 0) 29 #[] 9).ownNil (by omega)) ?_; intro v w5 ho hb hap; obtain ⟨a', c', rfl⟩ := ho.shape; have HX := Kp.mk ((bl2 _ _ _ _ _).trans (hb.mono (bl2 _ _ _ _ _).size)); have HO := Kp.mk ho; have HV := Kp.mk (((new1 w4 (portA none 0 0 0) 29).alloc (.cells #[] 9)).later hb); have z0 := HV.out.cell 0 _ rfl; have z1 := HV.out.cell 1 _ rfl; have f0 := HV.out.free 0; have f1 := HV.out.free 1; have HAp := Kp.mk hap; clear ho hb hap))
          all_goals first
            | (refine then_gen (F := AgeF a n cap l w ⟨1, s, d, r⟩ 255 a' c' w5.heap.size) (ageF_mk (HX.out.alloc HX.out.size _) (Blk.new _ _ _) Z4.out P4.out Q4.out (HO.out.later ((Below.refl _ _).alloc (Nat.le_refl _) _)) B4.out HX.out.size (ownS_lt HO.out)) ?_)
            | (refine then_gen (F := AgeF a n cap l w ⟨1, s, d, r⟩ 255 a' c' w4.heap.size) (ageF_mk (below_set2 HX.out _ _ _ (Nat.le_refl _)) (HV.out.set2 _ _) Z4.out P4.out Q4.out (HO.out.far2 _ _ _ (HAp.out _ (by simp <;> omega) (by simp <;> omega))) B4.out (Nat.le_refl _) (HAp.out _ (by simp <;> omega) (by simp <;> omega))) ?_)
            | (refine then_gen (F := AgeF a n cap l w ⟨1, s, d, r⟩ 255 a' c' (w4.heap.size + 1)) (ageF_mk (below_set2 HX.out _ _ _ (by omega)) (HV.out.set2 _ _) Z4.out P4.out Q4.out (HO.out.far2 _ _ _ (HAp.out _ (by simp <;> omega) (by simp <;> omega))) B4.out (by omega) (HAp.out _ (by simp <;> omega) (by simp <;> omega))) ?_)
          all_goals (
            clear HX HO HAp
            try clear HV z0 z1 f0 f1
            clear q0 q1 hzp
            intro W HW
            have v0 := HW.var.cell 0 _ rfl
            have v1 := HW.var.cell 1 _ rfl
            have vf0 := HW.var.free 0
            have vf1 := HW.var.free 1
            have z0 := HW.res.cell 0 _ rfl
            have z1 := HW.res.cell 1 _ rfl
            have f0 := HW.res.free 0
            have f1 := HW.res.free 1
            have q0 := HW.port.cell 0 _ rfl
            have q1 := HW.port.cell 1 _ rfl
            have c0 := HW.plan.c0
            have ne1 := HW.ne1
            have ne2 := HW.ne2
            have ne3 := HW.ne3
            have ne4 := HW.ne4
            have HWK := Kp.mk HW
            clear HW
            go_wp2_with fail
            have HZ := Kp.mk (HWK.out.end1 (min 256 255)).1
            have HO2 := Kp.mk (HWK.out.end1 (min 256 255)).2.1
            have BF := Kp.mk (HWK.out.end1 (min 256 255)).2.2
            refine bodyPost_ret (res2 (p := 4) (q := 5) (ty := 29) rfl _ rfl HZ.out _ Tryd.underlying29 (portInfo _ rfl)) rfl ⟨_, ?_, HO2.out, BF.out⟩
            rw [HU.out]
            rfl)
        · have HU : Kp (ageUp ⟨k, s, d, r⟩ n g = g + 1) := ⟨by unfold ageUp; rw [decide_eq_true (p := (PortP.mk k s d r).kind = 1) hk, decide_eq_true hn, decide_eq_false hg]; rfl⟩
          subst hk
          have hn' : decide (0 < n) = true := decide_eq_true hn
          have hn'' : decide ((n : Int) > 0) = true := decide_eq_true (by omega)
          have hmin : min (g + 1) 255 = g + 1 := by omega
          clear hn
          go_enter Tryd.func35, Tryd.ntmps35
          go_wp2_with fail
          rw [← E3.out]
          refine HC.out.mono ?_
          rintro e w4 ⟨rfl, hb⟩
          have B4 := Kp.mk (B3.out.trans (hb.mono B3.out.size))
          have SB := Kp.mk hb.size
          have Q4 := Kp.mk (Q3.out.later hb)
          have P4 := Kp.mk (P3.out.later hb)
          have Z4 := Kp.mk (Z3.out.later hb)
          have R4 := Kp.mk (H0.out.later B4.out)
          have q0 := Q4.out.cell 0 _ rfl
          have q1 := Q4.out.cell 1 _ rfl
          have SQ : Kp (∀ v, Below w4.heap.size w4 v → v.cell? ⟨w.heap.size + 1, 0, none⟩ = some (.slice a n cap) ∧ v.cell? ⟨w.heap.size + 1, 1, none⟩ = some (.int .i64 g)) := ⟨fun v hv => ⟨(Q4.out.later hv).cell 0 _ rfl, (Q4.out.later hv).cell 1 _ rfl⟩⟩
          have hzp := zvPort
          clear hb
          go_wp2_with fail
          go_region_held3 (fun v => v.cell? ⟨w.heap.size + 1, 0, none⟩ = some (.slice a n cap) ∧ v.cell? ⟨w.heap.size + 1, 1, none⟩ = some (.int .i64 g)) (first | exact SQ.out _ (Drew.once _).below | exact SQ.out _ (bl1 _ _ _) | exact SQ.out _ (bl2 _ _ _ _ _) | exact SQ.out _ HX.out | exact SQ.out _ (HX.out.alloc HX.out.size _) | exact SQ.out _ (below_set2 HX.out _ _ _ (by first | omega | simp)))
            (first
              | (refine step_append_full rfl (.tmp 15) (.tmp 17) rfl (some ⟨w4.heap.size, 0, none⟩) 0 [] (by first | rfl | simp [Act.eval, Act.put]) (rdEmpty _ _) a n cap l (by first | rfl | simp [Act.eval, Act.put]) (R4.out.later (bl1 _ _ _)) (by omega) w4.heap.size (bl1 _ _ _).size (fun _ => (new1 w4 #[] 9).ownNil (Nat.le_refl _)) ?_; intro v w5 ho hb hap; obtain ⟨a', c', rfl⟩ := ho.shape; have HX := Kp.mk ((bl1 _ _ _).trans (hb.mono (bl1 _ _ _).size)); have HO := Kp.mk ho; have HAp := Kp.mk hap; clear ho hb hap)
              | (refine step_append_full rfl (.tmp 15) (.tmp 17) rfl (some ⟨w4.heap.size, 0, none⟩) 0 [] (by first | rfl | simp [Act.eval, Act.put]) (rdEmpty _ _) a n cap l (by first | rfl | simp [Act.eval, Act.put]) (R4.out.later (bl2 _ _ _ _ _)) (by omega) w4.heap.size (bl2 _ _ _ _ _).size (fun _ => ((new1 w4 #[] 9).alloc _).ownNil (Nat.le_refl _)) ?_; intro v w5 ho hb hap; obtain ⟨a', c', rfl⟩ := ho.shape; have HX := Kp.mk ((bl2 _ _ _ _ _).trans (hb.mono (bl2 _ _ _ _ _).size)); have HO := Kp.mk ho; have HV := Kp.mk ((new2 w4 #[] 9 (portA none 0 0 0) 29).later hb); have z0 := HV.out.cell 0 _ rfl; have z1 := HV.out.cell 1 _ rfl; have f0 := HV.out.free 0; have f1 := HV.out.free 1; have HAp := Kp.mk hap; clear ho hb hap)
              | (refine step_append_full rfl (.tmp 15) (.tmp 17) rfl (some ⟨w4.heap.size + 1, 0, none⟩) 0 [] (by first | rfl | simp [Act.eval, Act.put]) (rdEmpty _ _) a n cap l (by first | rfl | simp [Act.eval, Act.put]) (R4.out.later (bl2 _ _ _ _ _)) (by omega) w4.heap.size (bl2 _ _ _ _ _).size (fun _ => (new2 w4 (portA none 0 0 0) 29 #[] 9).ownNil (by omega)) ?_; intro v w5 ho hb hap; obtain ⟨a', c', rfl⟩ := ho.shape; have HX := Kp.mk ((bl2 _ _ _ _ _).trans (hb.mono (bl2 _ _ _ _ _).size)); have HO := Kp.mk ho; have HV := Kp.mk (((new1 w4 (portA none 0 0 0) 29).alloc (.cells #[] 9)).later hb); have z0 := HV.out.cell 0 _ rfl; have z1 := HV.out.cell 1 _ rfl; have f0 := HV.out.free 0; have f1 := HV.out.free 1; have HAp := Kp.mk hap; clear ho hb hap))
          all_goals first
            | (refine then_gen (F := AgeF a n cap l w ⟨1, s, d, r⟩ g a' c' w5.heap.size) (ageF_mk (HX.out.alloc HX.out.size _) (Blk.new _ _ _) Z4.out P4.out Q4.out (HO.out.later ((Below.refl _ _).alloc (Nat.le_refl _) _)) B4.out HX.out.size (ownS_lt HO.out)) ?_)
            | (refine then_gen (F := AgeF a n cap l w ⟨1, s, d, r⟩ g a' c' w4.heap.size) (ageF_mk (below_set2 HX.out _ _ _ (Nat.le_refl _)) (HV.out.set2 _ _) Z4.out P4.out Q4.out (HO.out.far2 _ _ _ (HAp.out _ (by simp <;> omega) (by simp <;> omega))) B4.out (Nat.le_refl _) (HAp.out _ (by simp <;> omega) (by simp <;> omega))) ?_)
            | (refine then_gen (F := AgeF a n cap l w ⟨1, s, d, r⟩ g a' c' (w4.heap.size + 1)) (ageF_mk (below_set2 HX.out _ _ _ (by omega)) (HV.out.set2 _ _) Z4.out P4.out Q4.out (HO.out.far2 _ _ _ (HAp.out _ (by simp <;> omega) (by simp <;> omega))) B4.out (by omega) (HAp.out _ (by simp <;> omega) (by simp <;> omega))) ?_)
          all_goals (
            clear HX HO HAp
            try clear HV z0 z1 f0 f1
            clear q0 q1 hzp
            intro W HW
            have v0 := HW.var.cell 0 _ rfl
            have v1 := HW.var.cell 1 _ rfl
            have vf0 := HW.var.free 0
            have vf1 := HW.var.free 1
            have z0 := HW.res.cell 0 _ rfl
            have z1 := HW.res.cell 1 _ rfl
            have f0 := HW.res.free 0
            have f1 := HW.res.free 1
            have q0 := HW.port.cell 0 _ rfl
            have q1 := HW.port.cell 1 _ rfl
            have c0 := HW.plan.c0
            have ne1 := HW.ne1
            have ne2 := HW.ne2
            have ne3 := HW.ne3
            have ne4 := HW.ne4
            have HWK := Kp.mk HW
            clear HW
            go_wp2_with fail
            have HZ := Kp.mk (HWK.out.end1 (g + 1)).1
            have HO2 := Kp.mk (HWK.out.end1 (g + 1)).2.1
            have BF := Kp.mk (HWK.out.end1 (g + 1)).2.2
            refine bodyPost_ret (res2 (p := 4) (q := 5) (ty := 29) rfl _ rfl HZ.out _ Tryd.underlying29 (portInfo _ rfl)) rfl ⟨_, ?_, HO2.out, BF.out⟩
            rw [HU.out]
            rfl)
      · have HU : Kp (ageUp ⟨k, s, d, r⟩ n g = g) := ⟨by unfold ageUp; rw [decide_eq_false hn, Bool.and_false]; rfl⟩
        subst hk
        have hn' : decide (0 < n) = false := decide_eq_false hn
        have hn'' : decide ((n : Int) > 0) = false := decide_eq_false (by omega)
        clear hn
        go_enter Tryd.func35, Tryd.ntmps35
        go_wp2_with fail
        rw [← E3.out]
        refine HC.out.mono ?_
        rintro e w4 ⟨rfl, hb⟩
        have B4 := Kp.mk (B3.out.trans (hb.mono B3.out.size))
        have SB := Kp.mk hb.size
        have Q4 := Kp.mk (Q3.out.later hb)
        have P4 := Kp.mk (P3.out.later hb)
        have Z4 := Kp.mk (Z3.out.later hb)
        have R4 := Kp.mk (H0.out.later B4.out)
        have q0 := Q4.out.cell 0 _ rfl
        have q1 := Q4.out.cell 1 _ rfl
        have SQ : Kp (∀ v, Below w4.heap.size w4 v → v.cell? ⟨w.heap.size + 1, 0, none⟩ = some (.slice a n cap) ∧ v.cell? ⟨w.heap.size + 1, 1, none⟩ = some (.int .i64 g)) := ⟨fun v hv => ⟨(Q4.out.later hv).cell 0 _ rfl, (Q4.out.later hv).cell 1 _ rfl⟩⟩
        have hzp := zvPort
        clear hb
        go_wp2_with fail
        go_region_held3 (fun v => v.cell? ⟨w.heap.size + 1, 0, none⟩ = some (.slice a n cap) ∧ v.cell? ⟨w.heap.size + 1, 1, none⟩ = some (.int .i64 g)) (first | exact SQ.out _ (Drew.once _).below | exact SQ.out _ (bl1 _ _ _) | exact SQ.out _ (bl2 _ _ _ _ _) | exact SQ.out _ HX.out | exact SQ.out _ (HX.out.alloc HX.out.size _) | exact SQ.out _ (below_set2 HX.out _ _ _ (by first | omega | simp)))
          (first
            | (refine step_append_full rfl (.tmp 15) (.tmp 17) rfl (some ⟨w4.heap.size, 0, none⟩) 0 [] (by first | rfl | simp [Act.eval, Act.put]) (rdEmpty _ _) a n cap l (by first | rfl | simp [Act.eval, Act.put]) (R4.out.later (bl1 _ _ _)) (by omega) w4.heap.size (bl1 _ _ _).size (fun _ => (new1 w4 #[] 9).ownNil (Nat.le_refl _)) ?_; intro v w5 ho hb hap; obtain ⟨a', c', rfl⟩ := ho.shape; have HX := Kp.mk ((bl1 _ _ _).trans (hb.mono (bl1 _ _ _).size)); have HO := Kp.mk ho; have HAp := Kp.mk hap; clear ho hb hap)
            | (refine step_append_full rfl (.tmp 15) (.tmp 17) rfl (some ⟨w4.heap.size, 0, none⟩) 0 [] (by first | rfl | simp [Act.eval, Act.put]) (rdEmpty _ _) a n cap l (by first | rfl | simp [Act.eval, Act.put]) (R4.out.later (bl2 _ _ _ _ _)) (by omega) w4.heap.size (bl2 _ _ _ _ _).size (fun _ => ((new1 w4 #[] 9).alloc _).ownNil (Nat.le_refl _)) ?_; intro v w5 ho hb hap; obtain ⟨a', c', rfl⟩ := ho.shape; have HX := Kp.mk ((bl2 _ _ _ _ _).trans (hb.mono (bl2 _ _ _ _ _).size)); have HO := Kp.mk ho; have HV := Kp.mk ((new2 w4 #[] 9 (portA none 0 0 0) 29).later hb); have z0 := HV.out.cell 0 _ rfl; have z1 := HV.out.cell 1 _ rfl; have f0 := HV.out.free 0; have f1 := HV.out.free 1; have HAp := Kp.mk hap; clear ho hb hap)
            | (refine step_append_full rfl (.tmp 15) (.tmp 17) rfl (some ⟨w4.heap.size + 1, 0, none⟩) 0 [] (by first | rfl | simp [Act.eval, Act.put]) (rdEmpty _ _) a n cap l (by first | rfl | simp [Act.eval, Act.put]) (R4.out.later (bl2 _ _ _ _ _)) (by omega) w4.heap.size (bl2 _ _ _ _ _).size (fun _ => (new2 w4 (portA none 0 0 0) 29 #[] 9).ownNil (by omega)) ?_; intro v w5 ho hb hap; obtain ⟨a', c', rfl⟩ := ho.shape; have HX := Kp.mk ((bl2 _ _ _ _ _).trans (hb.mono (bl2 _ _ _ _ _).size)); have HO := Kp.mk ho; have HV := Kp.mk (((new1 w4 (portA none 0 0 0) 29).alloc (.cells #[] 9)).later hb); have z0 := HV.out.cell 0 _ rfl; have z1 := HV.out.cell 1 _ rfl; have f0 := HV.out.free 0; have f1 := HV.out.free 1; have HAp := Kp.mk hap; clear ho hb hap))
        all_goals first
          | (refine then_gen (F := AgeF a n cap l w ⟨1, s, d, r⟩ g a' c' w5.heap.size) (ageF_mk (HX.out.alloc HX.out.size _) (Blk.new _ _ _) Z4.out P4.out Q4.out (HO.out.later ((Below.refl _ _).alloc (Nat.le_refl _) _)) B4.out HX.out.size (ownS_lt HO.out)) ?_)
          | (refine then_gen (F := AgeF a n cap l w ⟨1, s, d, r⟩ g a' c' w4.heap.size) (ageF_mk (below_set2 HX.out _ _ _ (Nat.le_refl _)) (HV.out.set2 _ _) Z4.out P4.out Q4.out (HO.out.far2 _ _ _ (HAp.out _ (by simp <;> omega) (by simp <;> omega))) B4.out (Nat.le_refl _) (HAp.out _ (by simp <;> omega) (by simp <;> omega))) ?_)
          | (refine then_gen (F := AgeF a n cap l w ⟨1, s, d, r⟩ g a' c' (w4.heap.size + 1)) (ageF_mk (below_set2 HX.out _ _ _ (by omega)) (HV.out.set2 _ _) Z4.out P4.out Q4.out (HO.out.far2 _ _ _ (HAp.out _ (by simp <;> omega) (by simp <;> omega))) B4.out (by omega) (HAp.out _ (by simp <;> omega) (by simp <;> omega))) ?_)
        all_goals (
          clear HX HO HAp
          try clear HV z0 z1 f0 f1
          clear q0 q1 hzp
          intro W HW
          have v0 := HW.var.cell 0 _ rfl
          have v1 := HW.var.cell 1 _ rfl
          have vf0 := HW.var.free 0
          have vf1 := HW.var.free 1
          have z0 := HW.res.cell 0 _ rfl
          have z1 := HW.res.cell 1 _ rfl
          have f0 := HW.res.free 0
          have f1 := HW.res.free 1
          have q0 := HW.port.cell 0 _ rfl
          have q1 := HW.port.cell 1 _ rfl
          have c0 := HW.plan.c0
          have ne1 := HW.ne1
          have ne2 := HW.ne2
          have ne3 := HW.ne3
          have ne4 := HW.ne4
          have HWK := Kp.mk HW
          clear HW
          go_wp2_with fail
          have HZ := Kp.mk (HWK.out.res.set2 (.slice a' l.length c') (.int .i64 g))
          have HO2 := Kp.mk ((HWK.out.own.set2 (w.heap.size + 2) (.slice a' l.length c') (.int .i64 g) (by omega)).mono (B' := w.heap.size) (by omega))
          have BF := Kp.mk (below_set2 HWK.out.below (w.heap.size + 2) (.slice a' l.length c') (.int .i64 g) (by omega))
          refine bodyPost_ret (res2 (p := 4) (q := 5) (ty := 29) rfl _ rfl HZ.out _ Tryd.underlying29 (portInfo _ rfl)) rfl ⟨_, ?_, HO2.out, BF.out⟩
          rw [HU.out]
          rfl)
    · have HU : Kp (ageUp ⟨k, s, d, r⟩ n g = g) := ⟨by unfold ageUp; rw [decide_eq_false (p := (PortP.mk k s d r).kind = 1) hk, Bool.false_and]; rfl⟩
      have hk' : (k == 1) = false := by simpa using hk
      clear hk
      go_enter Tryd.func35, Tryd.ntmps35
      go_wp2_with fail
      rw [← E3.out]
      refine HC.out.mono ?_
      rintro e w4 ⟨rfl, hb⟩
      have B4 := Kp.mk (B3.out.trans (hb.mono B3.out.size))
      have SB := Kp.mk hb.size
      have Q4 := Kp.mk (Q3.out.later hb)
      have P4 := Kp.mk (P3.out.later hb)
      have Z4 := Kp.mk (Z3.out.later hb)
      have R4 := Kp.mk (H0.out.later B4.out)
      have q0 := Q4.out.cell 0 _ rfl
      have q1 := Q4.out.cell 1 _ rfl
      have SQ : Kp (∀ v, Below w4.heap.size w4 v → v.cell? ⟨w.heap.size + 1, 0, none⟩ = some (.slice a n cap) ∧ v.cell? ⟨w.heap.size + 1, 1, none⟩ = some (.int .i64 g)) := ⟨fun v hv => ⟨(Q4.out.later hv).cell 0 _ rfl, (Q4.out.later hv).cell 1 _ rfl⟩⟩
      have hzp := zvPort
      clear hb
      go_wp2_with fail
      go_region_held3 (fun v => v.cell? ⟨w.heap.size + 1, 0, none⟩ = some (.slice a n cap) ∧ v.cell? ⟨w.heap.size + 1, 1, none⟩ = some (.int .i64 g)) (first | exact SQ.out _ (Drew.once _).below | exact SQ.out _ (bl1 _ _ _) | exact SQ.out _ (bl2 _ _ _ _ _) | exact SQ.out _ HX.out | exact SQ.out _ (HX.out.alloc HX.out.size _) | exact SQ.out _ (below_set2 HX.out _ _ _ (by first | omega | simp)))
        (first
          | (refine step_append_full rfl (.tmp 15) (.tmp 17) rfl (some ⟨w4.heap.size, 0, none⟩) 0 [] (by first | rfl | simp [Act.eval, Act.put]) (rdEmpty _ _) a n cap l (by first | rfl | simp [Act.eval, Act.put]) (R4.out.later (bl1 _ _ _)) (by omega) w4.heap.size (bl1 _ _ _).size (fun _ => (new1 w4 #[] 9).ownNil (Nat.le_refl _)) ?_; intro v w5 ho hb hap; obtain ⟨a', c', rfl⟩ := ho.shape; have HX := Kp.mk ((bl1 _ _ _).trans (hb.mono (bl1 _ _ _).size)); have HO := Kp.mk ho; have HAp := Kp.mk hap; clear ho hb hap)
          | (refine step_append_full rfl (.tmp 15) (.tmp 17) rfl (some ⟨w4.heap.size, 0, none⟩) 0 [] (by first | rfl | simp [Act.eval, Act.put]) (rdEmpty _ _) a n cap l (by first | rfl | simp [Act.eval, Act.put]) (R4.out.later (bl2 _ _ _ _ _)) (by omega) w4.heap.size (bl2 _ _ _ _ _).size (fun _ => ((new1 w4 #[] 9).alloc _).ownNil (Nat.le_refl _)) ?_; intro v w5 ho hb hap; obtain ⟨a', c', rfl⟩ := ho.shape; have HX := Kp.mk ((bl2 _ _ _ _ _).trans (hb.mono (bl2 _ _ _ _ _).size)); have HO := Kp.mk ho; have HV := Kp.mk ((new2 w4 #[] 9 (portA none 0 0 0) 29).later hb); have z0 := HV.out.cell 0 _ rfl; have z1 := HV.out.cell 1 _ rfl; have f0 := HV.out.free 0; have f1 := HV.out.free 1; have HAp := Kp.mk hap; clear ho hb hap)
          | (refine step_append_full rfl (.tmp 15) (.tmp 17) rfl (some ⟨w4.heap.size + 1, 0, none⟩) 0 [] (by first | rfl | simp [Act.eval, Act.put]) (rdEmpty _ _) a n cap l (by first | rfl | simp [Act.eval, Act.put]) (R4.out.later (bl2 _ _ _ _ _)) (by omega) w4.heap.size (bl2 _ _ _ _ _).size (fun _ => (new2 w4 (portA none 0 0 0) 29 #[] 9).ownNil (by omega)) ?_; intro v w5 ho hb hap; obtain ⟨a', c', rfl⟩ := ho.shape; have HX := Kp.mk ((bl2 _ _ _ _ _).trans (hb.mono (bl2 _ _ _ _ _).size)); have HO := Kp.mk ho; have HV := Kp.mk (((new1 w4 (portA none 0 0 0) 29).alloc (.cells #[] 9)).later hb); have z0 := HV.out.cell 0 _ rfl; have z1 := HV.out.cell 1 _ rfl; have f0 := HV.out.free 0; have f1 := HV.out.free 1; have HAp := Kp.mk hap; clear ho hb hap))
      all_goals first
        | (refine then_gen (F := AgeF a n cap l w ⟨k, s, d, r⟩ g a' c' w5.heap.size) (ageF_mk (HX.out.alloc HX.out.size _) (Blk.new _ _ _) Z4.out P4.out Q4.out (HO.out.later ((Below.refl _ _).alloc (Nat.le_refl _) _)) B4.out HX.out.size (ownS_lt HO.out)) ?_)
        | (refine then_gen (F := AgeF a n cap l w ⟨k, s, d, r⟩ g a' c' w4.heap.size) (ageF_mk (below_set2 HX.out _ _ _ (Nat.le_refl _)) (HV.out.set2 _ _) Z4.out P4.out Q4.out (HO.out.far2 _ _ _ (HAp.out _ (by simp <;> omega) (by simp <;> omega))) B4.out (Nat.le_refl _) (HAp.out _ (by simp <;> omega) (by simp <;> omega))) ?_)
        | (refine then_gen (F := AgeF a n cap l w ⟨k, s, d, r⟩ g a' c' (w4.heap.size + 1)) (ageF_mk (below_set2 HX.out _ _ _ (by omega)) (HV.out.set2 _ _) Z4.out P4.out Q4.out (HO.out.far2 _ _ _ (HAp.out _ (by simp <;> omega) (by simp <;> omega))) B4.out (by omega) (HAp.out _ (by simp <;> omega) (by simp <;> omega))) ?_)
      all_goals (
        clear HX HO HAp
        try clear HV z0 z1 f0 f1
        clear q0 q1 hzp
        intro W HW
        have v0 := HW.var.cell 0 _ rfl
        have v1 := HW.var.cell 1 _ rfl
        have vf0 := HW.var.free 0
        have vf1 := HW.var.free 1
        have z0 := HW.res.cell 0 _ rfl
        have z1 := HW.res.cell 1 _ rfl
        have f0 := HW.res.free 0
        have f1 := HW.res.free 1
        have q0 := HW.port.cell 0 _ rfl
        have q1 := HW.port.cell 1 _ rfl
        have c0 := HW.plan.c0
        have ne1 := HW.ne1
        have ne2 := HW.ne2
        have ne3 := HW.ne3
        have ne4 := HW.ne4
        have HWK := Kp.mk HW
        clear HW
        go_wp2_with fail
        have HZ := Kp.mk (HWK.out.res.set2 (.slice a' l.length c') (.int .i64 g))
        have HO2 := Kp.mk ((HWK.out.own.set2 (w.heap.size + 2) (.slice a' l.length c') (.int .i64 g) (by omega)).mono (B' := w.heap.size) (by omega))
        have BF := Kp.mk (below_set2 HWK.out.below (w.heap.size + 2) (.slice a' l.length c') (.int .i64 g) (by omega))
        refine bodyPost_ret (res2 (p := 4) (q := 5) (ty := 29) rfl _ rfl HZ.out _ Tryd.underlying29 (portInfo _ rfl)) rfl ⟨_, ?_, HO2.out, BF.out⟩
        rw [HU.out]
        rfl)
  · have e1 : ageG ⟨k, s, d, r⟩ l g = 0 := by unfold ageG; rw [decide_eq_false hc]; rfl
    have e2 : ageL ⟨k, s, d, r⟩ l g = [] := by unfold ageL; rw [decide_eq_false hc]; rfl
    rw [e1, e2]
    have hz : (((portC ⟨k, s, d, r⟩ l g : Nat) : Int) != 0) = true := by simpa using hc
    obtain ⟨c, ec⟩ : ∃ c, c = portC ⟨k, s, d, r⟩ l g := ⟨_, rfl⟩
    rw [← ec] at HC hz ⊢
    clear e1 e2 hc ec hln
    show Calls Tryd.prog 35 #[.agg (rowK k s d r), .agg (portA a n cap g)] w fun e w' => ∃ v, e = .returned (.tuple #[.agg #[v, .int .i64 0], .int .i64 (c : Int)]) ∧ OwnS w' w.heap.size v [] ∧ Below w.heap.size w w'
    go_enter Tryd.func35, Tryd.ntmps35
    go_wp2_with fail
    rw [← E3.out]
    refine HC.out.mono ?_
    rintro e w4 ⟨rfl, hb⟩
    have z0 := (Z3.out.later hb).cell 0 _ rfl
    have z1 := (Z3.out.later hb).cell 1 _ rfl
    have f0 := (Z3.out.later hb).free 0
    have f1 := (Z3.out.later hb).free 1
    have HZ := Kp.mk ((Z3.out.later hb).set2 (.slice none 0 0) (.int .i64 0))
    have B4 := Kp.mk (below_set2 (B3.out.trans (hb.mono B3.out.size)) (w.heap.size + 2) (.slice none 0 0) (.int .i64 0) (by omega))
    clear hb
    go_wp2_with fail
    refine bodyPost_ret (res2 (p := 4) (q := 5) (ty := 29) rfl _ rfl HZ.out _ Tryd.underlying29 (portInfo _ rfl)) rfl ⟨_, rfl, OwnS.nil _ _, B4.out⟩
end Go.Proofs.YtjlgnbjfgeppcaaDoor
