/- 'AluLong', walked: numbers of any length are added, taken away, multiplied and divided word by word. -/
import Derived.Test.YtpihlaeioepbpaaDoorLongWalk
import Derived.Test.YtpihlaeioepbpaaDoorCodeWalk
import Derived.Deep.OwnRows
namespace Go.Proofs.YtpihlaeioepbpaaDoor
open Go Go.RowKit
set_option linter.unusedVariables false

theorem boxed_drawn (w : World) (o : Obj) (q : Nat) : Below w.heap.size w ((w.alloc o).drewN q) := by
  have b1 := (Below.refl w.heap.size w).alloc (Nat.le_refl _) o
  exact b1.trans ((Drew.below (w := w.alloc o) ⟨q, rfl⟩).mono b1.size)
theorem boxed_then {w w2 : World} {o : Obj} {q : Nat} (h : Below ((w.alloc o).drewN q).heap.size ((w.alloc o).drewN q) w2) : Below w.heap.size w w2 :=
  (boxed_drawn w o q).trans (h.mono (boxed_drawn w o q).size)
theorem put_drop (l : List (BitVec 32)) (q : Nat) (x : BitVec 32) (hq : q < l.length) (hx : x = l.getD q 0#32) : (List.replicate (q + 1) 0#32 ++ l.drop (q + 1)).set q x = List.replicate q 0#32 ++ l.drop q := by
  have e1 : List.replicate (q + 1) 0#32 = List.replicate q 0#32 ++ [0#32] := by rw [List.replicate_succ']
  have e2 : l.drop q = x :: l.drop (q + 1) := by
    rw [List.drop_eq_getElem_cons hq, hx, List.getD_eq_getElem?_getD, List.getElem?_eq_getElem hq, Option.getD_some]
  rw [e1, e2, List.append_assoc, List.set_append_right _ _ (by simp)]
  simp
set_option maxRecDepth 100000 in
set_option maxHeartbeats 4000000 in
theorem law_AluLong (A : Nat → Addr) (a : Option Addr) (n na : Nat) (la : List (BitVec 32)) (b : Option Addr) (m mb : Nat) (lb : List (BitVec 32)) (c r : BitVec 32) (w : World) (h1 : RdW w a n na la) (h2 : RdW w b m mb lb) (hE : Errs w allCodes A) :
    Calls Tryd.prog 8 #[.agg #[.slice a n na, .slice b m mb, .int .u32 (c.toNat : Int), .int .u32 (r.toNat : Int)]] w fun e w' => e = .returned (.bool true) ∧ Below w.heap.size w w' := by
  obtain ⟨N, hN⟩ : ∃ N, N = min n m := ⟨_, rfl⟩
  have HT1 := Kp.mk (h1.take N (by omega))
  have HT2 := Kp.mk (h2.take N (by omega))
  have hf1 : (N : Int) ≤ na := by have := h1.fits; omega
  have hf2 : (N : Int) ≤ mb := by have := h2.fits; omega
  have hb1 := h1.bound
  have hb2 := h2.bound
  have HN := Kp.mk hN
  have HE := Kp.mk hE
  have H1 := Kp.mk h1
  have H2 := Kp.mk h2
  have hmin : min (n : Int) (m : Int) = (N : Int) := by omega
  clear h1 h2 hE hN
  go_enter Tryd.func8, Tryd.ntmps8
  go_wp2_with fail
  refine (alu_mul 65536#32 65536#32 _).mono ?_
  rintro e w1 ⟨h, l, rfl, hs, rfl⟩
  obtain ⟨rfl, rfl⟩ : h = 1#32 ∧ l = 0#32 := by
    have e1 : (65536#32 : BitVec 32).toNat = 65536 := rfl
    rw [e1] at hs
    have := h.isLt
    have := l.isLt
    constructor
    · apply BitVec.eq_of_toNat_eq; show h.toNat = 1; omega
    · apply BitVec.eq_of_toNat_eq; show l.toNat = 0; omega
  clear hs
  have hN0 : (0 : Int) ≤ (N : Int) := by omega
  have HNm : m < n ∧ m = N ∨ ¬ m < n ∧ n = N := by have := HN.out; omega
  have HLN : Kp ((la.take N).length = N) := ⟨HT1.out.len⟩
  obtain ⟨LA, hLA⟩ : ∃ LA, LA = la.take N := ⟨_, rfl⟩
  obtain ⟨LB, hLB⟩ : ∃ LB, LB = lb.take N := ⟨_, rfl⟩
  rw [← hLA] at HT1 HLN
  rw [← hLB] at HT2
  obtain ⟨S, hS⟩ : ∃ S, S = (Alu.addTo LA LB N).1 := ⟨_, rfl⟩
  obtain ⟨k, hk⟩ : ∃ k, k = (Alu.addTo LA LB N).2 := ⟨_, rfl⟩
  have C1 := fun w h1 h2 => law_plus a b N na mb LA LB w h1 h2
  have C2 := fun x cx w h1 h2 => law_minus x b N cx mb LA LB w h1 h2 HLN.out
  rw [← hS, ← hk] at C1
  rw [← hS, ← hk] at C2
  have K1 := Kp.mk C1
  have K2 := Kp.mk C2
  have hN35 : N ≤ 35184372088832 := HT1.out.bound
  have HNB := Kp.mk hN35
  have hkk : (k != k) = false := by simp
  clear hLA hLB hS hk C1 C2 hmin
  rcases HNm with ⟨hmn, e⟩ | ⟨hmn, e⟩
  all_goals (
    obtain rfl := e.symm
    clear HN
    go_wp2
    go_quiet (fail)
    go_wp2_with fail
    refine (K1.out _ (HT1.out.later (boxed_drawn w _ _)) (HT2.out.later (boxed_drawn w _ _))).mono ?_
    rintro e w2 ⟨v, rfl, ho, hb⟩
    have HB2 := Kp.mk (boxed_then hb)
    obtain ⟨xs, cxs, rfl, hrs⟩ := wown_rd ho HNB.out
    have HS2 := Kp.mk hrs
    clear ho hb hrs
    go_wp2_with fail
    refine (K2.out _ _ _ HS2.out (HT2.out.later HB2.out)).mono ?_
    rintro e w3 ⟨v, rfl, ho, hb⟩
    have HB3 := Kp.mk (HB2.out.trans (hb.mono HB2.out.size))
    obtain ⟨xd, cxd, rfl, hrd⟩ := wown_rd ho HNB.out
    have HD3 := Kp.mk hrd
    clear ho hb hrd
    go_wp2_with fail
    refine (law_same _ _ _ _ _ _ LA LA _ HD3.out (HT1.out.later HB3.out) rfl).mono ?_
    rintro e w4 ⟨rfl, hd⟩
    have HB4 := Kp.mk (HB3.out.trans (hd.below.mono HB3.out.size))
    clear hd
    by_cases hc0 : c = 0#32
    · have hz : ((c.toNat : Int) == 0) = true := by rw [hc0]; rfl
      clear hc0
      go_wp2_with fail
      refine (alu_div_zero A 1#32 1#32 0#32 _ ((HE.out.later HB4.out).sub (by decide)) rfl).mono ?_
      rintro e w5 ⟨rfl, hd⟩
      have HB5 := Kp.mk (HB4.out.trans (hd.below.mono HB4.out.size))
      clear hd
      go_wp2_with fail
      refine (api_code _ (HE.out.later HB5.out) 20 (by omega) (by omega)).mono ?_
      rintro e w6 ⟨rfl, rfl⟩
      go_wp2
      go_ret
      exact ⟨rfl, HB5.out⟩
    · have hz : ((c.toNat : Int) == 0) = false := by
        rw [beq_eq_false_iff_ne]; intro e; exact hc0 (BitVec.eq_of_toNat_eq (by show c.toNat = 0; omega))
      obtain ⟨r2, hr2⟩ : ∃ r2, r2 = r % c := ⟨_, rfl⟩
      have hmod : (r.toNat : Int) % (c.toNat : Int) = (r2.toNat : Int) := by rw [hr2, BitVec.toNat_umod]; simp
      have hcp : 0 < c.toNat := by
        rcases Nat.eq_zero_or_pos c.toNat with e | e
        · exact absurd (BitVec.eq_of_toNat_eq e) hc0
        · exact e
      have HRC : Kp (r2.toNat < c.toNat) := ⟨by rw [hr2, BitVec.toNat_umod]; exact Nat.mod_lt _ hcp⟩
      have HCI : Kp (0 < c.toNat) := ⟨hcp⟩
      have hc1 : (1 : Int) ≤ (c.toNat : Int) := by omega
      have hc2 : ¬ ((c.toNat : Int) = 0) := by omega
      have HMOD := Kp.mk hmod
      clear hr2 hc0 hcp hmod
      go_wp2
      simp only [HMOD.out]
      go_loopw [17, 18, 19] (fun x17 x18 x19 wr => ∃ (i : Nat) (t : BitVec 32), i ≤ N ∧ x19 = .int .i64 i ∧ x17 = .int .u32 (t.toNat : Int) ∧ Kp (t.toNat = Alu.carr LA c.toNat r2.toNat i) ∧ Kp (wr.ownsRow w.heap.size 22 1 x18 i (wv (Alu.prods LA c.toNat r2.toNat i))) ∧ Kp (Below w.heap.size w wr)) (fun _ _ x19 _ => N - (intOf x19).toNat)
      case atStart => exact ⟨0, r2, by omega, rfl, rfl, ⟨rfl⟩, ⟨World.ownsRow_nil _ _ _ _⟩, HB4⟩
      case round =>
        obtain ⟨i, t, hi, rfl, rfl, HT, HO, HB⟩ := hrel
        by_cases hlt : i < N
        · have hbt : decide ((i : Int) < N) = true := decide_eq_true (by omega)
          have hbn : decide (i < N) = true := decide_eq_true hlt
          obtain ⟨b1, o1, ha, c1⟩ := (HT1.out.later HB.out).cells (by omega)
          subst ha
          have d1 := c1 i hlt
          obtain ⟨x, hx⟩ : ∃ x, x = LA.getD i 0#32 := ⟨_, rfl⟩
          rw [← hx] at d1
          have HX := Kp.mk hx
          clear hx c1
          go_wp2_with fail
          refine (alu_mul x c _).mono ?_
          rintro e w5 ⟨h, l, rfl, hm, rfl⟩
          go_wp2_with fail
          refine (alu_add l t false _).mono ?_
          rintro e w6 ⟨s, o, rfl, hs, rfl⟩
          go_wp2_with fail
          refine (alu_add h 0#32 o _).mono ?_
          rintro e w7 ⟨u, o2, rfl, hu, rfl⟩
          have HP := Kp.mk (Alu.prod_step (a := LA) (i := i) HRC.out c.isLt (by rw [hm, HX.out]) (by rw [hs, HT.out]) hu)
          clear hm hs hu
          go_wp2_with (at_builtin; refine append_words rfl _ _ rfl w.heap.size _ i (wv (Alu.prods LA c.toNat r2.toNat i)) rfl (HO.out.alloc _) _ 1 1 [s] rfl (RdW.lit1 _ s) (by omega) ?_ ?_; exact Nat.le_trans HB.out.size ((Below.refl _ _).alloc (Nat.le_refl _) _).size; intro v' w8 hown hg)
          have HO8 := Kp.mk hown
          have HB8 := Kp.mk ((HB.out.alloc HB.out.size _).grown hg (HB.out.alloc HB.out.size _).size (fun j hj => (HO.out.lt j hj).1))
          clear hown hg
          go_roundw
          case rel => exact ⟨i + 1, u, by omega, by go_num, rfl, ⟨HP.out.2⟩, ⟨by rw [Alu.prods_succ, wv_append, ← HP.out.1]; exact HO8.out⟩, HB8⟩
          case measure => simp [intOf]; omega
        · have : i = N := by omega
          subst this
          have hbt : decide ((i : Int) < i) = false := decide_eq_false (by omega)
          obtain ⟨xp, cxp, rfl, hrp⟩ := wown_rd HO.out HNB.out
          have HP5 := Kp.mk hrp
          clear hrp hlt
          obtain ⟨w5, rfl⟩ : ∃ w5 : World, w5 = wr := ⟨_, rfl⟩
          obtain ⟨ti, hti, hz0, hz1, hz2⟩ := info_parts infoU32
          go_wp2_with (refine wpList_make_row _ rfl _ _ 42 rfl 22 ti (.int .u32 0) Tryd.underlying42 hti hz0 hz1 rfl _ _ i rfl rfl (by rw [hz2]; omega) (by omega) ?_)
          have HQ0 : Kp ((w5.alloc (.cells (madeCells #[.int .u32 0] i) 22)).ownsRow w.heap.size 22 1 (.slice (some ⟨w5.heap.size, 0, none⟩) i i) i (wv (List.replicate i 0#32 ++ LA.drop i))) := ⟨by
            have e := World.ownsRow_lit w5 (madeCells #[.int .u32 0] i) i (base := w.heap.size) (e := 22) (size := 1) HB.out.size (by unfold maxLen; omega) (by rw [Nat.mul_one]; exact size_madeCells _ _)
            rw [toList_madeCells_one] at e
            rw [List.drop_of_length_le (by rw [HLN.out]; omega), List.append_nil]
            have e2 : wv (List.replicate i 0#32) = List.replicate i (.int .u32 0) := by simp [wv]
            rw [e2]
            exact e⟩
          have HBQ := Kp.mk (HB.out.alloc HB.out.size (.cells (madeCells #[.int .u32 0] i) 22))
          go_loopw [17, 23] (fun x17 x23 wr => ∃ (j : Nat) (t : BitVec 32), j ≤ i ∧ x23 = .int .i64 ((j : Int) - 1) ∧ x17 = .int .u32 (t.toNat : Int) ∧ Kp (t.toNat = Alu.carr LA c.toNat r2.toNat j) ∧ Kp (wr.ownsRow w.heap.size 22 1 (.slice (some ⟨w5.heap.size, 0, none⟩) i i) i (wv (List.replicate j 0#32 ++ LA.drop j))) ∧ Kp (Below w5.heap.size w5 wr) ∧ Kp (Below w.heap.size w wr)) (fun _ x23 _ => (intOf x23 + 1).toNat)
          case atStart => exact ⟨i, t, Nat.le_refl _, by go_num, rfl, HT, HQ0, ⟨(Below.refl _ _).alloc (Nat.le_refl _) _⟩, HBQ⟩
          case round =>
            obtain ⟨j, t, hj, rfl, rfl, HT, HOq, HB5, HB6⟩ := hrel
            by_cases h0 : j = 0
            · subst h0
              have hb0 : decide ((0 : Int) ≤ ((0 : Nat) : Int) - 1) = false := by decide
              have HTR : Kp (t = r2) := ⟨BitVec.eq_of_toNat_eq HT.out⟩
              obtain rfl := HTR.out
              have HQ : Kp (RdW _ (some ⟨w5.heap.size, 0, none⟩) i i LA) := ⟨RdW.own HOq.out HNB.out⟩
              go_wp2_with fail
              refine (law_same _ _ _ _ _ _ LA LA _ HQ.out (HT1.out.later HB6.out) rfl).mono ?_
              rintro e w9 ⟨rfl, hd⟩
              have HB9 := Kp.mk (HB6.out.trans (hd.below.mono HB6.out.size))
              clear hd
              go_wp2
              go_ret
              exact ⟨ret_bool (by simp), HB9.out⟩
            · obtain ⟨q, rfl⟩ : ∃ q, j = q + 1 := ⟨j - 1, by omega⟩
              have eq1 : ((q + 1 : Nat) : Int) - 1 = (q : Int) := by omega
              rw [eq1]
              have hb0 : decide ((0 : Int) ≤ (q : Int)) = true := decide_eq_true (by omega)
              have hq0 : (0 : Int) ≤ (q : Int) := by omega
              have hqi : (q : Int) < (i : Int) := by omega
              have HQI : Kp (q < i) := ⟨by omega⟩
              obtain ⟨bp, op, hap, cp⟩ := (HP5.out.later HB5.out).cells (by omega)
              subst hap
              have dp := cp q HQI.out
              rw [Alu.prods_get _ _ _ _ _ HQI.out] at dp
              obtain ⟨y, hy⟩ : ∃ y, y = Alu.prodAt LA c.toNat r2.toNat q := ⟨_, rfl⟩
              rw [← hy] at dp
              have HY := Kp.mk hy
              have hcq := World.ownsRow.cellAt HOq.out q (by omega)
              rw [wv_get _ _ (by rw [List.length_append, List.length_replicate, List.length_drop, HLN.out]; omega)] at hcq
              have HLT : Kp (t.toNat < c.toNat) := ⟨by rw [HT.out]; exact Alu.carr_lt LA _ _ HRC.out _⟩
              clear hy cp h0 eq1
              go_wp2_with fail
              refine (alu_div t y c _ HLT.out).mono ?_
              rintro e w9 ⟨qq, rr, rfl, h1, h2, hd⟩
              have HQS := Kp.mk (Alu.quot_step (a := LA) (i := q) HRC.out HT.out (by rw [← HY.out]; exact h1) h2)
              have HO9 := Kp.mk (wown_later HOq.out hd.below)
              have hc9 := World.ownsRow.cellAt HO9.out q (by have := HQI.out; omega)
              rw [wv_get _ _ (by rw [List.length_append, List.length_replicate, List.length_drop, HLN.out]; have := HQI.out; omega)] at hc9
              have hf9 := World.ownsRow.frozenAt HO9.out q
              have HB95 := Kp.mk (HB5.out.trans (hd.below.mono HB5.out.size))
              have HB96 := Kp.mk (HB6.out.trans (hd.below.mono HB6.out.size))
              have HOS := Kp.mk (World.ownsRow.stored HO9.out q (.int .u32 (qq.toNat : Int))).1
              have HGE : Kp (w.heap.size ≤ w5.heap.size) := ⟨HB.out.size⟩
              clear h1 h2 hd
              go_wp2
              go_roundw
              case rel => exact ⟨q, rr, (by have := HQI.out; omega), (by go_num), rfl, ⟨HQS.out.2⟩, ⟨by have e := HOS.out; rw [wv_set, put_drop LA q qq (by rw [HLN.out]; exact HQI.out) HQS.out.1] at e; exact e⟩, ⟨HB95.out.setCell (p := ⟨w5.heap.size, q, none⟩) (Nat.le_refl _) _⟩, ⟨HB96.out.setCell (p := ⟨w5.heap.size, q, none⟩) HGE.out _⟩⟩
              case measure => simp [intOf] <;> omega)
end Go.Proofs.YtpihlaeioepbpaaDoor
