
/- isa.Decode, walked. -/
import Derived.Test.YtadikbmbadldpaaGreatDoorIsaEncode
namespace Go.Proofs.YtadikbmbadldpaaGreatDoor
open Go Go.RowKit
set_option linter.unusedVariables false

def errN (A : Nat → Addr) : Nat → Value
  | 0 => .nilIface
  | c + 1 => errv (A (c + 1))
def InsV.arr (i : InsV) : Array Value := insA i.op i.a i.b i.c i.imm
/-- The third register of a word with a form. -/
def cOf (f : Nat) (x : BitVec 32) : Nat := bif decide (f = 1) then wC x else 0
set_option maxRecDepth 100000 in
theorem word_is (op a b c l n f : Nat) (imm : Int) (hsum : n = op * 16777216 + a * 1048576 + b * 65536 + l) (hC : c * 4096 + l % 4096 = l) (hl : l < 65536) (h : (f = 1 ∧ imm = 0) ∨ (f ≠ 1 ∧ c = 0 ∧ (imm = (l : Int) ∨ imm = (l : Int) - 65536))) :
    decide (wordN op a b c imm = n) = (!(decide (f = 1)) || !(decide (l % 4096 ≠ 0))) := by
  unfold wordN
  rcases h with ⟨rfl, rfl⟩ | ⟨hf, rfl, h⟩
  · rw [show ((0 : Int) % 65536).toNat = 0 from rfl]
    by_cases h0 : l % 4096 = 0
    · have hh : op * 16777216 + a * 1048576 + b * 65536 + c * 4096 + 0 = n := by omega
      have h1 : ¬ l % 4096 ≠ 0 := by omega
      rw [decide_eq_false h1, hh, decide_eq_true (rfl : n = n)]
      rfl
    · have hh : ¬ op * 16777216 + a * 1048576 + b * 65536 + c * 4096 + 0 = n := by omega
      generalize op * 16777216 + a * 1048576 + b * 65536 + c * 4096 + 0 = N at hh ⊢
      rw [decide_eq_false hh, decide_eq_true (p := l % 4096 ≠ 0) h0]
      rfl
  · have e : (imm % 65536).toNat = l := by omega
    rw [e, decide_eq_false hf, decide_eq_true (by omega)]
    rfl
theorem imm_is (f l : Nat) (x : BitVec 32) (hl : l = wLow x) : (f = 1 ∧ immOf f x = 0) ∨ (f ≠ 1 ∧ (immOf f x = (l : Int) ∨ immOf f x = (l : Int) - 65536)) := by
  unfold immOf
  rw [← hl]
  by_cases h : f = 1
  · left; exact ⟨h, by rw [h]; rfl⟩
  · right
    refine ⟨h, ?_⟩
    rw [decide_eq_false h, cond_false]
    cases (decide (f = 2) || decide (f = 5) || decide (f = 6)) && decide (32768 ≤ l)
    · left; rfl
    · right; rfl
theorem dec_plain (x : BitVec 32) (f : Nat) (hf : formAt (wOp x : Nat) = f) (h1 : 1 ≤ f) (h7 : f ≤ 7) :
    decC x = bif fitsW f (wA x) (wB x) (cOf f x) && decide (wordN (wOp x) (wA x) (wB x) (cOf f x) (immOf f x) = x.toNat) then 0 else 4 := by
  have hsum : x.toNat = wOp x * 16777216 + wA x * 1048576 + wB x * 65536 + wLow x := by have hx := x.isLt; unfold wOp wA wB wLow; omega
  have hl : wLow x < 65536 := by unfold wLow; omega
  have hw : decide (wordN (wOp x) (wA x) (wB x) (cOf f x) (immOf f x) = x.toNat) = (!(decide (f = 1)) || !(decide (wLow x % 4096 ≠ 0))) := by
    by_cases h : f = 1
    · have hC : wC x * 4096 + wLow x % 4096 = wLow x := by unfold wC wLow; omega
      have hc : cOf f x = wC x := by unfold cOf; rw [decide_eq_true h]; rfl
      rw [hc]
      exact word_is _ _ _ _ (wLow x) _ f _ hsum hC hl (.inl ⟨h, by rcases imm_is f _ x rfl with h' | h'; exact h'.2; exact absurd h h'.1⟩)
    · have hc : cOf f x = 0 := by unfold cOf; rw [decide_eq_false h]; rfl
      have hi : immOf f x = (wLow x : Int) ∨ immOf f x = (wLow x : Int) - 65536 := by
        rcases imm_is f _ x rfl with h' | h'
        · exact absurd h'.1 h
        · exact h'.2
      have e : (immOf f x % 65536).toNat = wLow x := by omega
      rw [hc, decide_eq_false h]
      unfold wordN
      rw [e, decide_eq_true (by omega)]
      rfl
  rw [hw]
  unfold decC
  rw [hf, decide_eq_false (by omega : ¬ f = 0), cond_false]
  unfold wBad fitsW usA usB usC cOf
  rw [decide_not, decide_not, decide_not]
  generalize decide (wA x = 0) = A0
  generalize decide (wB x = 0) = B0
  generalize decide (wLow x % 4096 = 0) = Z0
  generalize wC x = c
  clear hw hsum hl hf
  rcases form_cases h1 h7 with rfl | rfl | rfl | rfl | rfl | rfl | rfl
  all_goals
    cases A0 <;> cases B0 <;> cases Z0 <;> first | rfl | (cases decide (c = 0) <;> rfl) | (simp)
abbrev set5 (w : World) (g : Nat) (v0 v1 v2 v3 v4 : Value) : World := ((((w.setCell ⟨g, 0, none⟩ v0).setCell ⟨g, 1, none⟩ v1).setCell ⟨g, 2, none⟩ v2).setCell ⟨g, 3, none⟩ v3).setCell ⟨g, 4, none⟩ v4
theorem below_set5 {B : Nat} {w w' : World} (hb : Below B w w') (g : Nat) (v0 v1 v2 v3 v4 : Value) (hg : B ≤ g) : Below B w (set5 w' g v0 v1 v2 v3 v4) :=
  ((((hb.setCell (p := ⟨g, 0, none⟩) hg v0).setCell (p := ⟨g, 1, none⟩) hg v1).setCell (p := ⟨g, 2, none⟩) hg v2).setCell (p := ⟨g, 3, none⟩) hg v3).setCell (p := ⟨g, 4, none⟩) hg v4
theorem Blk.set5 {w : World} {b : Nat} {x0 x1 x2 x3 x4 : Value} {T : TypeId} (h : Blk w b #[x0, x1, x2, x3, x4] T) (v0 v1 v2 v3 v4 : Value) : Blk (set5 w b v0 v1 v2 v3 v4) b #[v0, v1, v2, v3, v4] T := by
  have h2 := ((((h.set 0 v0).set 1 v1).set 2 v2).set 3 v3).set 4 v4
  exact h2
theorem errv_is (a : Addr) : errv a = .iface 199 (.pointer (some a)) := rfl
theorem i16_wrap (n l : Nat) (h : l = n % 65536) : IntKind.i16.wrap (n : Int) = bif decide (32768 ≤ l) then (l : Int) - 65536 else (l : Int) := by
  unfold IntKind.wrap
  simp only [IntKind.signed, IntKind.bits]
  by_cases hl : 32768 ≤ l
  · rw [decide_eq_true hl]; simp; omega
  · rw [decide_eq_false hl]; simp; omega
theorem imm_lo (f : Nat) (x : BitVec 32) : bLo (usI f) (usS f) ≤ immOf f x := by
  have hl : wLow x < 65536 := by unfold wLow; omega
  unfold bLo immOf usI usS
  generalize wLow x = l at *
  by_cases h1 : f = 1
  · subst h1; exact Int.le_refl _
  · rw [decide_eq_false h1]
    by_cases h2 : 32768 ≤ l
    · rw [decide_eq_true h2, Bool.and_true]
      cases (decide (f = 2) || decide (f = 5) || decide (f = 6)) <;> simp <;> omega
    · rw [decide_eq_false h2, Bool.and_false]
      cases (decide (f = 2) || decide (f = 5) || decide (f = 6)) <;> simp <;> omega
theorem imm_hi (f : Nat) (x : BitVec 32) : immOf f x ≤ bHi (usI f) (usS f) := by
  have hl : wLow x < 65536 := by unfold wLow; omega
  unfold bHi immOf usI usS
  generalize wLow x = l at *
  by_cases h1 : f = 1
  · subst h1; exact Int.le_refl _
  · rw [decide_eq_false h1]
    by_cases h2 : 32768 ≤ l
    · rw [decide_eq_true h2, Bool.and_true]
      cases (decide (f = 2) || decide (f = 5) || decide (f = 6)) <;> simp <;> omega
    · rw [decide_eq_false h2, Bool.and_false]
      cases (decide (f = 2) || decide (f = 5) || decide (f = 6)) <;> simp <;> omega
set_option maxRecDepth 100000 in
set_option maxHeartbeats 4000000 in
theorem isa_decode (A : Nat → Addr) (x : BitVec 32) (w : World) (ht : BlankT w) (hE : Errs w [4, 7] A) :
    Calls Tryz.prog 45 #[.int .u32 (x.toNat : Int)] w fun e w' => e = .returned (.tuple #[.agg (decI x).arr, errN A (decC x)]) ∧ Below w.heap.size w w' := by
  obtain ⟨f, hf⟩ : ∃ f, f = formAt (wOp x : Nat) := ⟨_, rfl⟩
  have hx := x.isLt
  have p1 : (x.toNat : Int) / 16777216 = (wOp x : Nat) := by unfold wOp; omega
  have p2 : bits .and .u32 ((x.toNat : Int) / 1048576) 15 = (wA x : Nat) := by
    have := and15_int (x.toNat / 1048576) (by omega)
    unfold wA; rw [← this]; rfl
  have p3 : bits .and .u32 ((x.toNat : Int) / 65536) 15 = (wB x : Nat) := by
    have := and15_int (x.toNat / 65536) (by omega)
    unfold wB; rw [← this]; rfl
  have p4 : bits .and .u32 ((x.toNat : Int) / 4096) 15 = (wC x : Nat) := by
    have := and15_int (x.toNat / 4096) (by omega)
    unfold wC; rw [← this]; rfl
  have p5 : bits .and .u32 (x.toNat : Int) 65535 = (wLow x : Nat) := and16_int x.toNat hx
  obtain ⟨op, e1⟩ : ∃ op, op = wOp x := ⟨_, rfl⟩
  obtain ⟨a, e2⟩ : ∃ a, a = wA x := ⟨_, rfl⟩
  obtain ⟨b, e3⟩ : ∃ b, b = wB x := ⟨_, rfl⟩
  obtain ⟨c, e4⟩ : ∃ c, c = wC x := ⟨_, rfl⟩
  obtain ⟨l, e5⟩ : ∃ l, l = wLow x := ⟨_, rfl⟩
  obtain ⟨n, e6⟩ : ∃ n, n = x.toNat := ⟨_, rfl⟩
  rw [← e1] at p1 hf
  rw [← e2] at p2
  rw [← e3] at p3
  rw [← e4] at p4
  rw [← e5] at p5
  rw [← e6] at hx p1 p2 p3 p4 p5 ⊢
  have ha : a < 16 := by rw [e2]; unfold wA; omega
  have hb : b < 16 := by rw [e3]; unfold wB; omega
  have hc : c < 16 := by rw [e4]; unfold wC; omega
  have hop : op < 256 := by omega
  have hl16 : l < 65536 := by rw [e5]; unfold wLow; omega
  obtain ⟨w1, ew1⟩ : ∃ w1, w1 = w.alloc (.cells (insA 0 0 0 0 0) 67) := ⟨_, rfl⟩
  obtain ⟨w2, ew2⟩ : ∃ w2, w2 = w1.alloc (.cells (insA op a b 0 0) 67) := ⟨_, rfl⟩
  obtain ⟨B, hB⟩ : ∃ B, B = w.heap.size := ⟨_, rfl⟩
  have b1 : Below B w w1 := by rw [ew1, hB]; exact below_alloc _ _
  have s1 : w1.heap.size = B + 1 := by rw [ew1, hB]; simp
  have b2 : Below w1.heap.size w1 w2 := by rw [ew2]; exact below_alloc _ _
  have s2 : w2.heap.size = B + 2 := by rw [ew2]; simp [s1]
  have BX : Kp (Below B w w2) := ⟨b1.trans (b2.mono (by omega))⟩
  have V1 : Kp (Blk w2 B (insA 0 0 0 0 0) 67) := ⟨Blk.later (by rw [ew1, hB]; exact Blk.new _ _ _) b2⟩
  have V2 : Kp (Blk w2 (B + 1) (insA op a b 0 0) 67) := ⟨by rw [ew2, ← s1]; exact Blk.new _ _ _⟩
  have KF := Kp.mk (isa_Form op w2 (ht.later (hB ▸ BX.out)))
  have HT := Kp.mk ht
  have HE := Kp.mk hE
  rw [← hf] at KF
  have EW1 := Kp.mk ew1
  have EW2 := Kp.mk ew2
  have S1 := Kp.mk s1
  have S2 := Kp.mk s2
  have HBq := Kp.mk hB
  have F := Kp.mk hf
  have E6 := Kp.mk e6
  have EE := Kp.mk (And.intro e1 (And.intro e2 (And.intro e3 (And.intro e4 e5))))
  obtain ⟨r, hr⟩ : ∃ r, r = (decI x).arr := ⟨_, rfl⟩
  obtain ⟨er, her⟩ : ∃ r, r = errN A (decC x) := ⟨_, rfl⟩
  rw [← hr, ← her]
  have HR := Kp.mk hr
  have HER := Kp.mk her
  clear ht hE ew1 ew2 b1 b2 s1 s2 hB hf e1 e2 e3 e4 e5 e6 hx hr her
  go_enter Tryz.func45, Tryz.ntmps45
  go_wp2_with fail
  rw [← HBq.out, ← EW1.out, ← EW2.out]
  refine KF.out.mono ?_
  rintro e w3 ⟨rfl, hw3⟩
  have B3 : Kp (Below B w w3) := ⟨BX.out.trans (hw3.mono (by have := S2.out; omega))⟩
  have V31 := Kp.mk (V1.out.later hw3)
  have V32 := Kp.mk (V2.out.later hw3)
  have c0 := V31.out.cell 0 _ rfl
  have c1 := V31.out.cell 1 _ rfl
  have c2 := V31.out.cell 2 _ rfl
  have c3 := V31.out.cell 3 _ rfl
  have c4 := V31.out.cell 4 _ rfl
  have f0 := V31.out.free 0
  have f1 := V31.out.free 1
  have f2 := V31.out.free 2
  have f3 := V31.out.free 3
  have f4 := V31.out.free 4
  clear hw3 KF EW1 EW2 V1 V2 S1 BX
  by_cases h0 : f = 0
  · have t0 : ((f : Int) == 0) = true := by rw [h0]; rfl
    have hdec : decC x = 7 := by
      unfold decC
      rw [← EE.out.1, ← F.out, h0]
      rfl
    have hr : r = insA 0 0 0 0 0 := by
      rw [HR.out]; unfold decI; rw [hdec]; rfl
    have her : er = errv (A 7) := by rw [HER.out, hdec]; rfl
    have hc7 : w3.cell? ⟨7, 0, none⟩ = some (errv (A 7)) := (HE.out.later (HBq.out ▸ B3.out)).cell 7 (by decide)
    have hlt7 := World.block_lt_of_cell? w _ (HE.out.cell 7 (by decide))
    have n1 : ¬ B = 7 := by rw [HBq.out]; exact fun e => Nat.lt_irrefl _ (e ▸ hlt7)
    have n2 : ¬ 7 = B := fun e => n1 e.symm
    subst hr her
    clear h0 hdec hlt7
    go_wp2_with fail
    go_region
    have VZ : Kp (Blk (set5 w3 B (.int .i64 0) (.int .i64 0) (.int .i64 0) (.int .i64 0) (.int .i64 0)).drew B (insA 0 0 0 0 0) 67) := ⟨(V31.out.set5 _ _ _ _ _).drew⟩
    go_wp2_with fail
    refine bodyPost_ret (res2 rfl _ rfl VZ.out _ Tryz.underlying67 (insSize 0 0 0 0 0)) rfl ⟨rfl, ?_⟩
    rw [← HBq.out]
    exact (below_set5 B3.out B _ _ _ _ _ (Nat.le_refl _)).drew
  · have t0 : ((f : Int) == 0) = false := by rw [beq_eq_false_iff_ne]; omega
    have h1 : 1 ≤ f := by omega
    have h7 : f ≤ 7 := F.out ▸ form_le op
    have KU := Kp.mk (isa_form f h1 h7 w3)
    have HDEC := Kp.mk (dec_plain x f (by rw [F.out, EE.out.1]) h1 h7)
    have HS : Kp (decC x = bif fitsW f a b (cOf f x) && decide (wordN op a b (cOf f x) (immOf f x) = n) then 0 else 4) := ⟨by rw [HDEC.out, EE.out.1, EE.out.2.1, EE.out.2.2.1, E6.out]⟩
    have HLO : Kp (bLo (usI f) (usS f) ≤ immOf f x) := ⟨imm_lo f x⟩
    have HHI : Kp (immOf f x ≤ bHi (usI f) (usS f)) := ⟨imm_hi f x⟩
    have HRI : Kp (decC x = 0 → r = insA op a b ((cOf f x : Nat) : Int) (immOf f x)) := ⟨fun hd => by
      rw [HR.out]
      unfold decI insOf
      rw [hd, EE.out.1, EE.out.2.1, EE.out.2.2.1, ← EE.out.1, ← F.out]
      unfold cOf InsV.arr
      cases decide (f = 1) <;> rfl⟩
    clear HDEC
    by_cases hf1 : f = 1
    · have hC : cOf f x = c := by unfold cOf; rw [hf1, EE.out.2.2.2.1]; rfl
      have hI : immOf f x = 0 := by unfold immOf; rw [hf1]; rfl
      have hU : usC f = true := by rw [hf1]; rfl
      rw [hC, hI] at HS HRI
      rw [hI] at HLO HHI
      rw [hU] at KU
      clear hC hI hU hf1
      go_wp2_with fail
      refine KU.out.mono ?_
      rintro e w4 ⟨rfl, hw4⟩
      have V41 := Kp.mk (V31.out.later hw4)
      have V42 := Kp.mk (V32.out.later hw4)
      have B4 : Kp (Below B w w4) := ⟨B3.out.trans (hw4.mono (by have := B3.out.size; have := HBq.out; omega))⟩
      have z0 := V42.out.cell 0 _ rfl
      have z1 := V42.out.cell 1 _ rfl
      have z2 := V42.out.cell 2 _ rfl
      have z3 := V42.out.cell 3 _ rfl
      have z4 := V42.out.cell 4 _ rfl
      have g3 := V42.out.free 3
      have g4 := V42.out.free 4
      have zl := V42.out.lt
      have zn : ¬ B + 1 = w4.heap.size := by omega
      have zm : ¬ w4.heap.size = B + 1 := by omega
      obtain ⟨w6, ew6⟩ : ∃ w6, w6 = (w4.setCell ⟨B + 1, 3, none⟩ (.int .i64 (c : Int))).alloc (.cells (useA (usA f) (usB f) true (usI f) (usS f)) 145) := ⟨_, rfl⟩
      have V62 : Kp (Blk w6 (B + 1) (insA op a b c (0)) 67) := ⟨by rw [ew6]; exact (V42.out.set 3 (.int .i64 (c : Int))).alloc _⟩
      have V61 : Kp (Blk w6 B (insA 0 0 0 0 0) 67) := ⟨by rw [ew6]; exact (V41.out.other _ _ _ (by omega)).alloc _⟩
      have B6 : Kp (Below B w w6) := ⟨by
        rw [ew6]
        have h1 := B4.out.setCell (p := ⟨B + 1, 3, none⟩) (show B ≤ B + 1 by omega) (.int .i64 (c : Int))
        exact h1.trans ((below_alloc _ _).mono (by have := h1.size; have := HBq.out; omega))⟩
      have EW6 := Kp.mk ew6
      have KE := Kp.mk (isa_encode A op f F.out.symm h1 hop a b c ha hb hc (0) HLO.out HHI.out w6 (HT.out.later (HBq.out ▸ B6.out)) (HE.out.later (HBq.out ▸ B6.out)))
      clear hw4 ew6 KU V41 V42 B4
      go_wp2_with fail
      rw [← EW6.out]
      refine KE.out.mono ?_
      rintro e w7 ⟨rfl, hw7⟩
      have V71 := Kp.mk (V61.out.later hw7)
      have V72 := Kp.mk (V62.out.later hw7)
      have B7 : Kp (Below B w w7) := ⟨B6.out.trans (hw7.mono (by have := B6.out.size; have := HBq.out; omega))⟩
      have hc4 : w7.cell? ⟨4, 0, none⟩ = some (errv (A 4)) := (HE.out.later (HBq.out ▸ B7.out)).cell 4 (by decide)
      have hlt4 := World.block_lt_of_cell? w _ (HE.out.cell 4 (by decide))
      have n1 : ¬ B = 4 := by rw [HBq.out]; exact fun e => Nat.lt_irrefl _ (e ▸ hlt4)
      have n2 : ¬ 4 = B := fun e => n1 e.symm
      clear c0 c1 c2 c3 c4 f0 f1 f2 f3 f4 z0 z1 z2 z3 z4 g3 g4 zn zm zl EW6 KE V61 V62 B6 hlt4 hw7
      have c0 := V71.out.cell 0 _ rfl
      have c1 := V71.out.cell 1 _ rfl
      have c2 := V71.out.cell 2 _ rfl
      have c3 := V71.out.cell 3 _ rfl
      have c4 := V71.out.cell 4 _ rfl
      have f0 := V71.out.free 0
      have f1 := V71.out.free 1
      have f2 := V71.out.free 2
      have f3 := V71.out.free 3
      have f4 := V71.out.free 4
      have z0 := V72.out.cell 0 _ rfl
      have z1 := V72.out.cell 1 _ rfl
      have z2 := V72.out.cell 2 _ rfl
      have z3 := V72.out.cell 3 _ rfl
      have z4 := V72.out.cell 4 _ rfl
      obtain ⟨N, hN⟩ : ∃ N, N = wordN op a b c (0) := ⟨_, rfl⟩
      rw [← hN] at HS ⊢
      clear hN
      obtain ⟨t, ht⟩ : ∃ t, t = fitsW f a b c := ⟨_, rfl⟩
      rw [← ht] at HS ⊢
      clear ht
      cases t
      · have hd : decC x = 4 := by rw [HS.out]; rfl
        have hr : r = insA 0 0 0 0 0 := by rw [HR.out]; unfold decI; rw [hd]; rfl
        have her : er = errv (A 4) := by rw [HER.out, hd]; rfl
        clear HS HRI HR HER
        subst hr her
        clear hd
        simp only [cond_false]
        rw [errv_is]
        go_wp2_with fail
        go_region
        have VZ : Kp (Blk (set5 w7 B (.int .i64 0) (.int .i64 0) (.int .i64 0) (.int .i64 0) (.int .i64 0)).drew B (insA 0 0 0 0 0) 67) := ⟨(V71.out.set5 _ _ _ _ _).drew⟩
        go_wp2_with fail
        refine bodyPost_ret (res2 rfl _ rfl VZ.out _ Tryz.underlying67 (insSize 0 0 0 0 0)) rfl ⟨rfl, ?_⟩
        rw [← HBq.out]
        exact (below_set5 B7.out B _ _ _ _ _ (Nat.le_refl _)).drew
      · simp only [cond_true]
        by_cases hNn : N = n
        · have hd : decC x = 0 := by rw [HS.out, hNn, decide_eq_true (rfl : n = n)]; rfl
          have hr : r = (insA op a b c (0)) := HRI.out hd
          have her : er = .nilIface := by rw [HER.out, hd]; rfl
          clear HS HRI HR HER
          subst hr her hNn
          clear hd
          go_wp2_with fail
          have VZ : Kp (Blk (set5 w7 B (.int .i64 op) (.int .i64 a) (.int .i64 b) (.int .i64 c) (.int .i64 (0))) B (insA op a b c (0)) 67) := ⟨V71.out.set5 _ _ _ _ _⟩
          refine bodyPost_ret (res2 rfl _ rfl VZ.out _ Tryz.underlying67 (insSize _ _ _ _ _)) rfl ⟨rfl, ?_⟩
          rw [← HBq.out]
          exact below_set5 B7.out B _ _ _ _ _ (Nat.le_refl _)
        · have tN : ((N : Int) != (n : Int)) = true := by simp; omega
          have hd : decC x = 4 := by rw [HS.out, decide_eq_false hNn]; rfl
          have hr : r = insA 0 0 0 0 0 := by rw [HR.out]; unfold decI; rw [hd]; rfl
          have her : er = errv (A 4) := by rw [HER.out, hd]; rfl
          clear HS HRI HR HER
          subst hr her
          clear hd hNn
          go_wp2_with fail
          go_region
          have VZ : Kp (Blk (set5 w7 B (.int .i64 0) (.int .i64 0) (.int .i64 0) (.int .i64 0) (.int .i64 0)).drew B (insA 0 0 0 0 0) 67) := ⟨(V71.out.set5 _ _ _ _ _).drew⟩
          go_wp2_with fail
          refine bodyPost_ret (res2 rfl _ rfl VZ.out _ Tryz.underlying67 (insSize 0 0 0 0 0)) rfl ⟨rfl, ?_⟩
          rw [← HBq.out]
          exact (below_set5 B7.out B _ _ _ _ _ (Nat.le_refl _)).drew
    · have hC : cOf f x = 0 := by unfold cOf; rw [decide_eq_false hf1]; rfl
      have hU : usC f = false := decide_eq_false hf1
      rw [hC] at HS HRI
      rw [hU] at KU
      have hf1' := hf1
      clear hC hU
      obtain ⟨us, hus⟩ : ∃ us, us = usS f := ⟨_, rfl⟩
      cases us
      · have hI : immOf f x = (l : Int) := by
          unfold immOf
          rw [decide_eq_false hf1, EE.out.2.2.2.2]
          unfold usS at hus
          rw [← hus]
          rfl
        rw [hI] at HS HRI HLO HHI
        rw [← hus] at KU
        clear hI hus hf1 hf1'
        go_wp2_with fail
        refine KU.out.mono ?_
        rintro e w4 ⟨rfl, hw4⟩
        have V41 := Kp.mk (V31.out.later hw4)
        have V42 := Kp.mk (V32.out.later hw4)
        have B4 : Kp (Below B w w4) := ⟨B3.out.trans (hw4.mono (by have := B3.out.size; have := HBq.out; omega))⟩
        have z0 := V42.out.cell 0 _ rfl
        have z1 := V42.out.cell 1 _ rfl
        have z2 := V42.out.cell 2 _ rfl
        have z3 := V42.out.cell 3 _ rfl
        have z4 := V42.out.cell 4 _ rfl
        have g3 := V42.out.free 3
        have g4 := V42.out.free 4
        have zl := V42.out.lt
        have zn : ¬ B + 1 = w4.heap.size := by omega
        have zm : ¬ w4.heap.size = B + 1 := by omega
        obtain ⟨w6, ew6⟩ : ∃ w6, w6 = (w4.setCell ⟨B + 1, 4, none⟩ (.int .i64 (l : Int))).alloc (.cells (useA (usA f) (usB f) false (usI f) false) 145) := ⟨_, rfl⟩
        have V62 : Kp (Blk w6 (B + 1) (insA op a b 0 ((l : Int))) 67) := ⟨by rw [ew6]; exact (V42.out.set 4 (.int .i64 (l : Int))).alloc _⟩
        have V61 : Kp (Blk w6 B (insA 0 0 0 0 0) 67) := ⟨by rw [ew6]; exact (V41.out.other _ _ _ (by omega)).alloc _⟩
        have B6 : Kp (Below B w w6) := ⟨by
          rw [ew6]
          have h1 := B4.out.setCell (p := ⟨B + 1, 4, none⟩) (show B ≤ B + 1 by omega) (.int .i64 (l : Int))
          exact h1.trans ((below_alloc _ _).mono (by have := h1.size; have := HBq.out; omega))⟩
        have EW6 := Kp.mk ew6
        have KE := Kp.mk (isa_encode A op f F.out.symm h1 hop a b 0 ha hb (by decide) ((l : Int)) HLO.out HHI.out w6 (HT.out.later (HBq.out ▸ B6.out)) (HE.out.later (HBq.out ▸ B6.out)))
        clear hw4 ew6 KU V41 V42 B4
        go_wp2_with fail
        rw [← EW6.out]
        refine KE.out.mono ?_
        rintro e w7 ⟨rfl, hw7⟩
        have V71 := Kp.mk (V61.out.later hw7)
        have V72 := Kp.mk (V62.out.later hw7)
        have B7 : Kp (Below B w w7) := ⟨B6.out.trans (hw7.mono (by have := B6.out.size; have := HBq.out; omega))⟩
        have hc4 : w7.cell? ⟨4, 0, none⟩ = some (errv (A 4)) := (HE.out.later (HBq.out ▸ B7.out)).cell 4 (by decide)
        have hlt4 := World.block_lt_of_cell? w _ (HE.out.cell 4 (by decide))
        have n1 : ¬ B = 4 := by rw [HBq.out]; exact fun e => Nat.lt_irrefl _ (e ▸ hlt4)
        have n2 : ¬ 4 = B := fun e => n1 e.symm
        clear c0 c1 c2 c3 c4 f0 f1 f2 f3 f4 z0 z1 z2 z3 z4 g3 g4 zn zm zl EW6 KE V61 V62 B6 hlt4 hw7
        have c0 := V71.out.cell 0 _ rfl
        have c1 := V71.out.cell 1 _ rfl
        have c2 := V71.out.cell 2 _ rfl
        have c3 := V71.out.cell 3 _ rfl
        have c4 := V71.out.cell 4 _ rfl
        have f0 := V71.out.free 0
        have f1 := V71.out.free 1
        have f2 := V71.out.free 2
        have f3 := V71.out.free 3
        have f4 := V71.out.free 4
        have z0 := V72.out.cell 0 _ rfl
        have z1 := V72.out.cell 1 _ rfl
        have z2 := V72.out.cell 2 _ rfl
        have z3 := V72.out.cell 3 _ rfl
        have z4 := V72.out.cell 4 _ rfl
        obtain ⟨N, hN⟩ : ∃ N, N = wordN op a b 0 ((l : Int)) := ⟨_, rfl⟩
        rw [← hN] at HS ⊢
        clear hN
        obtain ⟨t, ht⟩ : ∃ t, t = fitsW f a b 0 := ⟨_, rfl⟩
        rw [← ht] at HS ⊢
        clear ht
        cases t
        · have hd : decC x = 4 := by rw [HS.out]; rfl
          have hr : r = insA 0 0 0 0 0 := by rw [HR.out]; unfold decI; rw [hd]; rfl
          have her : er = errv (A 4) := by rw [HER.out, hd]; rfl
          clear HS HRI HR HER
          subst hr her
          clear hd
          simp only [cond_false]
          rw [errv_is]
          go_wp2_with fail
          go_region
          have VZ : Kp (Blk (set5 w7 B (.int .i64 0) (.int .i64 0) (.int .i64 0) (.int .i64 0) (.int .i64 0)).drew B (insA 0 0 0 0 0) 67) := ⟨(V71.out.set5 _ _ _ _ _).drew⟩
          go_wp2_with fail
          refine bodyPost_ret (res2 rfl _ rfl VZ.out _ Tryz.underlying67 (insSize 0 0 0 0 0)) rfl ⟨rfl, ?_⟩
          rw [← HBq.out]
          exact (below_set5 B7.out B _ _ _ _ _ (Nat.le_refl _)).drew
        · simp only [cond_true]
          by_cases hNn : N = n
          · have hd : decC x = 0 := by rw [HS.out, hNn, decide_eq_true (rfl : n = n)]; rfl
            have hr : r = (insA op a b 0 ((l : Int))) := HRI.out hd
            have her : er = .nilIface := by rw [HER.out, hd]; rfl
            clear HS HRI HR HER
            subst hr her hNn
            clear hd
            go_wp2_with fail
            have VZ : Kp (Blk (set5 w7 B (.int .i64 op) (.int .i64 a) (.int .i64 b) (.int .i64 0) (.int .i64 ((l : Int)))) B (insA op a b 0 ((l : Int))) 67) := ⟨V71.out.set5 _ _ _ _ _⟩
            refine bodyPost_ret (res2 rfl _ rfl VZ.out _ Tryz.underlying67 (insSize _ _ _ _ _)) rfl ⟨rfl, ?_⟩
            rw [← HBq.out]
            exact below_set5 B7.out B _ _ _ _ _ (Nat.le_refl _)
          · have tN : ((N : Int) != (n : Int)) = true := by simp; omega
            have hd : decC x = 4 := by rw [HS.out, decide_eq_false hNn]; rfl
            have hr : r = insA 0 0 0 0 0 := by rw [HR.out]; unfold decI; rw [hd]; rfl
            have her : er = errv (A 4) := by rw [HER.out, hd]; rfl
            clear HS HRI HR HER
            subst hr her
            clear hd hNn
            go_wp2_with fail
            go_region
            have VZ : Kp (Blk (set5 w7 B (.int .i64 0) (.int .i64 0) (.int .i64 0) (.int .i64 0) (.int .i64 0)).drew B (insA 0 0 0 0 0) 67) := ⟨(V71.out.set5 _ _ _ _ _).drew⟩
            go_wp2_with fail
            refine bodyPost_ret (res2 rfl _ rfl VZ.out _ Tryz.underlying67 (insSize 0 0 0 0 0)) rfl ⟨rfl, ?_⟩
            rw [← HBq.out]
            exact (below_set5 B7.out B _ _ _ _ _ (Nat.le_refl _)).drew
      · obtain ⟨im, him⟩ : ∃ im, im = immOf f x := ⟨_, rfl⟩
        have hw16 := i16_wrap n l (by rw [EE.out.2.2.2.2, E6.out]; rfl)
        have hI : im = bif decide (32768 ≤ l) then (l : Int) - 65536 else (l : Int) := by
          rw [him]
          unfold immOf
          rw [decide_eq_false hf1, EE.out.2.2.2.2]
          unfold usS at hus
          rw [← hus, cond_false, Bool.true_and]
        rw [← hI] at hw16
        have hi1 : -32768 ≤ im := by rw [hI]; cases h : decide (32768 ≤ l) <;> simp at h ⊢ <;> omega
        have hi2 : im ≤ 32767 := by rw [hI]; cases h : decide (32768 ≤ l) <;> simp at h ⊢ <;> omega
        rw [← him] at HS HRI HLO HHI
        rw [← hus] at KU
        clear hI hus hf1 hf1' him
        go_wp2_with fail
        refine KU.out.mono ?_
        rintro e w4 ⟨rfl, hw4⟩
        have V41 := Kp.mk (V31.out.later hw4)
        have V42 := Kp.mk (V32.out.later hw4)
        have B4 : Kp (Below B w w4) := ⟨B3.out.trans (hw4.mono (by have := B3.out.size; have := HBq.out; omega))⟩
        have z0 := V42.out.cell 0 _ rfl
        have z1 := V42.out.cell 1 _ rfl
        have z2 := V42.out.cell 2 _ rfl
        have z3 := V42.out.cell 3 _ rfl
        have z4 := V42.out.cell 4 _ rfl
        have g3 := V42.out.free 3
        have g4 := V42.out.free 4
        have zl := V42.out.lt
        have zn : ¬ B + 1 = w4.heap.size := by omega
        have zm : ¬ w4.heap.size = B + 1 := by omega
        obtain ⟨w6, ew6⟩ : ∃ w6, w6 = (w4.setCell ⟨B + 1, 4, none⟩ (.int .i64 im)).alloc (.cells (useA (usA f) (usB f) false (usI f) true) 145) := ⟨_, rfl⟩
        have V62 : Kp (Blk w6 (B + 1) (insA op a b 0 (im)) 67) := ⟨by rw [ew6]; exact (V42.out.set 4 (.int .i64 im)).alloc _⟩
        have V61 : Kp (Blk w6 B (insA 0 0 0 0 0) 67) := ⟨by rw [ew6]; exact (V41.out.other _ _ _ (by omega)).alloc _⟩
        have B6 : Kp (Below B w w6) := ⟨by
          rw [ew6]
          have h1 := B4.out.setCell (p := ⟨B + 1, 4, none⟩) (show B ≤ B + 1 by omega) (.int .i64 im)
          exact h1.trans ((below_alloc _ _).mono (by have := h1.size; have := HBq.out; omega))⟩
        have EW6 := Kp.mk ew6
        have KE := Kp.mk (isa_encode A op f F.out.symm h1 hop a b 0 ha hb (by decide) (im) HLO.out HHI.out w6 (HT.out.later (HBq.out ▸ B6.out)) (HE.out.later (HBq.out ▸ B6.out)))
        clear hw4 ew6 KU V41 V42 B4
        go_wp2_with fail
        rw [← EW6.out]
        refine KE.out.mono ?_
        rintro e w7 ⟨rfl, hw7⟩
        have V71 := Kp.mk (V61.out.later hw7)
        have V72 := Kp.mk (V62.out.later hw7)
        have B7 : Kp (Below B w w7) := ⟨B6.out.trans (hw7.mono (by have := B6.out.size; have := HBq.out; omega))⟩
        have hc4 : w7.cell? ⟨4, 0, none⟩ = some (errv (A 4)) := (HE.out.later (HBq.out ▸ B7.out)).cell 4 (by decide)
        have hlt4 := World.block_lt_of_cell? w _ (HE.out.cell 4 (by decide))
        have n1 : ¬ B = 4 := by rw [HBq.out]; exact fun e => Nat.lt_irrefl _ (e ▸ hlt4)
        have n2 : ¬ 4 = B := fun e => n1 e.symm
        clear c0 c1 c2 c3 c4 f0 f1 f2 f3 f4 z0 z1 z2 z3 z4 g3 g4 zn zm zl EW6 KE V61 V62 B6 hlt4 hw7
        have c0 := V71.out.cell 0 _ rfl
        have c1 := V71.out.cell 1 _ rfl
        have c2 := V71.out.cell 2 _ rfl
        have c3 := V71.out.cell 3 _ rfl
        have c4 := V71.out.cell 4 _ rfl
        have f0 := V71.out.free 0
        have f1 := V71.out.free 1
        have f2 := V71.out.free 2
        have f3 := V71.out.free 3
        have f4 := V71.out.free 4
        have z0 := V72.out.cell 0 _ rfl
        have z1 := V72.out.cell 1 _ rfl
        have z2 := V72.out.cell 2 _ rfl
        have z3 := V72.out.cell 3 _ rfl
        have z4 := V72.out.cell 4 _ rfl
        obtain ⟨N, hN⟩ : ∃ N, N = wordN op a b 0 (im) := ⟨_, rfl⟩
        rw [← hN] at HS ⊢
        clear hN
        obtain ⟨t, ht⟩ : ∃ t, t = fitsW f a b 0 := ⟨_, rfl⟩
        rw [← ht] at HS ⊢
        clear ht
        cases t
        · have hd : decC x = 4 := by rw [HS.out]; rfl
          have hr : r = insA 0 0 0 0 0 := by rw [HR.out]; unfold decI; rw [hd]; rfl
          have her : er = errv (A 4) := by rw [HER.out, hd]; rfl
          clear HS HRI HR HER
          subst hr her
          clear hd
          simp only [cond_false]
          rw [errv_is]
          go_wp2_with fail
          go_region
          have VZ : Kp (Blk (set5 w7 B (.int .i64 0) (.int .i64 0) (.int .i64 0) (.int .i64 0) (.int .i64 0)).drew B (insA 0 0 0 0 0) 67) := ⟨(V71.out.set5 _ _ _ _ _).drew⟩
          go_wp2_with fail
          refine bodyPost_ret (res2 rfl _ rfl VZ.out _ Tryz.underlying67 (insSize 0 0 0 0 0)) rfl ⟨rfl, ?_⟩
          rw [← HBq.out]
          exact (below_set5 B7.out B _ _ _ _ _ (Nat.le_refl _)).drew
        · simp only [cond_true]
          by_cases hNn : N = n
          · have hd : decC x = 0 := by rw [HS.out, hNn, decide_eq_true (rfl : n = n)]; rfl
            have hr : r = (insA op a b 0 (im)) := HRI.out hd
            have her : er = .nilIface := by rw [HER.out, hd]; rfl
            clear HS HRI HR HER
            subst hr her hNn
            clear hd
            go_wp2_with fail
            have VZ : Kp (Blk (set5 w7 B (.int .i64 op) (.int .i64 a) (.int .i64 b) (.int .i64 0) (.int .i64 (im))) B (insA op a b 0 (im)) 67) := ⟨V71.out.set5 _ _ _ _ _⟩
            refine bodyPost_ret (res2 rfl _ rfl VZ.out _ Tryz.underlying67 (insSize _ _ _ _ _)) rfl ⟨rfl, ?_⟩
            rw [← HBq.out]
            exact below_set5 B7.out B _ _ _ _ _ (Nat.le_refl _)
          · have tN : ((N : Int) != (n : Int)) = true := by simp; omega
            have hd : decC x = 4 := by rw [HS.out, decide_eq_false hNn]; rfl
            have hr : r = insA 0 0 0 0 0 := by rw [HR.out]; unfold decI; rw [hd]; rfl
            have her : er = errv (A 4) := by rw [HER.out, hd]; rfl
            clear HS HRI HR HER
            subst hr her
            clear hd hNn
            go_wp2_with fail
            go_region
            have VZ : Kp (Blk (set5 w7 B (.int .i64 0) (.int .i64 0) (.int .i64 0) (.int .i64 0) (.int .i64 0)).drew B (insA 0 0 0 0 0) 67) := ⟨(V71.out.set5 _ _ _ _ _).drew⟩
            go_wp2_with fail
            refine bodyPost_ret (res2 rfl _ rfl VZ.out _ Tryz.underlying67 (insSize 0 0 0 0 0)) rfl ⟨rfl, ?_⟩
            rw [← HBq.out]
            exact (below_set5 B7.out B _ _ _ _ _ (Nat.le_refl _)).drew
end Go.Proofs.YtadikbmbadldpaaGreatDoor
