/- The document's solving of 32 equations, walked. -/
import Derived.Test.YtndninajnkejnaaDoorTimesWalk
import Derived.Test.YtndninajnkejnaaDoorSolvePure
namespace Go.Proofs.YtndninajnkejnaaDoor
open Go Go.RowKit
set_option linter.unusedVariables false

namespace Crc
/-- The pivot taken out of those between k and i that have bit k. -/
def clrTo (F c : Nat → R) (k i : Nat) : Nat → R := fun j => if (k < j ∧ j < i) ∧ (F j).getLsbD k = true then c j ^^^ c k else c j
theorem clrTo_end (F c : Nat → R) (k : Nat) : ∀ j, j < 32 → clrTo F c k 32 j = clr F c k j := by
  intro j hj
  unfold clrTo clr
  simp [hj]
theorem clrTo_start (F c : Nat → R) (k : Nat) : ∀ j, j < 32 → c j = clrTo F c k (k + 1) j := by
  intro j hj
  unfold clrTo
  rw [if_neg (by omega)]
theorem clrTo_yes (F c : Nat → R) (k i : Nat) (hi : k < i) (hb : (F i).getLsbD k = true) (v : R) (hv : v = c i ^^^ c k) : ∀ j, j < 32 → (if j = i then v else clrTo F c k i j) = clrTo F c k (i + 1) j := by
  intro j hj
  unfold clrTo
  by_cases e : j = i
  · subst e
    rw [if_pos rfl, if_pos ⟨⟨hi, by omega⟩, hb⟩, hv]
  · rw [if_neg e]
    have : (j < i + 1) ↔ (j < i) := by omega
    simp [this]
theorem clrTo_no (F c : Nat → R) (k i : Nat) (hb : (F i).getLsbD k = false) : ∀ j, j < 32 → clrTo F c k i j = clrTo F c k (i + 1) j := by
  intro j hj
  unfold clrTo
  by_cases e : j = i
  · subst e
    rw [if_neg (by omega), if_neg (by rw [hb]; simp)]
  · have : (j < i + 1) ↔ (j < i) := by omega
    simp [this]
theorem clrTo_at (F c : Nat → R) (k i : Nat) : clrTo F c k i i = c i := by unfold clrTo; rw [if_neg (by omega)]
end Crc
set_option maxRecDepth 100000 in
set_option maxHeartbeats 4000000 in
theorem ref_solve (M : Nat) (goal : BitVec 32) (f : Nat → BitVec 32) (w : World) (hf : ∀ i, i < 32 → f i = Crc.steps M (1#32 <<< i)) :
    Calls Tryd.prog 58 #[arrU f, .int .u32 (goal.toNat : Int)] w fun e w' => ∃ v : BitVec 32, e = .returned (.int .u32 (v.toNat : Int)) ∧ Crc.steps M v = goal ∧ Below w.heap.size w w' := by
  have HE : Kp (Crc.Elim (Crc.steps M) goal 0 f (fun i => 1#32 <<< i) goal 0#32) := ⟨(Crc.elim_start (Crc.steps M) (Crc.bks M) (Crc.steps_xor M) (Crc.steps_zero M) (Crc.steps_bks M) goal).congr (fun i hi => (hf i hi).symm) (fun _ _ => rfl)⟩
  have HR := Kp.mk (RowU.new w 67 f)
  have HB := Kp.mk ((Below.refl w.heap.size w).alloc (Nat.le_refl _) (.cells (Crc.rowL f).toArray 67))
  have hzv := zvU
  clear hf
  unfold arrU
  go_enter Tryd.func58, Tryd.ntmps58
  go_wp2
  go_loopw [6] (fun i wr => ∃ k : Nat, k ≤ 32 ∧ i = .int .i64 k ∧ Kp (RowU wr 67 w.heap.size w.heap.size f) ∧ Kp (RowU wr 67 w.heap.size (w.heap.size + 1) (fun i => if i < k then 1#32 <<< i else 0#32)) ∧ Kp (Below w.heap.size w wr)) (fun i _ => 32 - (intOf i).toNat)
  case atStart => exact ⟨0, by omega, rfl, ⟨HR.out.later ((Below.refl _ _).alloc (Nat.le_refl _) _)⟩, ⟨by
    have h := ((RowU.zero (w.alloc (.cells (Crc.rowL f).toArray 67))).mono HB.out.size).congr (f' := fun i => if i < 0 then 1#32 <<< i else 0#32) (fun i _ => by simp)
    rw [show (w.alloc (.cells (Crc.rowL f).toArray 67)).heap.size = w.heap.size + 1 from Array.size_push _] at h
    exact h⟩, ⟨HB.out.alloc HB.out.size _⟩⟩
  case round =>
    clear hzv
    obtain ⟨k, hk, rfl, HR, HS, HB⟩ := hrel
    by_cases hlt : k < 32
    · have hb : decide ((k : Int) < 32) = true := decide_eq_true (by omega)
      have h2k := two_pow32 k hlt
      obtain ⟨p, hp⟩ : ∃ p, p = 1#32 <<< k := ⟨_, rfl⟩
      rw [← hp] at h2k
      have HP := Kp.mk hp
      clear hp
      have hc3 := HS.out.cell k hlt
      have hf3 := HS.out.frozen k
      go_wp2
      go_roundw
      case rel =>
        refine ⟨k + 1, by omega, by go_num, ⟨HR.out.otherCell (by omega) _⟩, ⟨(HS.out.stored k p).congr (fun i hi => ?_)⟩, ⟨HB.out.setCell (p := ⟨w.heap.size + 1, k, none⟩) (Nat.le_succ _) _⟩⟩
        by_cases e : i = k
        · subst e; simp [HP.out]
        · have : (i < k + 1) ↔ (i < k) := by omega
          simp [e, this]
      case measure => simp [intOf]; omega
    · have : k = 32 := by omega
      subst this
      have e32 : ((32 : Nat) : Int) = 32 := rfl
      rw [e32]
      clear e32
      have HS1 : Kp (RowU wr 67 w.heap.size (w.heap.size + 1) (fun i => 1#32 <<< i)) := ⟨HS.out.congr (fun i hi => by simp [hi])⟩
      clear hlt
      go_wp2
      go_loopw [1, 7, 8] (fun x1 x7 x8 wr' => ∃ (k : Nat) (want ans : BitVec 32) (f g : Nat → BitVec 32), k ≤ 32 ∧ x1 = .int .u32 (want.toNat : Int) ∧ x7 = .int .u32 (ans.toNat : Int) ∧ x8 = .int .i64 k ∧ Kp (Crc.Elim (Crc.steps M) goal k f g want ans) ∧ Kp (RowU wr' 67 w.heap.size w.heap.size f) ∧ Kp (RowU wr' 67 w.heap.size (w.heap.size + 1) g) ∧ Kp (Below w.heap.size w wr')) (fun _ _ x8 _ => 32 - (intOf x8).toNat)
      case atStart => exact ⟨0, goal, 0#32, f, _, by omega, rfl, rfl, rfl, HE, HR, HS1, HB⟩
      case round =>
        obtain ⟨k, want, ans, f1, g1, hk, rfl, rfl, rfl, HE1, HR1, HG1, HB1⟩ := hrel
        by_cases hlt : k < 32
        · have hb : decide ((k : Int) < 32) = true := decide_eq_true (by omega)
          have HLT := Kp.mk hlt
          obtain ⟨wr1, rfl⟩ : ∃ wr1 : World, wr1 = wr := ⟨_, rfl⟩
          go_wp2
          go_loop [9] (fun x9 => ∃ p : Nat, k ≤ p ∧ p < 32 ∧ x9 = .int .i64 p ∧ Kp (∀ j, k ≤ j → j < p → (f1 j).getLsbD k = false)) (fun x9 => 32 - (intOf x9).toNat)
          case atStart => exact ⟨k, by omega, hlt, rfl, ⟨fun j h1 h2 => by omega⟩⟩
          case round =>
            obtain ⟨p, hkp, hp32, rfl, HP⟩ := hrel
            have hbp : decide ((p : Int) < 32) = true := decide_eq_true (by omega)
            have hcp := HR1.out.cell p hp32
            obtain ⟨c, hc⟩ : ∃ c, c = f1 p := ⟨_, rfl⟩
            rw [← hc] at hcp
            have hbit := Crc.bit_int c k HLT.out
            by_cases ho : c.getLsbD k = true
            · rw [ho] at hbit
              have hbit1 := Crc.bit_one want k
              obtain ⟨d, hd⟩ : ∃ d, d = g1 p := ⟨_, rfl⟩
              obtain ⟨e0, he0⟩ : ∃ e0, e0 = f1 k := ⟨_, rfl⟩
              obtain ⟨e1, he1⟩ : ∃ e1, e1 = g1 k := ⟨_, rfl⟩
              have hx1 := HR1.out.cell k hlt
              have hx2 := HG1.out.cell p hp32
              have hx3 := HR1.out.frozen p
              have A1 := HR1.out.stored p e0
              have B1 := HG1.out.otherCell (i := p) (g' := w.heap.size) (by omega) (.int .u32 (e0.toNat : Int))
              have hx4 := B1.cell k hlt
              have hx5 := B1.cell p hp32
              have hx6 := B1.frozen p
              have A2 := A1.otherCell (i := p) (g' := w.heap.size + 1) (by omega) (.int .u32 (e1.toNat : Int))
              have B2 := B1.stored p e1
              have hx7 := A2.cell k hlt
              have hx8 := A2.frozen k
              have A3 := A2.stored k c
              have B3 := B2.otherCell (i := k) (g' := w.heap.size) (by omega) (.int .u32 (c.toNat : Int))
              have hx9 := B3.cell k hlt
              have hx10 := B3.frozen k
              have A4 := A3.otherCell (i := k) (g' := w.heap.size + 1) (by omega) (.int .u32 (d.toNat : Int))
              have B4 := B3.stored k d
              have HA4 : Kp (RowU _ 67 w.heap.size w.heap.size (Crc.swp f1 k p)) := ⟨A4.congr (fun i _ => by unfold Crc.swp; rw [hc, he0])⟩
              have HB4 : Kp (RowU _ 67 w.heap.size (w.heap.size + 1) (Crc.swp g1 k p)) := ⟨B4.congr (fun i _ => by unfold Crc.swp; rw [hd, he1])⟩
              have HBL := Kp.mk ((((HB1.out.setCell (p := ⟨w.heap.size, p, none⟩) (Nat.le_refl _) (.int .u32 (e0.toNat : Int))).setCell (p := ⟨w.heap.size + 1, p, none⟩) (Nat.le_succ _) (.int .u32 (e1.toNat : Int))).setCell (p := ⟨w.heap.size, k, none⟩) (Nat.le_refl _) (.int .u32 (c.toNat : Int))).setCell (p := ⟨w.heap.size + 1, k, none⟩) (Nat.le_succ _) (.int .u32 (d.toNat : Int)))
              rw [← he0] at hx1
              rw [← hd] at hx2 hx5
              rw [← he1] at hx4
              have e4 : (if k = p then e0 else f1 k) = e0 := by rw [← he0]; split <;> rfl
              rw [e4] at hx7
              have e5 : (if k = p then e1 else g1 k) = e1 := by rw [← he1]; split <;> rfl
              rw [e5] at hx9
              clear e4 e5 A1 A2 A3 A4 B1 B2 B3 B4
              have HC := Kp.mk hc
              have HD := Kp.mk hd
              have hp32b : ((p : Int) == 32) = false := by rw [beq_eq_false_iff_ne]; omega
              have HO := Kp.mk ho
              clear hc hd he0 he1 ho
              go_wp2
              go_loopw [12] (fun x wr' => ∃ i : Nat, k + 1 ≤ i ∧ i ≤ 32 ∧ x = .int .i64 i ∧ Kp (RowU wr' 67 w.heap.size w.heap.size (Crc.clrTo (Crc.swp f1 k p) (Crc.swp f1 k p) k i)) ∧ Kp (RowU wr' 67 w.heap.size (w.heap.size + 1) (Crc.clrTo (Crc.swp f1 k p) (Crc.swp g1 k p) k i)) ∧ Kp (Below w.heap.size w wr')) (fun x _ => 32 - (intOf x).toNat)
              case atStart => exact ⟨k + 1, Nat.le_refl _, hlt, by go_num, ⟨HA4.out.congr (Crc.clrTo_start _ _ k)⟩, ⟨HB4.out.congr (Crc.clrTo_start _ _ k)⟩, HBL⟩
              case round =>
                clear hx1 hx2 hx3 hx4 hx5 hx6 hx7 hx8 hx9 hx10 hcp hbit hbit1
                obtain ⟨i, hki, hi32, rfl, HF, HG, HBB⟩ := hrel
                by_cases hil : i < 32
                · have hbi : decide ((i : Int) < 32) = true := decide_eq_true (by omega)
                  have hcu := HF.out.cell i hil
                  rw [Crc.clrTo_at] at hcu
                  obtain ⟨u, hu⟩ : ∃ u, u = Crc.swp f1 k p i := ⟨_, rfl⟩
                  rw [← hu] at hcu
                  have hbu := Crc.bit_one u k
                  have HU := Kp.mk hu
                  by_cases hou : u.getLsbD k = true
                  · rw [hou] at hbu
                    have hfu := HF.out.frozen i
                    have hxu := Crc.xor32 u c
                    obtain ⟨u2, hu2⟩ : ∃ u2, u2 = u ^^^ c := ⟨_, rfl⟩
                    rw [← hu2] at hxu
                    have G1 := HG.out.otherCell (i := i) (g' := w.heap.size) (by omega) (.int .u32 (u2.toNat : Int))
                    have hcv := G1.cell i hil
                    rw [Crc.clrTo_at] at hcv
                    obtain ⟨v, hv⟩ : ∃ v, v = Crc.swp g1 k p i := ⟨_, rfl⟩
                    rw [← hv] at hcv
                    have hfv := G1.frozen i
                    have hxv := Crc.xor32 v d
                    obtain ⟨v2, hv2⟩ : ∃ v2, v2 = v ^^^ d := ⟨_, rfl⟩
                    rw [← hv2] at hxv
                    have hck : c = Crc.swp f1 k p k := by rw [HC.out]; simp [Crc.swp]
                    have hdk : d = Crc.swp g1 k p k := by rw [HD.out]; simp [Crc.swp]
                    have HF2 := Kp.mk (((HF.out.stored i u2).otherCell (i := i) (g' := w.heap.size + 1) (by omega) (.int .u32 (v2.toNat : Int))).congr (Crc.clrTo_yes (Crc.swp f1 k p) (Crc.swp f1 k p) k i (by omega) (by rw [← hu]; exact hou) u2 (by rw [hu2, hu, hck])))
                    have HG2 := Kp.mk ((G1.stored i v2).congr (Crc.clrTo_yes (Crc.swp f1 k p) (Crc.swp g1 k p) k i (by omega) (by rw [← hu]; exact hou) v2 (by rw [hv2, hv, hdk])))
                    have HBB2 := Kp.mk ((HBB.out.setCell (p := ⟨w.heap.size, i, none⟩) (Nat.le_refl _) (.int .u32 (u2.toNat : Int))).setCell (p := ⟨w.heap.size + 1, i, none⟩) (Nat.le_succ _) (.int .u32 (v2.toNat : Int)))
                    clear hu hv hu2 hv2 hck hdk hou G1
                    go_wp2
                    go_roundw
                    case rel => exact ⟨i + 1, by omega, by omega, by go_num, HF2, HG2, HBB2⟩
                    case measure => simp [intOf]; omega
                  · have hou' : u.getLsbD k = false := by simpa using hou
                    rw [hou'] at hbu
                    have HF2 := Kp.mk (HF.out.congr (Crc.clrTo_no (Crc.swp f1 k p) (Crc.swp f1 k p) k i (by rw [← hu]; exact hou')))
                    have HG2 := Kp.mk (HG.out.congr (Crc.clrTo_no (Crc.swp f1 k p) (Crc.swp g1 k p) k i (by rw [← hu]; exact hou')))
                    clear hu hou hou'
                    go_wp2
                    go_roundw
                    case rel => exact ⟨i + 1, by omega, by omega, by go_num, HF2, HG2, HBB⟩
                    case measure => simp [intOf]; omega
                · have : i = 32 := by omega
                  subst this
                  have HN := Kp.mk ((HE1.out.next (Crc.steps_xor M) HLT.out hkp hp32 (by rw [← HC.out]; exact HO.out)).congr (fun j hj => (Crc.clrTo_end (Crc.swp f1 k p) (Crc.swp f1 k p) k j hj).symm) (fun j hj => (Crc.clrTo_end (Crc.swp f1 k p) (Crc.swp g1 k p) k j hj).symm))
                  have HNW : Kp (Crc.Elim (Crc.steps M) goal (k + 1) (Crc.clrTo (Crc.swp f1 k p) (Crc.swp f1 k p) k 32) (Crc.clrTo (Crc.swp f1 k p) (Crc.swp g1 k p) k 32) (if want.getLsbD k = true then want ^^^ c else want) (if want.getLsbD k = true then ans ^^^ d else ans)) := ⟨by rw [HC.out, HD.out]; exact HN.out⟩
                  have e32 : ((32 : Nat) : Int) = 32 := rfl
                  rw [e32]
                  clear e32 HN
                  have hbw := Crc.bit_one want k
                  by_cases how : want.getLsbD k = true
                  · rw [how] at hbw
                    have hxw := Crc.xor32 want c
                    obtain ⟨w2, hw2⟩ : ∃ w2, w2 = want ^^^ c := ⟨_, rfl⟩
                    rw [← hw2] at hxw
                    have hxa := Crc.xor32 ans d
                    obtain ⟨a2, ha2⟩ : ∃ a2, a2 = ans ^^^ d := ⟨_, rfl⟩
                    rw [← ha2] at hxa
                    have HNX : Kp (Crc.Elim (Crc.steps M) goal (k + 1) (Crc.clrTo (Crc.swp f1 k p) (Crc.swp f1 k p) k 32) (Crc.clrTo (Crc.swp f1 k p) (Crc.swp g1 k p) k 32) w2 a2) := ⟨by
                      have := HNW.out
                      rw [if_pos how, if_pos how, ← hw2, ← ha2] at this
                      exact this⟩
                    clear how hw2 ha2
                    go_wp2
                    go_roundw
                    case rel => exact ⟨k + 1, w2, a2, _, _, by omega, rfl, rfl, by go_num, HNX, HF, HG, HBB⟩
                    case measure => simp [intOf]; omega
                  · have how' : want.getLsbD k = false := by simpa using how
                    rw [how'] at hbw
                    have HNX : Kp (Crc.Elim (Crc.steps M) goal (k + 1) (Crc.clrTo (Crc.swp f1 k p) (Crc.swp f1 k p) k 32) (Crc.clrTo (Crc.swp f1 k p) (Crc.swp g1 k p) k 32) want ans) := ⟨by
                      have := HNW.out
                      rw [if_neg how, if_neg how] at this
                      exact this⟩
                    clear how how'
                    go_wp2
                    go_roundw
                    case rel => exact ⟨k + 1, want, ans, _, _, by omega, rfl, rfl, by go_num, HNX, HF, HG, HBB⟩
                    case measure => simp [intOf]; omega
            · have ho' : c.getLsbD k = false := by simpa using ho
              rw [ho'] at hbit
              have HNX : Kp (p + 1 < 32 ∧ ∀ j, k ≤ j → j < p + 1 → (f1 j).getLsbD k = false) := ⟨by
                have hall : ∀ j, k ≤ j → j < p + 1 → (f1 j).getLsbD k = false := fun j h1 h2 => by
                  by_cases e : j = p
                  · subst e; rw [← hc]; exact ho'
                  · exact HP.out j h1 (by omega)
                obtain ⟨p', h1, h2, h3⟩ := HE1.out.pivot HLT.out
                refine ⟨?_, hall⟩
                by_cases h4 : p' < p + 1
                · rw [hall p' h1 h4] at h3; cases h3
                · omega⟩
              clear ho ho' hc
              go_wp2
              go_round
              case rel => exact ⟨p + 1, by omega, HNX.out.1, by go_num, ⟨HNX.out.2⟩⟩
              case measure => simp [intOf]; omega
        · have : k = 32 := by omega
          subst this
          have e32 : ((32 : Nat) : Int) = 32 := rfl
          rw [e32]
          clear e32
          go_wp2
          go_ret
          exact ⟨ans, rfl, HE1.out.done, HB1.out⟩
end Go.Proofs.YtndninajnkejnaaDoor
