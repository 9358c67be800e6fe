/- The document's Patch, walked. -/
import Derived.Test.YtndninajnkejnaaDoorSolveWalk
import Derived.Test.YtndninajnkejnaaDoorPatchWalk
import Derived.Test.YtndninajnkejnaaDoorSealRef
namespace Go.Proofs.YtndninajnkejnaaDoor
open Go Go.RowKit
set_option linter.unusedVariables false

namespace Crc
/-- The first k of four bytes laid. -/
def layTo (l : List B) (q : Nat) (v : R) : Nat → List B
  | 0 => l
  | k + 1 => (layTo l q v k).set (q + k) ((laidB v).getD k 0#8)
theorem layTo_length (l : List B) (q : Nat) (v : R) (k : Nat) : (layTo l q v k).length = l.length := by
  induction k with
  | zero => rfl
  | succ k ih => rw [layTo, List.length_set, ih]
theorem layTo_all (l : List B) (q : Nat) (v : R) (h : q + 4 ≤ l.length) : layTo l q v 4 = patched l q v := by
  apply List.ext_getElem?
  intro i
  have hg := patched_get l q i v h
  have hl := patched_length l q v h
  have hl2 := layTo_length l q v 4
  by_cases hi : i < l.length
  · rw [List.getElem?_eq_getElem (by omega), List.getElem?_eq_getElem (by omega)]
    have e : (patched l q v).getD i 0#8 = (patched l q v)[i]'(by omega) := by simp [List.getD_eq_getElem?_getD, List.getElem?_eq_getElem (show i < (patched l q v).length by omega)]
    rw [← e, hg]
    simp only [layTo, Nat.add_zero, List.getElem_set]
    by_cases h3 : q + 3 = i
    · subst h3; rw [if_pos rfl, if_pos (by omega)]; congr 2; omega
    · rw [if_neg h3]
      by_cases h2 : q + 2 = i
      · subst h2; rw [if_pos rfl, if_pos (by omega)]; congr 2; omega
      · rw [if_neg h2]
        by_cases h1 : q + 1 = i
        · subst h1; rw [if_pos rfl, if_pos (by omega)]; congr 2; omega
        · rw [if_neg h1]
          by_cases h0 : q = i
          · subst h0; rw [if_pos rfl, if_pos (by omega)]; congr 2; omega
          · rw [if_neg h0, if_neg (by omega)]
            simp [List.getD_eq_getElem?_getD, hi]
  · rw [List.getElem?_eq_none (by omega), List.getElem?_eq_none (by omega)]
theorem one_shl8 (k : Nat) (h : k < 8) : (2 : Int) ^ k % 256 = (((1#8 : B) <<< k).toNat : Int) := by
  match k, h with
  | 0, _ => rfl
  | 1, _ => rfl
  | 2, _ => rfl
  | 3, _ => rfl
  | 4, _ => rfl
  | 5, _ => rfl
  | 6, _ => rfl
  | 7, _ => rfl
end Crc
theorem heldB {wb v : World} {E : TypeId} {B g : Nat} {F : Nat → BitVec 32} (h : RowU wb E B g F) (hb : Below wb.heap.size wb v) : Below wb.heap.size wb v ∧ v.rangeAt g 0 (Crc.rowL F) := ⟨hb, (h.later hb).range⟩
set_option maxRecDepth 100000 in
set_option maxHeartbeats 4000000 in
theorem ref_patch_yes (a : Option Addr) (n cap : Nat) (l : List (BitVec 8)) (q : Nat) (want : BitVec 32) (w : World) (h : RdB w a n cap l) (hk : q + 4 ≤ n) :
    Calls Tryd.prog 38 #[.slice a n cap, .int .i64 (q : Int), .int .u32 (want.toNat : Int)] w fun e w' => ∃ g c' v, e = .returned (.tuple #[.slice (some ⟨g, 0, none⟩) n c', .int .i64 0]) ∧ Crc.sum (Crc.patched l q v) = want ∧ w'.ownsRow w.heap.size 5 1 (.slice (some ⟨g, 0, none⟩) n c') n (bv (Crc.patched l q v)) ∧ Below w.heap.size w w' := by
  have hb := h.bound
  have HL := Kp.mk h.len
  have HR := Kp.mk h
  have hk0 : decide ((q : Int) < 0) = false := decide_eq_false (by omega)
  have hk4 : decide ((n : Int) - 4 < (q : Int)) = false := decide_eq_false (by omega)
  have hzv := zvU
  clear h
  go_enter Tryd.func38, Tryd.ntmps38
  go_wp2_with (at_builtin; refine append_fresh rfl _ _ rfl rfl _ _ _ _ rfl HR.out ?_; intro g c' w1 HO HB hBg hgl hnc)
  have HG := Kp.mk hBg
  clear hBg hgl hnc
  go_loopw [9] (fun i wr => ∃ k : Nat, k ≤ 4 ∧ i = .int .i64 k ∧ Kp (wr.ownsRow w.heap.size 5 1 (.slice (some ⟨g, 0, none⟩) n c') n (bv (Crc.layTo l q 0#32 k))) ∧ Kp (Below w.heap.size w wr)) (fun i _ => 4 - (intOf i).toNat)
  case atStart => exact ⟨0, by omega, rfl, HO, HB⟩
  case round =>
    obtain ⟨k, hk, rfl, HO1, HB1⟩ := hrel
    by_cases hlt : k < 4
    · have hb : decide ((k : Int) < 4) = true := decide_eq_true (by omega)
      obtain ⟨j, hj⟩ : ∃ j, j = q + k := ⟨_, rfl⟩
      have hqk : (q : Int) + (k : Int) = (j : Int) := by omega
      have hjn : j < n := by omega
      have hjb : (j : Int) < (n : Int) := by omega
      have hj0 : (0 : Int) ≤ (j : Int) := by omega
      have hc := World.ownsRow.cellAt HO1.out j (by omega)
      rw [bv_get _ _ (by rw [Crc.layTo_length, HL.out]; omega)] at hc
      have hf := World.ownsRow.frozenAt HO1.out j
      have HO2 := Kp.mk (World.ownsRow.stored HO1.out j (.int .u8 (((0#8 : BitVec 8).toNat : Nat) : Int))).1
      have HJ := Kp.mk hj
      have HLZ := Kp.mk (Crc.laid_zero k)
      clear hj
      go_wp2
      go_roundw
      case rel => exact ⟨k + 1, by omega, by go_num, ⟨by have := HO2.out; rw [bv_set] at this; rw [Crc.layTo, ← HJ.out, HLZ.out]; exact this⟩, ⟨HB1.out.setCell (p := ⟨g, j, none⟩) HG.out _⟩⟩
      case measure => simp [intOf]; omega
    · have : k = 4 := by omega
      subst this
      have e4 : ((4 : Nat) : Int) = 4 := rfl
      rw [e4]
      clear e4
      obtain ⟨O, hO⟩ : ∃ O, O = Crc.patched l q 0#32 := ⟨_, rfl⟩
      have HO4 : Kp (wr.ownsRow w.heap.size 5 1 (.slice (some ⟨g, 0, none⟩) n c') n (bv O)) := ⟨by
        rw [hO, ← Crc.layTo_all l q 0#32 (by rw [HL.out]; omega)]; exact HO1.out⟩
      have HOD := Kp.mk hO
      have HOL : Kp (O.length = n) := ⟨by rw [hO, Crc.patched_length _ _ _ (by rw [HL.out]; omega), HL.out]⟩
      obtain ⟨M, hM⟩ : ∃ M, M = 8 * (n - q) := ⟨_, rfl⟩
      have HM := Kp.mk hM
      obtain ⟨wa, rfl⟩ : ∃ wa : World, wa = wr := ⟨_, rfl⟩
      have HZ : Kp (RowU (wa.alloc (.cells z32 67)) 67 wa.heap.size wa.heap.size (fun i => if i < 0 then Crc.steps M (1#32 <<< i) else 0#32)) := ⟨(RowU.zero wa).congr (fun i _ => by simp)⟩
      clear hO hM hlt HO1
      go_wp2
      go_loopw [11] (fun x wr' => ∃ i : Nat, i ≤ 32 ∧ x = .int .i64 i ∧ Kp (RowU wr' 67 wa.heap.size wa.heap.size (fun j => if j < i then Crc.steps M (1#32 <<< j) else 0#32)) ∧ Kp (Below wa.heap.size wa wr')) (fun x _ => 32 - (intOf x).toNat)
      case atStart => exact ⟨0, by omega, rfl, HZ, ⟨(Below.refl _ _).alloc (Nat.le_refl _) _⟩⟩
      case round =>
        clear hzv
        obtain ⟨i, hi32, rfl, HF, HBA⟩ := hrel
        by_cases hil : i < 32
        · have hbi : decide ((i : Int) < 32) = true := decide_eq_true (by omega)
          obtain ⟨r8, hr8⟩ : ∃ r8, r8 = i % 8 := ⟨_, rfl⟩
          obtain ⟨d8, hd8⟩ : ∃ d8, d8 = i / 8 := ⟨_, rfl⟩
          obtain ⟨m, hm⟩ : ∃ m, m = n - q - d8 - 1 := ⟨_, rfl⟩
          have h1 : (i : Int) % 8 = (r8 : Int) := by omega
          have h2 : (i : Int) / 8 = (d8 : Int) := by omega
          have h3 : (n : Int) - (q : Int) - (d8 : Int) - 1 = (m : Int) := by omega
          have hr8l : r8 < 8 := by omega
          have h4 := Crc.one_shl8 r8 hr8l
          obtain ⟨b8, hb8⟩ : ∃ b8, b8 = (1#8 : BitVec 8) <<< r8 := ⟨_, rfl⟩
          rw [← hb8] at h4
          have CMV := fun w => ref_move 0#32 b8 w
          rw [show (((0#32 : BitVec 32).toNat : Nat) : Int) = 0 from rfl] at CMV
          obtain ⟨z, hz⟩ : ∃ z, z = Crc.mv 0#32 b8 := ⟨_, rfl⟩
          rw [← hz] at CMV
          have CS := fun w => ref_shift z m w (by omega)
          obtain ⟨y, hy⟩ : ∃ y, y = Crc.steps (8 * m) z := ⟨_, rfl⟩
          rw [← hy] at CS
          have K1 := Kp.mk CMV
          have K2 := Kp.mk CS
          have HY : Kp (y = Crc.steps M (1#32 <<< i)) := ⟨by
            rw [hy, hz, hb8, hr8, ← Crc.col_eq M i hil (by rw [HM.out]; omega)]
            congr 1
            have := HM.out
            omega⟩
          clear CMV CS hy hz hb8 hm hr8 hd8
          go_wp2_with fail
          refine (K1.out _).mono ?_
          rintro e w2 ⟨rfl, rfl⟩
          go_wp2_with fail
          refine (K2.out _).mono ?_
          rintro e w3 ⟨rfl, hb3⟩
          have HF3 := Kp.mk (HF.out.later hb3)
          have HB3 := Kp.mk (HBA.out.trans (hb3.mono HBA.out.size))
          have hc3 := HF3.out.cell i hil
          have hf3 := HF3.out.frozen i
          clear hb3
          go_wp2
          go_roundw
          case rel =>
            refine ⟨i + 1, by omega, by go_num, ⟨(HF3.out.stored i y).congr (fun j hj => ?_)⟩, ⟨HB3.out.setCell (p := ⟨wa.heap.size, i, none⟩) (Nat.le_refl _) _⟩⟩
            by_cases e : j = i
            · subst e; simp [HY.out]
            · have : (j < i + 1) ↔ (j < i) := by omega
              simp [e, this]
          case measure => simp [intOf]; omega
        · have : i = 32 := by omega
          subst this
          have e32 : ((32 : Nat) : Int) = 32 := rfl
          rw [e32]
          clear e32
          obtain ⟨F, hF⟩ : ∃ F : Nat → BitVec 32, F = (fun j => if j < 32 then Crc.steps M (1#32 <<< j) else 0#32) := ⟨_, rfl⟩
          rw [← hF] at HF
          have HFE : Kp (∀ j, j < 32 → F j = Crc.steps M (1#32 <<< j)) := ⟨fun j hj => by rw [hF]; simp [hj]⟩
          have HO5 := Kp.mk (own_later HO4.out HBA.out)
          have CSUM := fun w h => ref_sum (some ⟨g, 0, none⟩) n c' O w h
          obtain ⟨s, hs⟩ : ∃ s, s = Crc.sum O := ⟨_, rfl⟩
          rw [← hs] at CSUM
          have hx := Crc.xor32 s want
          obtain ⟨t, ht⟩ : ∃ t, t = s ^^^ want := ⟨_, rfl⟩
          rw [← ht] at hx
          have K3 := Kp.mk CSUM
          have K4 := Kp.mk (fun w => ref_solve M t F w HFE.out)
          have HT : Kp (t = Crc.sum O ^^^ want) := ⟨by rw [ht, hs]⟩
          clear CSUM hs ht hF hil
          have hu67 := Tryd.underlying67
          have hi67 := infoUL F
          obtain ⟨wb, rfl⟩ : ∃ wb : World, wb = wr := ⟨_, rfl⟩
          go_wp2
          go_region_held3 (fun v => Below wb.heap.size wb v ∧ v.rangeAt wa.heap.size 0 (Crc.rowL F)) (first | assumption | exact heldB HF.out (Drew.once wb).below | exact heldB HF.out ((And.left ‹Below wb.heap.size wb _ ∧ _›).trans (hb6.mono (And.left ‹Below wb.heap.size wb _ ∧ _›).size))) (first | (go_at_call 44; refine (K3.out _ (RdB.own (own_later HO5.out (And.left ‹Below wb.heap.size wb _ ∧ _›)) (by omega))).mono ?_; rintro e w5 ⟨rfl, rfl⟩) | (go_at_call 58; refine (K4.out _).mono ?_; rintro e w6 ⟨v, rfl, hv, hb6⟩))
          all_goals (
            have HB6 := Kp.mk (And.left ‹Below wb.heap.size wb w6 ∧ _›)
            have HV := Kp.mk hv
            have HSB := Kp.mk (shr_byte v)
            have HO6 := Kp.mk (own_later HO5.out HB6.out)
            have HB7 := Kp.mk (HB1.out.trans ((HBA.out.trans (HB6.out.mono HBA.out.size)).mono HB1.out.size))
            clear hv hb6 hu67 hi67
            go_wp2
            go_loopw [14] (fun i wr => ∃ k : Nat, k ≤ 4 ∧ i = .int .i64 k ∧ Kp (wr.ownsRow w.heap.size 5 1 (.slice (some ⟨g, 0, none⟩) n c') n (bv (Crc.layTo O q v k))) ∧ Kp (Below w.heap.size w wr)) (fun i _ => 4 - (intOf i).toNat)
            case atStart => exact ⟨0, (by omega), rfl, HO6, HB7⟩
            case round =>
              obtain ⟨k, hk, rfl, HO1, HB1⟩ := hrel
              by_cases hlt : k < 4
              · have hb : decide ((k : Int) < 4) = true := decide_eq_true (by omega)
                obtain ⟨j, hj⟩ : ∃ j, j = q + k := ⟨_, rfl⟩
                have hqk : (q : Int) + (k : Int) = (j : Int) := by omega
                have hjn : j < n := by omega
                have hjb : (j : Int) < (n : Int) := by omega
                have hj0 : (0 : Int) ≤ (j : Int) := by omega
                have hc := World.ownsRow.cellAt HO1.out j (by omega)
                rw [bv_get _ _ (by rw [Crc.layTo_length, HOL.out]; omega)] at hc
                have hf := World.ownsRow.frozenAt HO1.out j
                obtain ⟨x, hx⟩ : ∃ x, x = (laidB v).getD k 0#8 := ⟨_, rfl⟩
                have hsb := HSB.out k hlt
                rw [← hx] at hsb
                have HX := Kp.mk hx
                have HO2 := Kp.mk (World.ownsRow.stored HO1.out j (.int .u8 (x.toNat : Int))).1
                have HJ := Kp.mk hj
                clear hj hx
                go_wp2
                go_roundw
                case rel => exact ⟨k + 1, by omega, by go_num, ⟨by have := HO2.out; rw [bv_set] at this; rw [Crc.layTo, ← HJ.out, ← HX.out]; exact this⟩, ⟨HB1.out.setCell (p := ⟨g, j, none⟩) HG.out _⟩⟩
                case measure => simp [intOf]; omega
              · have : k = 4 := by omega
                subst this
                go_wp2
                go_ret2
                refine ⟨g, c', v, rfl, Crc.patched_solved l q v want (by rw [HL.out]; omega) (by rw [HL.out, ← HM.out, HV.out, HT.out, HOD.out]), ?_, HB1.out⟩
                have e := HO1.out
                rw [Crc.layTo_all O q v (by rw [HOL.out]; omega), HOD.out, Crc.patched_twice _ _ _ _ (by rw [HL.out]; omega)] at e
                exact e)
theorem ref_patch_no (a : Option Addr) (n cap : Nat) (q : Int) (want : BitVec 32) (w : World) (hn : n ≤ 140737488355328) (hq : q < 0 ∨ (n : Int) - 4 < q) :
    Calls Tryd.prog 38 #[.slice a n cap, .int .i64 q, .int .u32 (want.toNat : Int)] w fun e w' => e = .returned (.tuple #[.slice none 0 0, .int .i64 12]) ∧ w' = w := by
  by_cases h0 : q < 0
  · have hk0 : decide (q < 0) = true := decide_eq_true h0
    clear h0 hq
    go_enter Tryd.func38, Tryd.ntmps38
    go_wp2
    go_ret2
    exact ⟨rfl, rfl⟩
  · have hk0 : decide (q < 0) = false := decide_eq_false h0
    have hk4 : decide ((n : Int) - 4 < q) = true := decide_eq_true (by omega)
    clear h0 hq
    go_enter Tryd.func38, Tryd.ntmps38
    go_wp2
    go_ret2
    exact ⟨rfl, rfl⟩
theorem crc_patch_no (A : Nat → Addr) (a : Option Addr) (n cap : Nat) (q : Int) (want : BitVec 32) (w : World) (hn : n ≤ 140737488355328) (hq : q < 0 ∨ (n : Int) - 4 < q) (hE : Errs w [12] A) :
    Calls Tryd.prog 37 #[.slice a n cap, .int .i64 q, .int .u32 (want.toNat : Int)] w fun e w' => e = .returned (.tuple #[.slice none 0 0, errv (A 12)]) ∧ Below w.heap.size w w' := by
  have E12 := hE.cell 12 (by simp)
  simp only [errVar] at E12
  clear hE
  by_cases h0 : q < 0
  · have hk0 : decide (q < 0) = true := decide_eq_true h0
    clear h0 hq
    go_enter Tryd.func37, Tryd.ntmps37
    go_wp2
    go_region
    all_goals (go_wp2; go_ret2; exact ⟨rfl, (Drew.once _).below⟩)
  · have hk0 : decide (q < 0) = false := decide_eq_false h0
    have hk4 : decide ((n : Int) - 4 < q) = true := decide_eq_true (by omega)
    clear h0 hq
    go_enter Tryd.func37, Tryd.ntmps37
    go_wp2
    go_region
    all_goals (go_wp2; go_ret2; exact ⟨rfl, (Drew.once _).below⟩)
end Go.Proofs.YtndninajnkejnaaDoor
