/- Package crc's matrices, Shift and Join, walked. -/
import Derived.Test.YtndninajnkejnaaDoorTzWalk
import Derived.Test.YtndninajnkejnaaDoorCrcWalk1
import Derived.Test.YtndninajnkejnaaDoorSealWalk
import Derived.Deep.QuietTactic
import Derived.BigQuiet
import Derived.RegionTactic
namespace Go.Proofs.YtndninajnkejnaaDoor
open Go Go.RowKit
set_option linter.unusedVariables false
namespace Crc
/-- 32 words as cells. -/
def rowL (f : Nat → R) : List Value := (List.range 32).map fun i => Value.int .u32 ((f i).toNat : Int)
theorem rowL_length (f : Nat → R) : (rowL f).length = 32 := by simp [rowL]
theorem rowL_get (f : Nat → R) (i : Nat) (h : i < 32) : (rowL f)[i]? = some (.int .u32 ((f i).toNat : Int)) := by simp [rowL, h]
theorem rowL_set (f : Nat → R) (k : Nat) (v : R) : (rowL f).set k (.int .u32 (v.toNat : Int)) = rowL (fun i => if i = k then v else f i) := by
  apply List.ext_getElem?
  intro i
  rw [List.getElem?_set]
  by_cases hi : i < 32
  · rw [rowL_get (fun i => if i = k then v else f i) i hi, rowL_get f i hi]
    by_cases e : k = i
    · subst e; simp [rowL_length, hi]
    · have : ¬ i = k := fun h => e h.symm
      simp [e, this]
  · have e1 : ∀ g, (rowL g)[i]? = none := fun g => List.getElem?_eq_none (by rw [rowL_length]; omega)
    rw [e1, e1]
    by_cases e : k = i <;> simp [e, rowL_length, hi]
theorem rowL_congr (f g : Nat → R) (h : ∀ i, i < 32 → f i = g i) : rowL f = rowL g := by
  unfold rowL
  apply List.map_congr_left
  intro i hi
  rw [h i (List.mem_range.1 hi)]
end Crc
/-- The call's own block of 32 words. -/
def MatR (w : World) (B g : Nat) (f : Nat → BitVec 32) : Prop := w.ownsRow B 68 1 (.slice (some ⟨g, 0, none⟩) 32 32) 32 (Crc.rowL f)
theorem MatR.cell {w : World} {B g : Nat} {f : Nat → BitVec 32} (h : MatR w B g f) (i : Nat) (hi : i < 32) : w.cell? ⟨g, i, none⟩ = some (.int .u32 ((f i).toNat : Int)) := by
  rw [World.ownsRow.cellAt h i (by simpa using hi), Crc.rowL_get f i hi]
theorem MatR.later {w w' : World} {B g : Nat} {f : Nat → BitVec 32} (h : MatR w B g f) (hb : Below w.heap.size w w') : MatR w' B g f := own_later h hb
set_option maxRecDepth 100000 in
theorem mat_of (N B g : Nat) (x : BitVec 32) (w : World) (hm : MatR w B g (fun i => Crc.steps N (1#32 <<< i))) (hT : TabAt w) :
    Calls Tryd.prog 53 #[.pointer (some ⟨g, 0, none⟩), .int .u32 (x.toNat : Int)] w fun e w' => e = .returned (.int .u32 ((Crc.steps N x).toNat : Int)) ∧ Drew w w' := by
  have HM := Kp.mk hm
  have HT := Kp.mk hT
  clear hm hT
  go_enter Tryd.func53, Tryd.ntmps53
  go_wp2
  go_loopw [1, 5] (fun xs ys wr => ∃ z y : BitVec 32, xs = .int .u32 (z.toNat : Int) ∧ ys = .int .u32 (y.toNat : Int) ∧ Kp (y ^^^ Crc.steps N z = Crc.steps N x) ∧ Kp (Drew w wr)) (fun xs _ _ => (intOf xs).toNat)
  case atStart => exact ⟨x, 0#32, rfl, rfl, ⟨BitVec.zero_xor⟩, ⟨Drew.refl _⟩⟩
  case round =>
    obtain ⟨z, y, rfl, rfl, HI, HW⟩ := hrel
    obtain ⟨q, rfl⟩ := HW.out
    by_cases hz : z = 0#32
    · have hzb : ((z.toNat : Int) != 0) = false := by rw [hz]; rfl
      have HZ := Kp.mk hz
      clear hz
      go_wp2
      go_ret
      have hi := HI.out
      rw [HZ.out, Crc.steps_zero, BitVec.xor_zero] at hi
      exact ⟨ret_int (by rw [hi]), ⟨_, rfl⟩⟩
    · have hzb : ((z.toNat : Int) != 0) = true := by
        have : z.toNat ≠ 0 := fun e => hz (BitVec.eq_of_toNat_eq e)
        rw [bne_iff_ne]; omega
      obtain ⟨t, ht⟩ := Crc.low_of z hz
      have htt : t < 32 := ht.1
      have KZ : Kp (∀ n, Calls Tryd.prog 60 #[.int .u32 (z.toNat : Int)] (w.drewN n) fun e w' => e = .returned (.int .i64 (t : Int)) ∧ w' = (w.drewN n)) := ⟨fun n => bits_tz32 z t _ ht (HT.out.later (Drew.below ⟨n, rfl⟩))⟩
      have KZ2 : Kp (∀ n m, Calls Tryd.prog 60 #[.int .u32 (z.toNat : Int)] ((w.drewN n).drewN m) fun e w' => e = .returned (.int .i64 (t : Int)) ∧ w' = ((w.drewN n).drewN m)) := ⟨fun n m => bits_tz32 z t _ ht ((HT.out.later (Drew.below ⟨n, rfl⟩)).later (Drew.below ⟨m, rfl⟩))⟩
      have hcell := HM.out.cell t htt
      obtain ⟨c, hc⟩ : ∃ c, c = Crc.steps N (1#32 <<< t) := ⟨_, rfl⟩
      rw [← hc] at hcell
      have hx := Crc.xor32 y c
      obtain ⟨y2, hy2⟩ : ∃ y2, y2 = y ^^^ c := ⟨_, rfl⟩
      rw [← hy2] at hx
      obtain ⟨p, hp⟩ : ∃ p, p = z - 1#32 := ⟨_, rfl⟩
      have hz0 : z.toNat ≠ 0 := fun e => hz (BitVec.eq_of_toNat_eq e)
      have hp1 : (z.toNat : Int) - 1 = (p.toNat : Int) := by rw [hp, BitVec.toNat_sub]; have := z.isLt; simp; omega
      obtain ⟨z2, hz2⟩ : ∃ z2, z2 = z ^^^ (1#32 <<< t) := ⟨_, rfl⟩
      have hand := Crc.and32 z p
      have hzp : z &&& p = z2 := by rw [hp, hz2]; exact Crc.and_pred z t ht
      have HLE : Kp (z2.toNat < z.toNat) := ⟨by
        rw [← hzp, BitVec.toNat_and]
        have := Nat.and_le_right (n := z.toNat) (m := p.toNat)
        omega⟩
      rw [hzp] at hand
      have HN : Kp (y2 ^^^ Crc.steps N z2 = Crc.steps N x) := ⟨by
        rw [hy2, hz2, Crc.steps_xor, ← hc, ← HI.out, BitVec.xor_comm (Crc.steps N z) c, ← BitVec.xor_assoc, BitVec.xor_assoc y c c, BitVec.xor_self, BitVec.xor_zero]⟩
      have hz1' : (1 : Int) ≤ (z.toNat : Int) := by omega
      clear hz ht hc hy2 hp hz0 hz2 hzp
      go_wp2
      go_quiet ((go_at_call 60; exact (KZ.out _).mono (fun _ _ h => ⟨h.1, ⟨_, h.2⟩⟩)))
      go_wp2
      go_roundw
      case rel => exact ⟨z2, y2, rfl, rfl, HN, ⟨⟨_, rfl⟩⟩⟩
      case measure => simp only [intOf]; have := HLE.out; simp; omega
theorem MatR.stored {w : World} {B g : Nat} {f : Nat → BitVec 32} (h : MatR w B g f) (k : Nat) (v : BitVec 32) : MatR (w.setCell ⟨g, k, none⟩ (.int .u32 (v.toNat : Int))) B g (fun i => if i = k then v else f i) := by
  have := (World.ownsRow.stored h k (.int .u32 (v.toNat : Int))).1
  rw [Crc.rowL_set] at this
  exact this
theorem MatR.congr {w : World} {B g : Nat} {f f' : Nat → BitVec 32} (h : MatR w B g f) (hf : ∀ i, i < 32 → f i = f' i) : MatR w B g f' := by
  unfold MatR at h ⊢
  rw [← Crc.rowL_congr f f' hf]
  exact h
noncomputable def z32 : Array Value := (Crc.rowL fun _ => 0#32).toArray
theorem zv32 (w : World) : (zeroValue 68).run Tryd.prog w = .ok (.agg z32) w := by kernel_rfl
theorem MatR.fresh (w : World) : MatR (w.alloc (.cells z32 68)) w.heap.size w.heap.size (fun _ => 0#32) :=
  World.ownsRow_lit w z32 32 (base := w.heap.size) (e := 68) (size := 1) (Nat.le_refl _) (by decide) rfl
set_option maxRecDepth 100000 in
set_option maxHeartbeats 1000000 in
theorem mat_squared (N B g : Nat) (w : World) (hm : MatR w B g (fun i => Crc.steps N (1#32 <<< i))) (hT : TabAt w) :
    Calls Tryd.prog 54 #[.pointer (some ⟨g, 0, none⟩)] w fun e w' => e = .returned (.pointer (some ⟨w.heap.size, 0, none⟩)) ∧ MatR w' w.heap.size w.heap.size (fun i => Crc.steps (N + N) (1#32 <<< i)) ∧ Below w.heap.size w w' := by
  have HM := Kp.mk hm
  have HT := Kp.mk hT
  have hzv := zv32
  clear hm hT
  go_enter Tryd.func54, Tryd.ntmps54
  go_wp2
  go_loopw [4, 7] (fun _ i wr => ∃ k : Nat, k ≤ 32 ∧ i = .int .i64 k ∧ Kp (MatR wr w.heap.size w.heap.size (fun i => if i < k then Crc.steps (N + N) (1#32 <<< i) else 0#32)) ∧ Kp (Below w.heap.size w wr)) (fun _ i _ => 32 - (intOf i).toNat)
  case atStart => exact ⟨0, by omega, rfl, ⟨(MatR.fresh w).congr (fun i _ => by simp)⟩, ⟨(Below.refl _ _).alloc (Nat.le_refl _) _⟩⟩
  case round =>
    clear hzv
    obtain ⟨k, hk, rfl, HR, HB⟩ := hrel
    by_cases hlt : k < 32
    · have hb : decide ((k : Int) < 32) = true := decide_eq_true (by omega)
      obtain ⟨c, hc⟩ : ∃ c, c = Crc.steps N (1#32 <<< k) := ⟨_, rfl⟩
      have hcell := (HM.out.later HB.out).cell k hlt
      rw [← hc] at hcell
      have CO := fun w h h2 => mat_of N B g c w h h2
      obtain ⟨d, hd⟩ : ∃ d, d = Crc.steps N c := ⟨_, rfl⟩
      rw [← hd] at CO
      have KO := Kp.mk CO
      have HD : Kp (d = Crc.steps (N + N) (1#32 <<< k)) := ⟨by rw [hd, hc, Crc.steps_add]⟩
      clear hc hd CO
      go_wp2
      go_region_with (go_at_call 53; refine (KO.out _ ?_ ?_).mono ?_; exact (HM.out.later HB.out).later (Drew.once _).below; exact (HT.out.later HB.out).later (Drew.once _).below; rintro e w3 ⟨rfl, hd⟩; have hbb := (Drew.once wr).below.trans (hd.below.mono (Drew.once wr).below.size); have HR3 := Kp.mk (HR.out.later hbb); have HB3 := Kp.mk (HB.out.trans (hbb.mono HB.out.size)); have hc3 := HR3.out.cell k hlt; have hf3 := World.ownsRow.frozenAt HR3.out k; clear hd hbb)
      go_wp2
      go_roundw
      case rel =>
        refine ⟨k + 1, by omega, by go_num, ⟨(HR3.out.stored k d).congr (fun i hi => ?_)⟩, ⟨HB3.out.setCell (Nat.le_refl _) _⟩⟩
        by_cases e : i = k
        · subst e; simp [HD.out]
        · have : (i < k + 1) ↔ (i < k) := by omega
          simp [e, this]
      case measure => simp [intOf]; omega
    · have : k = 32 := by omega
      subst this
      go_wp2
      go_ret
      exact ⟨rfl, HR.out.congr (fun i hi => by simp [hi]), HB.out⟩
end Go.Proofs.YtndninajnkejnaaDoor
