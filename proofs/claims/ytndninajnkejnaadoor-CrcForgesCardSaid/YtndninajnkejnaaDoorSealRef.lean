/- The document's Seal and Open, walked. -/
import Derived.Test.YtndninajnkejnaaDoorSealWalk
import Derived.Test.YtndninajnkejnaaDoorStep
import Derived.Test.YtndninajnkejnaaDoorDrew
namespace Go.Proofs.YtndninajnkejnaaDoor
open Go Go.RowKit
set_option linter.unusedVariables false

theorem shr_byte (s : BitVec 32) (k : Nat) (hk : k < 4) : ((s.toNat : Int) / 2 ^ (8 * k)) % 256 = (((laidB s).getD k 0#8).toNat : Int) := by
  rw [← Crc.shr32]
  match k, hk with
  | 0, _ => simp [laidB, BitVec.toNat_setWidth]
  | 1, _ => simp [laidB, BitVec.toNat_setWidth]
  | 2, _ => simp [laidB, BitVec.toNat_setWidth]
  | 3, _ => simp [laidB, BitVec.toNat_setWidth]

set_option maxRecDepth 100000 in
theorem ref_seal (a : Option Addr) (n cap : Nat) (l : List (BitVec 8)) (w : World) (h : RdB w a n cap l) (hn : n + 4 ≤ 140737488355328) :
    Calls Tryd.prog 22 #[.slice a n cap] w fun e w' => ∃ g c', e = .returned (.slice (some ⟨g, 0, none⟩) (n + 4) c') ∧ w'.ownsRow w.heap.size 5 1 (.slice (some ⟨g, 0, none⟩) (n + 4) c') (n + 4) (bv (l ++ laidB (Crc.sum l))) ∧ Below w.heap.size w w' := by
  have HR := Kp.mk h
  obtain ⟨s, hs⟩ : ∃ s, s = Crc.sum l := ⟨_, rfl⟩
  have CS := fun w h => ref_sum a n cap l w h
  rw [← hs] at CS
  rw [← hs]
  have HCS := Kp.mk CS
  have HSB := Kp.mk (shr_byte s)
  clear h CS hs
  go_enter Tryd.func22, Tryd.ntmps22
  go_wp2_with (first
    | (at_builtin; refine append_fresh rfl _ _ rfl rfl _ _ _ _ rfl HR.out ?_; intro g c' w1 HO HB hBg hgl hnc)
    | (go_at_call 44; refine (HCS.out _ (HR.out.later HB.out)).mono ?_; rintro e w2 ⟨rfl, rfl⟩))
  go_loopw [3, 5] (fun o i wr => ∃ k g c' : Nat, k ≤ 4 ∧ i = .int .i64 k ∧ o = .slice (some ⟨g, 0, none⟩) (n + k) c' ∧ Kp (wr.ownsRow w.heap.size 5 1 (.slice (some ⟨g, 0, none⟩) (n + k) c') (n + k) (bv (l ++ (laidB s).take k))) ∧ Kp (Below w.heap.size w wr)) (fun _ i _ => 4 - (intOf i).toNat)
  case atStart => exact ⟨0, g, c', by omega, rfl, rfl, ⟨by simpa using HO.out⟩, HB⟩
  case round =>
    obtain ⟨k, g1, c1, hk, rfl, rfl, HO1, HB1⟩ := hrel
    by_cases hlt : k < 4
    · have hb : decide ((k : Int) < 4) = true := decide_eq_true (by omega)
      obtain ⟨x, hx⟩ : ∃ x, x = (laidB s).getD k 0#8 := ⟨_, rfl⟩
      have hsb := HSB.out k hlt
      rw [← hx] at hsb
      have HX := Kp.mk hx
      clear hx
      go_wp2_with (at_builtin; refine append_bytes rfl _ _ rfl w.heap.size _ (n + k) (bv (l ++ (laidB s).take k)) rfl (HO1.out.alloc _) _ 1 1 [x] rfl (RdB.lit1 _ x) (by omega) (Nat.le_trans HB1.out.size (by simp)) ?_; intro v' w4 hown hg hne)
      obtain ⟨g6, c6, rfl, _⟩ := own_shape hown (by rintro rfl; rcases hown.2 with ⟨_, h⟩ | ⟨_, _, _, h, _⟩ <;> simp at h)
      refine ⟨⟨k + 1, g6, c6, by omega, by go_num, rfl, ⟨?_⟩, ⟨(HB1.out.alloc HB1.out.size _).grown hg (HB1.out.alloc HB1.out.size _).size (fun j hj => (HO1.out.lt j hj).1)⟩⟩, by simp [intOf]; omega⟩
      rw [take_snoc (laidB s) 0#8 k hlt, ← List.append_assoc, bv_append, ← HX.out]
      exact hown
    · have : k = 4 := by omega
      subst this
      go_wp2
      go_ret
      have e : (laidB s).take 4 = laidB s := rfl
      exact ⟨g1, c1, rfl, by rw [← e]; exact HO1.out, HB1.out⟩
theorem drop_getD (l : List (BitVec 8)) (m k : Nat) : (l.drop m).getD k 0#8 = l.getD (m + k) 0#8 := by
  simp [List.getD_eq_getElem?_getD, List.getElem?_drop]
theorem eq_of_take4 (l k : List (BitVec 8)) (h1 : l.length = 4) (h2 : k.length = 4) (h : l.take 4 = k.take 4) : l = k := by
  rwa [List.take_of_length_le (by omega), List.take_of_length_le (by omega)] at h
set_option maxRecDepth 100000 in
set_option maxHeartbeats 1000000 in
theorem ref_open (a : Option Addr) (n cap : Nat) (l : List (BitVec 8)) (w : World) (h : RdB w a n cap l) :
    Calls Tryd.prog 35 #[.slice a n cap] w fun e w' => Below w.heap.size w w' ∧
      ((n < 4 ∧ e = .returned (.tuple #[.slice none 0 0, .int .i64 1])) ∨
       (4 ≤ n ∧ laidB (Crc.sum (l.take (n - 4))) ≠ l.drop (n - 4) ∧ e = .returned (.tuple #[.slice none 0 0, .int .i64 6])) ∨
       (4 ≤ n ∧ laidB (Crc.sum (l.take (n - 4))) = l.drop (n - 4) ∧ ∃ v, e = .returned (.tuple #[v, .int .i64 0]) ∧ w'.ownsRow w.heap.size 5 1 v (n - 4) (bv (l.take (n - 4))))) := by
  have HR := Kp.mk h
  have hnb := h.bound
  clear h
  by_cases hn : n < 4
  · have hb : decide ((n : Int) < 4) = true := decide_eq_true (by omega)
    have HN := Kp.mk hn
    clear hn
    go_enter Tryd.func35, Tryd.ntmps35
    go_wp2
    go_ret2
    exact ⟨Below.refl _ _, .inl ⟨HN.out, rfl⟩⟩
  · obtain ⟨m, rfl⟩ : ∃ m, n = m + 4 := ⟨n - 4, by omega⟩
    obtain ⟨b, off, rfl, hcs⟩ := HR.out.cells (by omega)
    have HI := HR.out.sub 0 m (by omega)
    have HI' : Kp (RdB w (some ⟨b, off, none⟩) m cap (l.take m)) := ⟨by simpa using HI⟩
    have HCells := Kp.mk hcs
    have hb : decide ((m : Int) + 4 < 4) = false := decide_eq_false (by omega)
    have hmc : m ≤ cap := by have := HR.out.fits; omega
    have hmi : (m : Int) ≤ (m : Int) + 4 := by omega
    obtain ⟨s, hs⟩ : ∃ s, s = Crc.sum (l.take m) := ⟨_, rfl⟩
    have CS := fun w h => ref_sum (some ⟨b, off, none⟩) m cap (l.take m) w h
    rw [← hs] at CS
    have HS := Kp.mk hs
    have HCS := Kp.mk CS
    have HSB := Kp.mk (shr_byte s)
    have HL : Kp (l.length = m + 4) := ⟨HR.out.len⟩
    obtain ⟨d, hd⟩ : ∃ d, d = l.drop m := ⟨_, rfl⟩
    have HD := Kp.mk hd
    have HDL : Kp (d.length = 4) := ⟨by rw [hd, List.length_drop, HL.out]; omega⟩
    clear hn HI hcs hs CS hd
    go_enter Tryd.func35, Tryd.ntmps35
    go_wp2_with fail
    refine (HCS.out _ HI'.out).mono ?_
    rintro e w1 ⟨rfl, rfl⟩
    go_wp2
    go_loopw [6] (fun i wr => ∃ k : Nat, k ≤ 4 ∧ i = .int .i64 k ∧ Kp (Drew w wr) ∧ Kp ((laidB s).take k = d.take k)) (fun i _ => 4 - (intOf i).toNat)
    case atStart => exact ⟨0, by omega, rfl, ⟨Drew.refl _⟩, ⟨rfl⟩⟩
    case round =>
      obtain ⟨k, hk, rfl, HW, HT⟩ := hrel
      obtain ⟨q, rfl⟩ := HW.out
      by_cases hlt : k < 4
      · have hb4 : decide ((k : Int) < 4) = true := decide_eq_true (by omega)
        obtain ⟨x, hx⟩ : ∃ x, x = (laidB s).getD k 0#8 := ⟨_, rfl⟩
        have hsb := HSB.out k hlt
        rw [← hx] at hsb
        have HX := Kp.mk hx
        obtain ⟨y, hy⟩ : ∃ y, y = l.getD (m + k) 0#8 := ⟨_, rfl⟩
        have hcell := HCells.out (m + k) (by omega)
        rw [← hy] at hcell
        have HY := Kp.mk hy
        clear hx hy
        have hcap : m + k < cap := by have := HR.out.fits; omega
        by_cases hxy : y = x
        · have hne : ((y.toNat : Int) != (x.toNat : Int)) = false := by rw [hxy]; simp
          have HXY := Kp.mk hxy
          clear hxy
          go_wp2
          go_quiet (fail)
          go_wp2
          go_roundw
          case rel =>
            refine ⟨k + 1, by omega, by go_num, ⟨⟨_, rfl⟩⟩, ⟨?_⟩⟩
            rw [take_snoc (laidB s) 0#8 k hlt, take_snoc d 0#8 k (by rw [HDL.out]; exact hlt), HT.out, ← HX.out, HD.out, drop_getD, ← HY.out, HXY.out]
          case measure => simp [intOf]; omega
        · have hne : ((y.toNat : Int) != (x.toNat : Int)) = true := by
            rw [bne_iff_ne]; intro e; exact hxy (BitVec.eq_of_toNat_eq (by omega))
          have HXY := Kp.mk hxy
          clear hxy
          go_wp2
          go_quiet (fail)
          go_wp2
          go_ret2
          refine ⟨Drew.below ⟨_, by first | rfl | exact (World.drewN_drewN ..)⟩, .inr (.inl ⟨by omega, ?_, rfl⟩)⟩
          show laidB (Crc.sum (l.take m)) ≠ l.drop m
          rw [← HS.out, ← HD.out]
          intro e
          apply HXY.out
          rw [HX.out, HY.out, ← drop_getD, ← HD.out, e]
      · have : k = 4 := by omega
        subst this
        have e := eq_of_take4 _ _ rfl HDL.out HT.out
        have E := Kp.mk e
        clear e
        go_wp2_with (at_builtin; refine append_fresh rfl _ _ rfl rfl _ _ _ (l.take m) rfl (HI'.out.later (Drew.below ⟨q, rfl⟩)) ?_; intro g c' w1 HO HB hBg hgl hnc)
        go_wp2
        go_ret2
        refine ⟨(Drew.below ⟨q, rfl⟩).trans (HB.out.mono (Drew.below ⟨q, rfl⟩).size), .inr (.inr ⟨by omega, ?_, _, rfl, own_mono HO.out (Drew.below ⟨q, rfl⟩).size⟩)⟩
        show laidB (Crc.sum (l.take m)) = l.drop m
        rw [← HS.out, ← HD.out]
        exact E.out
end Go.Proofs.YtndninajnkejnaaDoor
