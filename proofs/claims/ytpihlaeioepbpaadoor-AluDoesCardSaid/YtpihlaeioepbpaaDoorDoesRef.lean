/- The document's shift, logic, minus, magnitude, truth: walked. -/
import Derived.Test.YtpihlaeioepbpaaDoorDoesPure
import Derived.Test.YtpihlaeioepbpaaDoorWidesRef4
import Derived.Test.YtpihlaeioepbpaaDoorCutsRef
namespace Go.Proofs.YtpihlaeioepbpaaDoor
open Go Go.RowKit
set_option linter.unusedVariables false

theorem ref_truth (t : Bool) (w : World) :
    Calls Tryd.prog 64 #[.bool t] w fun e w' => e = .returned (.int .u32 (tr t)) ∧ w' = w := by
  cases t
  · go_enter Tryd.func64, Tryd.ntmps64
    go_wp2
    go_ret
    exact ⟨rfl, rfl⟩
  · go_enter Tryd.func64, Tryd.ntmps64
    go_wp2
    go_ret
    exact ⟨rfl, rfl⟩
set_option maxRecDepth 100000 in
theorem ref_minus (x : BitVec 32) (w : World) :
    Calls Tryd.prog 73 #[.int .u32 (x.toNat : Int)] w fun e w' => e = .returned (.int .u32 ((-x).toNat : Int)) ∧ Below w.heap.size w w' := by
  have C := fun w => ref_subb 0#32 x false w
  rw [show (!false) = true from rfl, Alu.adc_neg] at C
  rw [show (((0#32 : BitVec 32).toNat : Nat) : Int) = 0 from rfl] at C
  obtain ⟨o, ho⟩ : ∃ o, o = !(Alu.adc 0#32 (~~~x) true).2 := ⟨_, rfl⟩
  rw [← ho] at C
  obtain ⟨z, hz⟩ : ∃ z, z = -x := ⟨_, rfl⟩
  rw [← hz] at C ⊢
  have K := Kp.mk C
  clear C ho hz
  go_enter Tryd.func73, Tryd.ntmps73
  go_wp2_with fail
  refine (K.out _).mono ?_
  rintro e w1 ⟨rfl, hb⟩
  have B := Kp.mk hb; clear hb
  go_wp2
  go_ret
  exact ⟨rfl, B.out⟩
set_option maxRecDepth 100000 in
theorem ref_mag (x : BitVec 32) (w : World) :
    Calls Tryd.prog 72 #[.int .u32 (x.toNat : Int)] w fun e w' => e = .returned (.int .u32 ((Alu.mag x).toNat : Int)) ∧ Below w.heap.size w w' := by
  by_cases h : x.toInt < 0
  · have hb : decide (x.toInt < 0) = true := decide_eq_true h
    have e : Alu.mag x = -x := by unfold Alu.mag; rw [if_pos h]
    rw [e]
    clear e h
    go_enter Tryd.func72, Tryd.ntmps72
    go_wp2_with fail
    refine (ref_signed x _).mono ?_
    rintro e w1 ⟨rfl, rfl⟩
    go_wp2_with fail
    refine (ref_minus x _).mono ?_
    rintro e w2 ⟨rfl, hb⟩
    have B := Kp.mk hb; clear hb
    go_wp2
    go_ret
    exact ⟨rfl, B.out⟩
  · have hb : decide (x.toInt < 0) = false := decide_eq_false h
    have e : Alu.mag x = x := by unfold Alu.mag; rw [if_neg h]
    rw [e]
    clear e h
    go_enter Tryd.func72, Tryd.ntmps72
    go_wp2_with fail
    refine (ref_signed x _).mono ?_
    rintro e w1 ⟨rfl, rfl⟩
    go_wp2
    go_ret
    exact ⟨rfl, Below.refl _ _⟩
set_option maxRecDepth 100000 in
set_option maxHeartbeats 4000000 in
theorem ref_move (f : Nat → Bool) (n : Int) (fill : Bool) (w : World) (hn : -32 < n ∧ n < 32) :
    Calls Tryd.prog 62 #[arrT f, .int .i64 n, .bool fill] w fun e w' => e = .returned (arrT (Alu.moved f n fill)) ∧ Below w.heap.size w w' := by
  have hzv := zvT
  obtain ⟨w1, hw1⟩ : ∃ w1, w1 = w.alloc (.cells (Alu.rowL f).toArray 79) := ⟨_, rfl⟩
  obtain ⟨w2, hw2⟩ : ∃ w2, w2 = w1.alloc (.cells zT 79) := ⟨_, rfl⟩
  obtain ⟨w3, hw3⟩ : ∃ w3, w3 = w2.alloc (.cells zT 79) := ⟨_, rfl⟩
  have s1 : w1.heap.size = w.heap.size + 1 := by rw [hw1]; exact Array.size_push _
  have s2 : w2.heap.size = w.heap.size + 2 := by rw [hw2]; exact (Array.size_push _).trans (by rw [s1])
  have b1 : Below w.heap.size w w1 := by rw [hw1]; exact (Below.refl _ _).alloc (Nat.le_refl _) _
  have b2 : Below w.heap.size w w2 := by rw [hw2]; exact b1.alloc b1.size _
  have b3 : Below w.heap.size w w3 := by rw [hw3]; exact b2.alloc b2.size _
  have c12 : Below w1.heap.size w1 w2 := by rw [hw2]; exact (Below.refl _ _).alloc (Nat.le_refl _) _
  have c23 : Below w2.heap.size w2 w3 := by rw [hw3]; exact (Below.refl _ _).alloc (Nat.le_refl _) _
  have HX : Kp (RowT w3 79 w.heap.size w.heap.size f) := ⟨by
    have h : RowT w1 79 w.heap.size w.heap.size f := by rw [hw1]; exact RowT.new w _ f
    exact (h.later c12).later c23⟩
  have HR : Kp (RowT w3 79 w.heap.size (w.heap.size + 1) (fun _ => false)) := ⟨by
    have h : RowT w2 79 w1.heap.size w1.heap.size (fun _ => false) := by rw [hw2]; exact RowT.zero w1
    have h2 := (h.mono b1.size).later c23
    rwa [s1] at h2⟩
  have HS : Kp (RowT w3 79 w.heap.size (w.heap.size + 2) (fun _ => false)) := ⟨by
    have h : RowT w3 79 w2.heap.size w2.heap.size (fun _ => false) := by rw [hw3]; exact RowT.zero w2
    have h2 := h.mono b2.size
    rwa [s2] at h2⟩
  have HB := Kp.mk b3
  have HW : Kp (w3 = ((w.alloc (.cells (Alu.rowL f).toArray 79)).alloc (.cells zT 79)).alloc (.cells zT 79)) := ⟨by rw [hw3, hw2, hw1]⟩
  clear hw1 hw2 hw3 s1 s2 b1 b2 b3 c12 c23
  obtain ⟨G, hG⟩ : ∃ G, G = Alu.moved f n fill := ⟨_, rfl⟩
  have HG := Kp.mk hG
  rw [← hG]
  have hn1 := hn.1
  have hn2 := hn.2
  clear hG hn
  unfold arrT
  go_enter Tryd.func62, Tryd.ntmps62
  go_wp2
  rw [← HW.out]
  go_loopw [8] (fun i wr => ∃ j : Nat, j ≤ 32 ∧ i = .int .i64 j ∧ Kp (RowT wr 79 w.heap.size w.heap.size f) ∧ Kp (RowT wr 79 w.heap.size (w.heap.size + 1) (fun _ => false)) ∧ Kp (RowT wr 79 w.heap.size (w.heap.size + 2) (fun i => if i < j then G i else false)) ∧ Kp (Below w.heap.size w wr)) (fun i _ => 32 - (intOf i).toNat)
  case atStart => exact ⟨0, by omega, rfl, HX, HR, ⟨HS.out.congr (fun i _ => by simp)⟩, HB⟩
  case round =>
    clear hzv
    obtain ⟨j, hj, rfl, HX, HR, HS, HB⟩ := hrel
    by_cases hlt : j < 32
    · have hb : decide ((j : Int) < 32) = true := decide_eq_true (by omega)
      obtain ⟨t, ht⟩ : ∃ t, t = (j : Int) - n := ⟨_, rfl⟩
      have ht' : (j : Int) - n = t := ht.symm
      have ht1 : -32 < t ∧ t < 64 := by omega
      have hs1 := HS.out.cell j hlt
      have hs2 := HS.out.frozen j
      have HS1 := Kp.mk (HS.out.stored j fill)
      have hs3 := HS1.out.cell j hlt
      have hs4 := HS1.out.frozen j
      have HX1 := Kp.mk (HX.out.otherCell (i := j) (g' := w.heap.size + 2) (by omega) (.bool fill))
      have HR1 := Kp.mk (HR.out.otherCell (i := j) (g' := w.heap.size + 2) (by omega) (.bool fill))
      have HB1 := Kp.mk (HB.out.setCell (p := ⟨w.heap.size + 2, j, none⟩) (Nat.le_add_right _ _) (.bool fill))
      by_cases hin : 0 ≤ t ∧ t < 32
      · obtain ⟨p, rfl⟩ := Int.eq_ofNat_of_zero_le hin.1
        have t1 : decide ((0 : Int) ≤ (p : Int)) = true := decide_eq_true (by omega)
        have t2 : decide ((p : Int) < 32) = true := decide_eq_true (by omega)
        have hp32 : p < 32 := by omega
        have hpi : (p : Int) < 32 := by omega
        have hp0 : (0 : Int) ≤ (p : Int) := by omega
        have hx1 := HX1.out.cell p hp32
        obtain ⟨c, hc⟩ : ∃ c, c = f p := ⟨_, rfl⟩
        rw [← hc] at hx1
        have HC : Kp (G j = c) := ⟨by
          rw [HG.out, Alu.moved, if_pos (by omega), hc]
          congr 1
          omega⟩
        clear hc ht hin
        go_wp2
        go_roundw
        case rel =>
          refine ⟨j + 1, by omega, by go_num, ⟨HX1.out.otherCell (by omega) _⟩, ⟨HR1.out.otherCell (by omega) _⟩, ⟨(HS1.out.stored j c).congr (fun i hi => ?_)⟩, ⟨HB1.out.setCell (p := ⟨w.heap.size + 2, j, none⟩) (Nat.le_add_right _ _) _⟩⟩
          by_cases e : i = j
          · subst e; simp [HC.out]
          · have : (i < j + 1) ↔ (i < j) := by omega
            simp [e, this]
        case measure => simp [intOf]; omega
      · have HC : Kp (G j = fill) := ⟨by rw [HG.out, Alu.moved, if_neg (by omega)]⟩
        by_cases hin1 : 0 ≤ t
        · have t1 : decide ((0 : Int) ≤ t) = true := decide_eq_true hin1
          have t2 : decide (t < 32) = false := decide_eq_false (by omega)
          clear ht hin hin1
          go_wp2
          go_roundw
          case rel =>
            refine ⟨j + 1, by omega, by go_num, HX1, HR1, ⟨HS1.out.congr (fun i hi => ?_)⟩, HB1⟩
            by_cases e : i = j
            · subst e; simp [HC.out]
            · have : (i < j + 1) ↔ (i < j) := by omega
              simp [e, this]
          case measure => simp [intOf]; omega
        · have t1 : decide ((0 : Int) ≤ t) = false := decide_eq_false hin1
          clear ht hin hin1
          go_wp2
          go_roundw
          case rel =>
            refine ⟨j + 1, by omega, by go_num, HX1, HR1, ⟨HS1.out.congr (fun i hi => ?_)⟩, HB1⟩
            by_cases e : i = j
            · subst e; simp [HC.out]
            · have : (i < j + 1) ↔ (i < j) := by omega
              simp [e, this]
          case measure => simp [intOf]; omega
    · have : j = 32 := by omega
      subst this
      have HS1 : Kp (RowT wr 79 w.heap.size (w.heap.size + 2) G) := ⟨HS.out.congr (fun i hi => by simp [hi])⟩
      go_wp2_with (first
        | (refine wpList_load_row rfl 79 _ rfl (w.heap.size + 2) rfl 79 (Alu.rowL G).toArray (0, 0) _ HS1.out.block Tryd.underlying79 rfl (infoT _) ?_)
        | (refine wpList_store_row rfl 79 _ _ rfl (w.heap.size + 1) (Alu.rowL G).toArray rfl rfl 79 _ HR.out.block (infoT _) (by simp [Alu.rowL_length]) (arrT_one _) ?_))
      refine bodyPost_ret (results_cell_row (p := 6) (ty := 79) rfl _ _ (w.heap.size + 1) 79 (Alu.rowL G).toArray (0, 0) _ rfl (HR.out.all _).block Tryd.underlying79 rfl (infoT _)) rfl ?_
      exact ⟨rfl, below_setRow HB.out (Nat.le_add_right _ _) _⟩
end Go.Proofs.YtpihlaeioepbpaaDoor
