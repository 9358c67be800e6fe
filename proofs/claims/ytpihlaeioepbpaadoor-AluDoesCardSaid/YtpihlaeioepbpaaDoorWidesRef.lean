/- The document's sums and differences bit by bit: walked. -/
import Derived.Test.YtpihlaeioepbpaaDoorWidesPure
import Derived.Test.YtpihlaeioepbpaaDoorRowsWalk
namespace Go.Proofs.YtpihlaeioepbpaaDoor
open Go Go.RowKit
set_option linter.unusedVariables false

/-- A result that lies in a block, and one that doesn't. -/
theorem results_cell_tmp {fn : Func} {p q : Tmp} {ty : TypeId} (h : fn.results = #[.cell p ty, .tmp q]) (tmps : Array Value) (w : World) (g : Nat) (t : TypeId) (cs : Array Value) (fr : Nat × Nat) (n : Nat) (el : TypeId)
    (hp : tmps.getD p undef = .pointer (some ⟨g, 0, none⟩)) (hg : w.heap[g]? = some (.cells cs t fr))
    (hu : Tryd.prog.underlying ty = some (.array n el)) (hi : (Tryd.prog.info? ty).map (·.size) = some cs.size) :
    (results fn tmps).run Tryd.prog w = .ok (.tuple #[.agg cs, tmps.getD q undef]) w := by
  have hp' : tmps[p]?.getD undef = .pointer (some ⟨g, 0, none⟩) := by simpa using hp
  simp [results, h, hp', asAddr, run_loadVar_row w g t ty cs fr _ hg hu rfl hi]
set_option maxRecDepth 100000 in
set_option maxHeartbeats 4000000 in
theorem ref_add (f g : Nat → Bool) (x y : BitVec 32) (k : Bool) (w : World) (hf : ∀ i, i < 32 → f i = x.getLsbD i) (hg : ∀ i, i < 32 → g i = y.getLsbD i) :
    Calls Tryd.prog 65 #[arrT f, arrT g, .bool k] w fun e w' => e = .returned (.tuple #[rowV (Alu.adc x y k).1, .bool (Alu.adc x y k).2]) ∧ Below w.heap.size w w' := by
  have HF := Kp.mk hf
  have HG := Kp.mk hg
  have hzv := zvT
  obtain ⟨w1, hw1⟩ : ∃ w1, w1 = w.alloc (.cells (Alu.rowL f).toArray 79) := ⟨_, rfl⟩
  obtain ⟨w2, hw2⟩ : ∃ w2, w2 = w1.alloc (.cells (Alu.rowL g).toArray 79) := ⟨_, rfl⟩
  obtain ⟨w3, hw3⟩ : ∃ w3, w3 = w2.alloc (.cells zT 79) := ⟨_, rfl⟩
  obtain ⟨w4, hw4⟩ : ∃ w4, w4 = w3.alloc (.cells zT 79) := ⟨_, rfl⟩
  have s1 : w1.heap.size = w.heap.size + 1 := by rw [hw1]; exact Array.size_push _
  have s2 : w2.heap.size = w.heap.size + 2 := by rw [hw2]; exact (Array.size_push _).trans (by rw [s1])
  have s3 : w3.heap.size = w.heap.size + 3 := by rw [hw3]; exact (Array.size_push _).trans (by rw [s2])
  have b1 : Below w.heap.size w w1 := by rw [hw1]; exact (Below.refl _ _).alloc (Nat.le_refl _) _
  have b2 : Below w.heap.size w w2 := by rw [hw2]; exact b1.alloc b1.size _
  have b3 : Below w.heap.size w w3 := by rw [hw3]; exact b2.alloc b2.size _
  have b4 : Below w.heap.size w w4 := by rw [hw4]; exact b3.alloc b3.size _
  have c12 : Below w1.heap.size w1 w2 := by rw [hw2]; exact (Below.refl _ _).alloc (Nat.le_refl _) _
  have c23 : Below w2.heap.size w2 w3 := by rw [hw3]; exact (Below.refl _ _).alloc (Nat.le_refl _) _
  have c34 : Below w3.heap.size w3 w4 := by rw [hw4]; exact (Below.refl _ _).alloc (Nat.le_refl _) _
  have HX : Kp (RowT w4 79 w.heap.size w.heap.size f) := ⟨by
    have h : RowT w1 79 w.heap.size w.heap.size f := by rw [hw1]; exact RowT.new w _ f
    exact ((h.later c12).later c23).later c34⟩
  have HY : Kp (RowT w4 79 w.heap.size (w.heap.size + 1) g) := ⟨by
    have h : RowT w2 79 w1.heap.size w1.heap.size g := by rw [hw2]; exact RowT.new w1 _ g
    have h2 := ((h.mono b1.size).later c23).later c34
    rwa [s1] at h2⟩
  have HR : Kp (RowT w4 79 w.heap.size (w.heap.size + 2) (fun _ => false)) := ⟨by
    have h : RowT w3 79 w2.heap.size w2.heap.size (fun _ => false) := by rw [hw3]; exact RowT.zero w2
    have h2 := (h.mono b2.size).later c34
    rwa [s2] at h2⟩
  have HS : Kp (RowT w4 79 w.heap.size (w.heap.size + 3) (fun _ => false)) := ⟨by
    have h : RowT w4 79 w3.heap.size w3.heap.size (fun _ => false) := by rw [hw4]; exact RowT.zero w3
    have h2 := h.mono b3.size
    rwa [s3] at h2⟩
  have HB := Kp.mk b4
  have HW : Kp (w4 = (((w.alloc (.cells (Alu.rowL f).toArray 79)).alloc (.cells (Alu.rowL g).toArray 79)).alloc (.cells zT 79)).alloc (.cells zT 79)) := ⟨by rw [hw4, hw3, hw2, hw1]⟩
  clear hw1 hw2 hw3 hw4 s1 s2 s3 b1 b2 b3 b4 c12 c23 c34 hf hg
  obtain ⟨Z, hZ⟩ : ∃ Z, Z = (Alu.adc x y k).1 := ⟨_, rfl⟩
  have HZ := Kp.mk hZ
  unfold arrT
  go_enter Tryd.func65, Tryd.ntmps65
  go_wp2
  rw [← HW.out]
  go_loopw [2, 9] (fun c i wr => ∃ j : Nat, j ≤ 32 ∧ i = .int .i64 j ∧ c = .bool (Alu.car x y k j) ∧ Kp (RowT wr 79 w.heap.size w.heap.size f) ∧ Kp (RowT wr 79 w.heap.size (w.heap.size + 1) g) ∧ Kp (RowT wr 79 w.heap.size (w.heap.size + 2) (fun _ => false)) ∧ Kp (RowT wr 79 w.heap.size (w.heap.size + 3) (fun i => if i < j then (Alu.adc x y k).1.getLsbD i else false)) ∧ Kp (Below w.heap.size w wr)) (fun _ i _ => 32 - (intOf i).toNat)
  case atStart => exact ⟨0, by omega, rfl, by rw [Alu.car_zero], HX, HY, HR, ⟨HS.out.congr (fun i _ => by simp)⟩, HB⟩
  case round =>
    clear hzv
    obtain ⟨j, hj, rfl, rfl, HX, HY, HR, HS, HB⟩ := hrel
    by_cases hlt : j < 32
    · have hb : decide ((j : Int) < 32) = true := decide_eq_true (by omega)
      have hx1 := HX.out.cell j hlt
      rw [HF.out j hlt] at hx1
      have hy1 := HY.out.cell j hlt
      rw [HG.out j hlt] at hy1
      have hs1 := HS.out.cell j hlt
      have hs2 := HS.out.frozen j
      have hbit := Alu.adc_bit x y k j hlt
      have hcar := Alu.car_succ x y k j
      obtain ⟨cx, hcx⟩ : ∃ cx, cx = x.getLsbD j := ⟨_, rfl⟩
      obtain ⟨cy, hcy⟩ : ∃ cy, cy = y.getLsbD j := ⟨_, rfl⟩
      obtain ⟨cc, hcc⟩ : ∃ cc, cc = Alu.car x y k j := ⟨_, rfl⟩
      rw [← hcx] at hx1
      rw [← hcy] at hy1
      rw [← hcx, ← hcy, ← hcc] at hbit hcar
      rw [← hcc]
      obtain ⟨d, hd⟩ : ∃ d, d = decide (((if cx then 1 else 0) + (if cy then 1 else 0) + (if cc then 1 else 0 : Nat)) % 2 = 1) := ⟨_, rfl⟩
      obtain ⟨o, ho⟩ : ∃ o, o = decide (1 < (if cx then 1 else 0) + (if cy then 1 else 0) + (if cc then 1 else 0 : Nat)) := ⟨_, rfl⟩
      rw [← hd] at hbit
      rw [← ho] at hcar
      have HBIT := Kp.mk hbit
      have HCAR := Kp.mk hcar
      clear hcx hcy hcc hbit hcar hZ
      cases cx <;> cases cy <;> cases cc
      all_goals (
        have hd' : d = _ := hd.trans (by first | exact (rfl : _ = true) | exact (rfl : _ = false))
        have ho' : o = _ := ho.trans (by first | exact (rfl : _ = true) | exact (rfl : _ = false))
        subst hd'
        subst ho'
        clear hd ho
        go_wp2
        go_roundw
        case rel =>
          refine ⟨j + 1, (by omega), (by go_num), (by rw [HCAR.out]), ⟨HX.out.otherCell (by omega) _⟩, ⟨HY.out.otherCell (by omega) _⟩, ⟨HR.out.otherCell (by omega) _⟩, ⟨(HS.out.stored j _).congr (fun i hi => ?_)⟩, ⟨HB.out.setCell (p := ⟨w.heap.size + 3, j, none⟩) (Nat.le_add_right _ _) _⟩⟩
          by_cases e : i = j
          · subst e; simp [HBIT.out]
          · have : (i < j + 1) ↔ (i < j) := by omega
            simp [e, this]
        case measure => simp [intOf]; omega)
    · have : j = 32 := by omega
      subst this
      have HS1 : Kp (RowT wr 79 w.heap.size (w.heap.size + 3) (fun i => Z.getLsbD i)) := ⟨HS.out.congr (fun i hi => by simp [hi, HZ.out])⟩
      have hce := Alu.car_end x y k
      obtain ⟨o, ho⟩ : ∃ o, o = (Alu.adc x y k).2 := ⟨_, rfl⟩
      rw [hce, ← ho]
      have HO := Kp.mk ho
      clear hce ho hZ
      go_wp2_with (first
        | (refine wpList_load_row rfl 79 _ rfl (w.heap.size + 3) rfl 79 (Alu.rowL fun i => Z.getLsbD i).toArray (0, 0) _ HS1.out.block Tryd.underlying79 rfl (infoT _) ?_)
        | (refine wpList_store_row rfl 79 _ _ rfl (w.heap.size + 2) (Alu.rowL fun i => Z.getLsbD i).toArray rfl rfl 79 _ HR.out.block (infoT _) (by simp [Alu.rowL_length]) (arrT_one _) ?_))
      refine bodyPost_ret (results_cell_tmp (p := 6) (q := 7) (ty := 79) rfl _ _ (w.heap.size + 2) 79 (Alu.rowL fun i => Z.getLsbD i).toArray (0, 0) _ _ rfl (HR.out.all _).block Tryd.underlying79 (infoT _)) rfl ?_
      exact ⟨by rw [← HO.out, ← HZ.out]; rfl, below_setRow HB.out (Nat.le_add_right _ _) _⟩
end Go.Proofs.YtpihlaeioepbpaaDoor
