/- Rows of bytes held against one another, copied, converted: walked. -/
import Derived.Test.YtndninajnkejnaaDoorAppend
import Derived.Test.YtndninajnkejnaaDoorDrew
import Derived.Laws.BytesArg
import Derived.Lib.Strings
import Derived.Lib.Slices
import Derived.Lib.Walk
import Derived.Lib.Bytes
import Derived.Deep.QuietTactic
import Derived.BigQuiet
namespace Go.Proofs.YtndninajnkejnaaDoor
open Go Go.RowKit
set_option linter.unusedVariables false

set_option maxRecDepth 100000 in
theorem ref_equal (a b : Option Addr) (n na m mb : Nat) (l k : List (BitVec 8)) (w : World) (h1 : RdB w a n na l) (h2 : RdB w b m mb k) :
    Calls Tryd.prog 18 #[.slice a n na, .slice b m mb] w fun e w' => e = .returned (.bool (decide (l = k))) ∧ Drew w w' := by
  have hn := h1.bound
  have hm := h2.bound
  have H1 := Kp.mk h1
  have H2 := Kp.mk h2
  clear h1 h2
  by_cases hl : n = m
  · subst hl
    have hb : ((n : Int) != (n : Int)) = false := by simp
    go_enter Tryd.func18, Tryd.ntmps18
    go_wp2
    go_loopw [5] (fun i wr => ∃ j : Nat, j ≤ n ∧ i = .int .i64 j ∧ Kp (l.take j = k.take j) ∧ Kp (Drew w wr)) (fun i _ => n - (intOf i).toNat)
    case atStart => exact ⟨0, by omega, rfl, ⟨rfl⟩, ⟨Drew.refl _⟩⟩
    case round =>
      obtain ⟨j, hj, rfl, HT, HD⟩ := hrel
      obtain ⟨q, rfl⟩ := HD.out
      by_cases hlt : j < n
      · have hbt : decide ((j : Int) < n) = true := decide_eq_true (by omega)
        obtain ⟨b1, o1, rfl, c1⟩ := H1.out.cells (by omega)
        obtain ⟨b2, o2, rfl, c2⟩ := H2.out.cells (by omega)
        have d1 := c1 j hlt
        have d2 := c2 j hlt
        obtain ⟨x, hx⟩ : ∃ x, x = l.getD j 0#8 := ⟨_, rfl⟩
        obtain ⟨y, hy⟩ : ∃ y, y = k.getD j 0#8 := ⟨_, rfl⟩
        rw [← hx] at d1
        rw [← hy] at d2
        have HX := Kp.mk hx
        have HY := Kp.mk hy
        clear hx hy c1 c2
        by_cases hxy : x = y
        · have hne : ((x.toNat : Int) != (y.toNat : Int)) = false := by rw [hxy]; simp
          have HXY := Kp.mk hxy
          clear hxy
          go_wp2
          go_quiet (fail)
          go_wp2
          go_roundw
          case rel =>
            refine ⟨j + 1, by omega, by go_num, ⟨?_⟩, ⟨_, rfl⟩⟩
            rw [take_snoc l 0#8 j (by rw [H1.out.len]; exact hlt), take_snoc k 0#8 j (by rw [H2.out.len]; exact hlt), HT.out, ← HX.out, ← HY.out, HXY.out]
          case measure => simp [intOf]; omega
        · have hne : ((x.toNat : Int) != (y.toNat : Int)) = true := by
            rw [bne_iff_ne]; intro e; exact hxy (BitVec.eq_of_toNat_eq (by omega))
          have HXY := Kp.mk hxy
          clear hxy
          go_wp2
          go_quiet (fail)
          go_wp2
          go_ret
          refine ⟨ret_bool ?_, Drew.trans ⟨q, rfl⟩ ⟨_, rfl⟩⟩
          rw [eq_comm, decide_eq_false_iff_not]
          intro e
          exact HXY.out (by rw [HX.out, HY.out, e])
      · have : j = n := by omega
        subst this
        go_wp2
        go_ret
        refine ⟨ret_bool ?_, ⟨_, rfl⟩⟩
        have e := HT.out
        rw [List.take_of_length_le (by rw [H1.out.len]; exact Nat.le_refl _), List.take_of_length_le (by rw [H2.out.len]; exact Nat.le_refl _)] at e
        rw [eq_comm, decide_eq_true_iff]
        exact e
  · have hb : ((n : Int) != (m : Int)) = true := by rw [bne_iff_ne]; omega
    have HL := Kp.mk hl
    clear hl
    go_enter Tryd.func18, Tryd.ntmps18
    go_wp2
    go_ret
    refine ⟨ret_bool ?_, Drew.refl _⟩
    rw [eq_comm, decide_eq_false_iff_not]
    intro e
    exact HL.out (by rw [← H1.out.len, ← H2.out.len, e])

/-- The bytes as a string. -/
def strB (l : List (BitVec 8)) : ByteArray := strOfNums (l.map fun c => (c.toNat : Int))
theorem strB_inj (l k : List (BitVec 8)) : ((strB l).toList == (strB k).toList) = decide (l = k) := by
  have e : ∀ l : List (BitVec 8), (strB l).toList = l.map fun c => UInt8.ofNat c.toNat := fun l => by
    unfold strB
    rw [Lib.strOfNums_toList]
    simp [Lib.bytesOf]
  rw [e, e, Bool.eq_iff_iff, beq_iff_eq, decide_eq_true_iff]
  constructor
  · intro h
    refine List.map_inj_right (f := fun c : BitVec 8 => UInt8.ofNat c.toNat) (fun x y hxy => ?_) |>.1 h
    have := congrArg UInt8.toNat hxy
    simp only [UInt8.toNat_ofNat'] at this
    exact BitVec.eq_of_toNat_eq (by have := x.isLt; have := y.isLt; omega)
  · intro h; rw [h]
theorem conv_bytes {w : World} {a : Option Addr} {n c : Nat} {l : List (BitVec 8)} (h : RdB w a n c l) : (convert 22 9 (.slice a n c)).run Tryd.prog w = .ok (.string (strB l)) w := by
  by_cases hn : n = 0
  · subst hn
    have hl : l = [] := List.eq_nil_of_length_eq_zero h.len
    subst hl
    cases a with
    | none => exact run_convert_bytes_nil w 22 5 Tryd.underlying22 Tryd.underlying5 0 c 9 Tryd.underlying9
    | some x =>
      rw [run_convert_bytes_string w 22 9 5 _ 0 c Tryd.underlying22 Tryd.underlying5 Tryd.underlying9]
      rfl
  · obtain ⟨b, off, rfl, hc⟩ := h.cells (by omega)
    exact run_convert_bytes_arg w 22 5 Tryd.underlying22 Tryd.underlying5 b off n c (l.map fun c => (c.toNat : Int)) (by rw [List.length_map, h.len]) (fun i hi => by
      rw [hc i hi]
      simp [List.getD_eq_getElem?_getD, h.len, hi]) 9 Tryd.underlying9
set_option maxRecDepth 100000 in
theorem bytes_equal (a b : Option Addr) (n na m mb : Nat) (l k : List (BitVec 8)) (w : World) (h1 : RdB w a n na l) (h2 : RdB w b m mb k) :
    Calls Tryd.prog 42 #[.slice a n na, .slice b m mb] w fun e w' => e = .returned (.bool (decide (l = k))) ∧ w' = w := by
  have c1 := conv_bytes h1
  have c2 := conv_bytes h2
  rw [← strB_inj]
  obtain ⟨s, hs⟩ : ∃ s, s = strB l := ⟨_, rfl⟩
  obtain ⟨t, ht⟩ : ∃ t, t = strB k := ⟨_, rfl⟩
  rw [← hs] at c1 ⊢
  rw [← ht] at c2 ⊢
  clear hs ht h1 h2
  go_enter Tryd.func42, Tryd.ntmps42
  go_wp2
  go_ret
  exact ⟨rfl, rfl⟩
end Go.Proofs.YtndninajnkejnaaDoor
