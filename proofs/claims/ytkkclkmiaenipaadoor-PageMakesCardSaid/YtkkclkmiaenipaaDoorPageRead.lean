/- The statements' readable, walked. -/
import Derived.Test.YtkkclkmiaenipaaDoorPageOut
import Derived.Test.YtkkclkmiaenipaaDoorPageKnown
namespace Go.Proofs.YtkkclkmiaenipaaDoor
open Go Go.RowKit
set_option linter.unusedVariables false

/-- The rights, with bit 0. -/
def orr (r : Int) : Int := bits .or .i64 r 1
theorem ofInt_wrap (z : BitVec 64) : BitVec.ofInt 64 (IntKind.i64.wrap (z.toNat : Int)) = z := by
  apply BitVec.eq_of_toNat_eq
  have hz := z.isLt
  rw [BitVec.toNat_ofInt]
  have h1 : (z.toNat : Int) % 18446744073709551616 = (z.toNat : Int) := by omega
  simp only [IntKind.wrap, IntKind.bits, IntKind.signed, Bool.true_and, Int.reducePow, Nat.reduceSub, h1]
  by_cases h : (z.toNat : Int) ≥ 9223372036854775808
  · simp only [h, decide_true, if_true]; omega
  · simp only [h, decide_false, Bool.false_eq_true, if_false]; omega
theorem rb_orr (r : Int) : rb (orr r) 0 = true := by
  have e : orr r = IntKind.i64.wrap ((BitVec.ofInt 64 r ||| BitVec.ofInt 64 1).toNat : Int) := rfl
  unfold rb
  rw [e, ofInt_wrap, BitVec.getLsbD_or]
  have : (BitVec.ofInt 64 1).getLsbD 0 = true := by decide
  rw [this, Bool.or_true]
/-- A page that may be read. -/
def readPg (p : PageV) : PageV := { p with rights := orr p.rights }
def readP (P : Nat → PageV) (k : Nat) : Nat → PageV := fun i => bif decide (i < k) then readPg (P i) else P i
theorem readP_lt {P : Nat → PageV} {k i : Nat} (h : i < k) : readP P k i = readPg (P i) := by simp [readP, h]
theorem readP_ge {P : Nat → PageV} {k i : Nat} (h : ¬ i < k) : readP P k i = P i := by simp [readP, h]
theorem readP_rb {P : Nat → PageV} {n i : Nat} (h : i < n) : rb (readP P n i).rights 0 = true := by rw [readP_lt h]; exact rb_orr _
set_option maxRecDepth 100000 in
set_option maxHeartbeats 4000000 in
theorem law_readable (a : Option Addr) (n cap : Nat) (P : Nat → PageV) (w : World) (h : RdP w a n cap P) :
    Calls Tryd.prog 11 #[.slice a n cap] w fun e w' => ∃ v, e = .returned v ∧ OwnP w' w.heap.size v n (readP P n) ∧ Below w.heap.size w w' := by
  have K := Kp.mk (ref_copy a n cap P w h)
  have hn := h.bound
  clear h
  go_enter Tryd.func11, Tryd.ntmps11
  go_wp2_with fail
  refine K.out.mono ?_
  rintro e w1 ⟨v, rfl, ho, hb⟩
  obtain ⟨a1, cap1, rfl, hrd⟩ := ho.rd hn
  have HO := Kp.mk ho
  have HB := Kp.mk hb
  clear ho hb hrd
  go_wp2
  go_loopw [4] (fun i wr => ∃ k : Nat, k ≤ n ∧ i = .int .i64 k ∧ Kp (OwnP wr w.heap.size (.slice a1 n cap1) n (readP P k)) ∧ Kp (Below w.heap.size w wr)) (fun i _ => n - (intOf i).toNat)
  case atStart => exact ⟨0, by omega, rfl, ⟨HO.out.congr (fun i hi => by rw [readP_ge (by omega)])⟩, HB⟩
  case round =>
    obtain ⟨k, hk, rfl, HO, HB⟩ := hrel
    by_cases hlt : k < n
    · have hb : decide ((k : Int) < n) = true := decide_eq_true (by omega)
      obtain ⟨g, cap2, hv, hg, _⟩ := HO.out.shape (by omega)
      simp only [Value.slice.injEq, true_and] at hv
      obtain ⟨rfl, rfl⟩ := hv
      have k1 : wr.cell? ⟨g, k * 66, none⟩ = some (.int .i64 (P k).rights) := by
        have := HO.out.cell k 0 hlt (by decide)
        rw [readP_ge (by omega)] at this
        exact this
      have k2 : wr.frozen? ⟨g, k * 66, none⟩ = false := HO.out.frozen _
      obtain ⟨x, hx⟩ : ∃ x, x = (P k).rights := ⟨_, rfl⟩
      rw [← hx] at k1
      have HO2 : Kp (OwnP (wr.setCell ⟨g, k * 66, none⟩ (.int .i64 (bits .or .i64 x 1))) w.heap.size (.slice (some ⟨g, 0, none⟩) n cap1) n (readP P (k + 1))) := ⟨by
        have := OwnP.stored HO.out k 0 hlt (by decide) (readPg (P k)) (.int .i64 (bits .or .i64 x 1)) (by
          rw [readP_ge (by omega), hx]
          exact row_set_rights (P k) _)
        refine this.congr (fun i hi => ?_)
        unfold upd
        by_cases e : i = k
        · subst e; simp only [if_true]; rw [readP_lt (by omega)]
        · simp only [e, if_false]
          by_cases e2 : i < k
          · rw [readP_lt e2, readP_lt (by omega)]
          · rw [readP_ge e2, readP_ge (by omega)]⟩
      have HB2 := Kp.mk (HB.out.setCell (p := ⟨g, k * 66, none⟩) hg (.int .i64 (bits .or .i64 x 1)))
      clear hx
      go_wp2
      go_roundw
      case rel => exact ⟨k + 1, by omega, by go_num, HO2, HB2⟩
      case measure => simp [intOf]; omega
    · have : k = n := by omega
      subst this
      have hb : decide ((k : Int) < k) = false := by simp
      go_wp2
      go_ret
      exact ⟨_, rfl, HO.out, HB.out⟩
namespace Pg
theorem num_two (P : Nat → PageV) (ad : Nat) : num P ad 4 = num P ad 2 * 65536 + num P (ad + 2) 2 := by
  simp only [num]
  simp only [Nat.add_assoc, Nat.add_zero, Nat.reduceAdd]
  omega
theorem num_one (P : Nat → PageV) (ad : Nat) : num P ad 1 = byte P ad := by simp [num]
end Pg
theorem andNot3 (ad : Nat) (h : ad < 4294967296) : bits .andNot .u32 (ad : Int) 3 = ((ad / 4 * 4 : Nat) : Int) := by
  have e := u32_andNot_nat ad 3 h (by decide)
  have hx : (BitVec.ofNat 32 ad &&& ~~~3#32) = (BitVec.ofNat 32 ad >>> 2) <<< 2 := by
    apply BitVec.eq_of_getLsbD_eq
    intro i hi
    have h3 : (~~~3#32).getLsbD i = decide (2 ≤ i) := by
      revert hi
      revert i
      decide
    rw [BitVec.getLsbD_and, h3, BitVec.getLsbD_shiftLeft, BitVec.getLsbD_ushiftRight]
    by_cases h2 : i < 2
    · have : ¬ 2 ≤ i := by omega
      simp [h2, this]
    · have h4 : 2 ≤ i := by omega
      simp only [hi, h2, h4, decide_true, decide_false, Bool.not_false, Bool.true_and, Bool.and_true]
      rw [show 2 + (i - 2) = i by omega]
  have h5 := congrArg BitVec.toNat hx
  rw [BitVec.toNat_and, BitVec.toNat_not, BitVec.toNat_shiftLeft, BitVec.toNat_ushiftRight, BitVec.toNat_ofNat, Nat.mod_eq_of_lt h] at h5
  have h6 : bits .andNot .u32 (ad : Int) 3 = ((ad &&& (2 ^ 32 - 1 - (3#32).toNat) : Nat) : Int) := e
  rw [h6, h5, Nat.shiftLeft_eq, Nat.shiftRight_eq_div_pow]
  omega
end Go.Proofs.YtkkclkmiaenipaaDoor
