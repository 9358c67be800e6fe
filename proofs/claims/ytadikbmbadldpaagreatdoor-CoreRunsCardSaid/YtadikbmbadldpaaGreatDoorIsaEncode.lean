
/- isa.Encode, walked. -/
import Derived.Test.YtadikbmbadldpaaGreatDoorIsaCheck
namespace Go.Proofs.YtadikbmbadldpaaGreatDoor
open Go Go.RowKit
set_option linter.unusedVariables false

/-- The word that is put together. -/
def wordN (op a b c : Nat) (imm : Int) : Nat := op * 16777216 + a * 1048576 + b * 65536 + c * 4096 + (imm % 65536).toNat
theorem or_add (x y k : Nat) (hy : y < 2 ^ k) : (x * 2 ^ k) ||| y = x * 2 ^ k + y := by
  have h := Nat.two_pow_add_eq_or_of_lt (i := k) (b := y) hy x
  rw [Nat.mul_comm] at h
  exact h.symm
theorem low_int (imm : Int) : bits .and .u32 (imm % 4294967296) 65535 = ((imm % 65536).toNat : Int) := by
  obtain ⟨x, hx⟩ : ∃ x : Nat, imm % 4294967296 = (x : Int) := ⟨(imm % 4294967296).toNat, by omega⟩
  have hlt : x < 4294967296 := by omega
  have h := u32_and_nat x 65535 hlt (by decide)
  have e : x &&& 65535 = x % 65536 := Nat.and_two_pow_sub_one_eq_mod x 16
  rw [hx]
  refine h.trans ?_
  rw [e]
  omega
theorem and15_int (x : Nat) (hx : x < 4294967296) : bits .and .u32 (x : Int) 15 = ((x % 16 : Nat) : Int) := by
  have h := u32_and_nat x 15 hx (by decide)
  have e : x &&& 15 = x % 16 := Nat.and_two_pow_sub_one_eq_mod x 4
  refine h.trans ?_
  rw [e]
theorem and16_int (x : Nat) (hx : x < 4294967296) : bits .and .u32 (x : Int) 65535 = ((x % 65536 : Nat) : Int) := by
  have h := u32_and_nat x 65535 hx (by decide)
  have e : x &&& 65535 = x % 65536 := Nat.and_two_pow_sub_one_eq_mod x 16
  refine h.trans ?_
  rw [e]
theorem word_int (op a b c : Nat) (imm : Int) (hop : op < 256) (ha : a < 16) (hb : b < 16) (hc : c < 16) (hcl : c = 0 ∨ imm = 0) :
    bits .or .u32 (bits .or .u32 (bits .or .u32 (bits .or .u32 ((op : Int) * 16777216) ((a : Int) * 1048576)) ((b : Int) * 65536)) ((c : Int) * 4096)) (bits .and .u32 (imm % 4294967296) 65535) = (wordN op a b c imm : Nat) := by
  rw [low_int]
  obtain ⟨l, hl⟩ : ∃ l, l = (imm % 65536).toNat := ⟨_, rfl⟩
  have hl2 : l < 65536 := by omega
  have k : ∀ x y : Nat, x < 4294967296 → y < 4294967296 → ∀ z : Nat, (x ||| y) = z → bits .or .u32 (x : Int) (y : Int) = ((z : Nat) : Int) := fun x y hx hy z hz => by rw [← hz]; exact u32_or_nat x y hx hy
  have h1 := k (op * 16777216) (a * 1048576) (by omega) (by omega) (op * 16777216 + a * 1048576) (or_add op (a * 1048576) 24 (by omega))
  have h2 := k (op * 16777216 + a * 1048576) (b * 65536) (by omega) (by omega) (op * 16777216 + a * 1048576 + b * 65536) (by
    have := or_add (op * 16 + a) (b * 65536) 20 (by omega)
    rw [show (op * 16 + a) * 2 ^ 20 = op * 16777216 + a * 1048576 by omega] at this
    exact this)
  have h3 := k (op * 16777216 + a * 1048576 + b * 65536) (c * 4096) (by omega) (by omega) (op * 16777216 + a * 1048576 + b * 65536 + c * 4096) (by
    have := or_add (op * 256 + a * 16 + b) (c * 4096) 16 (by omega)
    rw [show (op * 256 + a * 16 + b) * 2 ^ 16 = op * 16777216 + a * 1048576 + b * 65536 by omega] at this
    exact this)
  have h4 := k (op * 16777216 + a * 1048576 + b * 65536 + c * 4096) l (by omega) (by omega) (wordN op a b c imm) (by
    unfold wordN
    rw [← hl]
    rcases hcl with rfl | rfl
    · have := or_add (op * 256 + a * 16 + b) l 16 (by omega)
      rw [show (op * 256 + a * 16 + b) * 2 ^ 16 = op * 16777216 + a * 1048576 + b * 65536 by omega] at this
      rw [Nat.zero_mul, Nat.add_zero]
      exact this
    · have : l = 0 := by rw [hl]; rfl
      subst this
      rw [Nat.or_zero, Nat.add_zero])
  rw [← hl]
  simp only [Int.natCast_add, Int.natCast_mul] at h1 h2 h3 h4
  refine Eq.trans ?_ h4
  rw [← h3, ← h2, ← h1]
  rfl
set_option maxRecDepth 100000 in
set_option maxHeartbeats 4000000 in
theorem isa_encode (A : Nat → Addr) (op f : Nat) (hf : formAt (op : Int) = f) (h1 : 1 ≤ f) (hop : op < 256) (a b c : Nat) (ha : a < 16) (hb : b < 16) (hc : c < 16) (imm : Int) (hlo : bLo (usI f) (usS f) ≤ imm) (hhi : imm ≤ bHi (usI f) (usS f)) (w : World) (ht : BlankT w) (hE : Errs w [4, 7] A) :
    Calls Tryz.prog 73 #[.agg (insA op a b c imm)] w fun e w' => e = .returned (.tuple #[.int .u32 ((bif fitsW f a b c then wordN op a b c imm else 0 : Nat) : Int), errIf A (fitsW f a b c)]) ∧ Below w.heap.size w w' := by
  obtain ⟨w1, e1⟩ : ∃ w1, w1 = w.alloc (.cells (insA op a b c imm) 67) := ⟨_, rfl⟩
  obtain ⟨B, hB⟩ : ∃ B, B = w.heap.size := ⟨_, rfl⟩
  have b1 : Below B w w1 := by rw [e1, hB]; exact below_alloc _ _
  have V1 : Kp (Blk w1 B (insA op a b c imm) 67) := ⟨by rw [e1, hB]; exact Blk.new _ _ _⟩
  have s1 : w1.heap.size = B + 1 := by rw [e1, hB]; simp
  have KF := Kp.mk (isa_check A op f hf h1 a b c ha hb hc imm hlo hhi w1 (ht.later (hB ▸ b1)) (hE.later (hB ▸ b1)))
  obtain ⟨t, hft⟩ : ∃ t, t = fitsW f a b c := ⟨_, rfl⟩
  rw [← hft] at KF ⊢
  have hlo2 : -32768 ≤ imm := by
    refine Int.le_trans ?_ hlo
    cases usI f <;> cases usS f <;> decide
  have hhi2 : imm ≤ 65535 := by
    refine Int.le_trans hhi ?_
    cases usI f <;> cases usS f <;> decide
  have E1 := Kp.mk e1
  have S1 := Kp.mk s1
  have B1 := Kp.mk b1
  have HBq := Kp.mk hB
  obtain ⟨x4, hx4⟩ : ∃ x, x = A 4 := ⟨_, rfl⟩
  have hcl : t = true → c = 0 ∨ imm = 0 := fun e => by
    rw [hft] at e
    unfold fitsW at e
    simp only [Bool.and_eq_true, Bool.or_eq_true, decide_eq_true_eq] at e
    rcases e.2 with h | h
    · exact .inl h
    · right
      have hu : usI f = false := by unfold usI; unfold usC at h; rw [h]; rfl
      rw [hu] at hlo hhi
      exact Int.le_antisymm hhi hlo
  clear ht hE e1 s1 b1 hB hf h1 hlo hhi hft
  cases t
  · clear hcl
    have KF2 : Kp (Calls Tryz.prog 88 #[.agg (insA op a b c imm)] w1 fun e w' => e = .returned (.iface 199 (.pointer (some x4))) ∧ Below w1.heap.size w1 w') := ⟨by rw [hx4]; exact KF.out⟩
    show Calls _ _ _ _ fun e w' => e = .returned (.tuple #[.int .u32 0, errv (A 4)]) ∧ _
    rw [← hx4]
    clear KF hx4
    go_enter Tryz.func73, Tryz.ntmps73
    go_wp2_with fail
    rw [← E1.out]
    refine KF2.out.mono ?_
    rintro e w2 ⟨rfl, hw2⟩
    have HW2 := Kp.mk hw2
    clear hw2 KF2
    go_wp2_with fail
    go_ret2
    exact ⟨rfl, by rw [← HBq.out]; exact B1.out.trans (HW2.out.mono (by have := S1.out; omega))⟩
  · have HCL := Kp.mk (hcl rfl)
    clear hcl
    have KF2 : Kp (Calls Tryz.prog 88 #[.agg (insA op a b c imm)] w1 fun e w' => e = .returned .nilIface ∧ Below w1.heap.size w1 w') := ⟨KF.out⟩
    show Calls _ _ _ _ fun e w' => e = .returned (.tuple #[.int .u32 (wordN op a b c imm : Nat), .nilIface]) ∧ _
    clear KF hx4
    go_enter Tryz.func73, Tryz.ntmps73
    go_wp2_with fail
    rw [← E1.out]
    refine KF2.out.mono ?_
    rintro e w2 ⟨rfl, hw2⟩
    have HW2 := Kp.mk hw2
    have VI := Kp.mk (V1.out.later hw2)
    have x0 := VI.out.cell 0 _ rfl
    have x1 := VI.out.cell 1 _ rfl
    have x2 := VI.out.cell 2 _ rfl
    have x3 := VI.out.cell 3 _ rfl
    have x4' := VI.out.cell 4 _ rfl
    rw [HBq.out] at x0 x1 x2 x3 x4'
    clear hw2 KF2
    go_wp2_with fail
    go_ret2
    exact ⟨by rw [word_int op a b c imm hop ha hb hc HCL.out]; rfl, by rw [← HBq.out]; exact B1.out.trans (HW2.out.mono (by have := S1.out; omega))⟩
end Go.Proofs.YtadikbmbadldpaaGreatDoor
