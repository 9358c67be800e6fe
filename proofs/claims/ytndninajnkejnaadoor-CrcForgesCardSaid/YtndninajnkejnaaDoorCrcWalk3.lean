/- The check sum, walked: Sum and More of both; the nine digits; the fixed fact. -/
import Derived.Test.YtndninajnkejnaaDoorCrcWalk2
namespace Go.Proofs.YtndninajnkejnaaDoor
open Go Go.RowKit
set_option linter.unusedVariables false

set_option maxRecDepth 100000 in
theorem ref_more (s : BitVec 32) (a : Option Addr) (n cap : Nat) (l : List (BitVec 8)) (w : World) (h : RdB w a n cap l) :
    Calls Tryd.prog 45 #[.int .u32 (s.toNat : Int), .slice a n cap] w fun e w' => e = .returned (.int .u32 ((Crc.more s l).toNat : Int)) ∧ w = w' := by
  have hl := h.len
  have hlen := h.le
  have hc := h.cells
  clear h
  have HL := Kp.mk hl; clear hl
  have HC : Kp (0 < n → ∃ b off, a = some ⟨b, off, none⟩ ∧ ∀ j, j < n → w.cell? ⟨b, off + j, none⟩ = some (.int .u8 ((l.getD j 0#8).toNat : Int))) := Kp.mk hc
  clear hc
  have hs := ones_int s
  obtain ⟨t, ht⟩ : ∃ t, t = s ^^^ Crc.ones := ⟨_, rfl⟩
  rw [← ht] at hs
  have HT := Kp.mk ht; clear ht
  go_enter Tryd.func45, Tryd.ntmps45
  go_wp2
  go_loop [5, 6] (fun x i => ∃ k : Nat, k ≤ n ∧ i = .int .i64 k ∧ x = .int .u32 ((Crc.run t (l.take k)).toNat : Int)) (fun _ i => n - (intOf i).toNat)
  case atStart => exact ⟨0, by omega, rfl, rfl⟩
  case round =>
    obtain ⟨k, hk, rfl, rfl⟩ := hrel
    obtain ⟨x, hx⟩ : ∃ x, x = Crc.run t (l.take k) := ⟨_, rfl⟩
    rw [← hx]
    have HX := Kp.mk hx; clear hx
    by_cases hlt : k < n
    · obtain ⟨b, off, rfl, hc⟩ := HC.out (by omega)
      have hcell := hc k hlt
      clear hc HC
      obtain ⟨c, hcc⟩ : ∃ c, c = l.getD k 0#8 := ⟨_, rfl⟩
      rw [← hcc] at hcell
      have HCC := Kp.mk hcc; clear hcc
      go_wp2_with (go_at_call 55; refine (ref_move _ _ _).mono ?_; rintro e w' ⟨rfl, rfl⟩)
      go_round
      case rel => exact ⟨k + 1, by omega, by go_num, by rw [Crc.run_take _ l k (by rw [HL.out]; exact hlt), ← HX.out, ← HCC.out]⟩
      case measure => simp [intOf]; omega
    · have : k = n := by omega
      subst this
      have HO := Kp.mk (ones_int x)
      go_wp2
      go_ret
      exact ⟨ret_int (by rw [HO.out, HX.out, HT.out, List.take_of_length_le (by rw [HL.out]; exact Nat.le_refl _)]; rfl), rfl⟩

theorem unary_not32 (x y : BitVec 32) (h : y = x ^^^ Crc.ones) : Op.unary .xor (.int .u32 (x.toNat : Int)) = pure (.int .u32 (y.toNat : Int)) := by
  subst h
  have e1 : BitVec.ofInt 32 (if IntKind.u32.signed = true then -1 else IntKind.u32.max) = Crc.ones := by decide
  have e2 : BitVec.ofInt 32 (x.toNat : Int) = x := by rw [BitVec.ofInt_natCast, BitVec.ofNat_toNat, BitVec.setWidth_eq]
  have e3 : ∀ z : BitVec 32, IntKind.u32.wrap (z.toNat : Int) = (z.toNat : Int) := fun z => by
    rw [IntKind.wrap_u32']; have := z.isLt; omega
  show pure (Value.int .u32 (IntKind.u32.wrap ((BitVec.ofInt 32 (if IntKind.u32.signed = true then -1 else IntKind.u32.max) ^^^ BitVec.ofInt 32 (x.toNat : Int)).toNat : Int))) = _
  rw [e1, e2, e3, BitVec.xor_comm]
theorem crc_more (s : BitVec 32) (a : Option Addr) (n cap : Nat) (l : List (BitVec 8)) (w : World) (h : RdB w a n cap l) :
    Calls Tryd.prog 20 #[.int .u32 (s.toNat : Int), .slice a n cap] w fun e w' => e = .returned (.int .u32 ((Crc.more s l).toNat : Int)) ∧ Below w.heap.size w w' := by
  obtain ⟨t, ht⟩ : ∃ t, t = s ^^^ Crc.ones := ⟨_, rfl⟩
  obtain ⟨u, hu⟩ : ∃ u, u = Crc.run t l := ⟨_, rfl⟩
  obtain ⟨v, hv⟩ : ∃ v, v = u ^^^ Crc.ones := ⟨_, rfl⟩
  have h1 := unary_not32 s t ht
  have h2 := unary_not32 u v hv
  have C := fun w h => crc_move t a n cap l w h
  have hfin : v = Crc.more s l := by rw [hv, hu, ht]; rfl
  rw [← hu] at C
  have HF := Kp.mk hfin
  have HC := Kp.mk C
  have HH := Kp.mk h; clear h ht hu hv hfin C
  go_enter Tryd.func20, Tryd.ntmps20
  go_wp2_with (go_at_call 43; refine (HC.out _ HH.out).mono ?_; rintro e w1 ⟨rfl, hb⟩)
  go_ret
  exact ⟨ret_int (by rw [HF.out]), hb⟩

set_option maxRecDepth 100000 in
theorem crc_sum (a : Option Addr) (n cap : Nat) (l : List (BitVec 8)) (w : World) (h : RdB w a n cap l) :
    Calls Tryd.prog 19 #[.slice a n cap] w fun e w' => e = .returned (.int .u32 ((Crc.sum l).toNat : Int)) ∧ Below w.heap.size w w' := by
  have HC := Kp.mk (crc_more 0#32 a n cap l w h)
  clear h
  go_enter Tryd.func19, Tryd.ntmps19
  go_wp2_with (go_at_call 20; refine HC.out.mono ?_; rintro e w1 ⟨rfl, hb⟩)
  go_ret
  exact ⟨ret_int rfl, hb⟩

/-- The digits 1 to 9. -/
def nineBytes : List (BitVec 8) := [49#8, 50#8, 51#8, 52#8, 53#8, 54#8, 55#8, 56#8, 57#8]
theorem nine_sum : ((Crc.sum nineBytes).toNat : Int) = 3421780262 := by decide +kernel
theorem law_nine (w : World) :
    Calls Tryd.prog 34 #[] w fun e w' => e = .returned (.slice (some ⟨w.heap.size, 0, none⟩) 9 9) ∧ Below w.heap.size w w' ∧ RdB w' (some ⟨w.heap.size, 0, none⟩) 9 9 nineBytes := by
  go_enter Tryd.func34, Tryd.ntmps34
  go_wp2
  go_ret
  refine ⟨rfl, (Below.refl _ _).alloc (Nat.le_refl _) _, rfl, by omega, by omega, (fun h => by cases h), fun _ => ⟨w.heap.size, 0, rfl, fun j hj => ?_⟩⟩
  rw [World.cell?_alloc_at]
  · match j, hj with
    | 0, _ => rfl
    | 1, _ => rfl
    | 2, _ => rfl
    | 3, _ => rfl
    | 4, _ => rfl
    | 5, _ => rfl
    | 6, _ => rfl
    | 7, _ => rfl
    | 8, _ => rfl
  · rfl
theorem law_awake (w : World) :
    Calls Tryd.prog 15 #[] w fun e w' => e = .returned (.bool true) ∧ Below w.heap.size w w' := by
  have HS := nine_sum
  go_enter Tryd.func15, Tryd.ntmps15
  go_wp2_with (first
    | (go_at_call 34; refine (law_nine _).mono ?_; rintro e w1 ⟨rfl, hb, hr⟩; have HR := Kp.mk hr; have HB := Kp.mk hb; clear hr hb)
    | (go_at_call 19; refine (crc_sum _ _ _ nineBytes _ ?_).mono ?_; (first | exact HR.out | assumption); rintro e w2 ⟨rfl, hb2⟩))
  go_ret
  exact ⟨rfl, HB.out.trans (hb2.mono HB.out.size)⟩
end Go.Proofs.YtndninajnkejnaaDoor
