/- Package alu's AddCarry, SubBorrow, MulWide, DivWide, walked. -/
import Derived.Test.YtpihlaeioepbpaaDoorAluWalk1
import Derived.Deep.QuietTactic
import Derived.BigQuiet
namespace Go.Proofs.YtpihlaeioepbpaaDoor
open Go Go.RowKit
set_option linter.unusedVariables false
namespace Alu
/-- A carry as a number. -/
def cn (k : Bool) : Nat := if k then 1 else 0
theorem tr_cn (k : Bool) : tr k = (cn k : Int) := by cases k <;> rfl
theorem cn_le (k : Bool) : cn k ≤ 1 := by cases k <;> decide
end Alu
set_option maxRecDepth 100000 in
theorem bits_add (b c : BitVec 32) (k : Nat) (w : World) (hk : k ≤ 1) :
    Calls Tryd.prog 56 #[.int .u32 (b.toNat : Int), .int .u32 (c.toNat : Int), .int .u32 (k : Int)] w fun e w' => ∃ (s : BitVec 32) (o : Nat), e = .returned (.tuple #[.int .u32 (s.toNat : Int), .int .u32 (o : Int)]) ∧ o ≤ 1 ∧ s.toNat + 4294967296 * o = b.toNat + c.toNat + k ∧ w' = w := by
  have b1 := b.isLt
  have c1 := c.isLt
  go_enter Tryd.func56, Tryd.ntmps56
  go_wp2
  go_ret2
  refine ⟨BitVec.ofNat 32 (b.toNat + c.toNat + k), (b.toNat + c.toNat + k) / 4294967296, ?_, by omega, by rw [BitVec.toNat_ofNat]; omega, rfl⟩
  refine ret2_int ?_ ?_
  · rw [BitVec.toNat_ofNat]; omega
  · congr 1
set_option maxRecDepth 100000 in
theorem alu_add (b c : BitVec 32) (k : Bool) (w : World) :
    Calls Tryd.prog 28 #[.int .u32 (b.toNat : Int), .int .u32 (c.toNat : Int), .bool k] w fun e w' => ∃ (s : BitVec 32) (o : Bool), e = .returned (.tuple #[.int .u32 (s.toNat : Int), .bool o]) ∧ s.toNat + 4294967296 * Alu.cn o = b.toNat + c.toNat + Alu.cn k ∧ w' = w := by
  have KT := Kp.mk (fun w => alu_truth k w)
  have e := Alu.tr_cn k
  have hk := Alu.cn_le k
  obtain ⟨n, hn⟩ : ∃ n, n = Alu.cn k := ⟨_, rfl⟩
  rw [← hn] at e hk
  rw [e] at KT
  rw [← hn]
  clear hn e
  go_enter Tryd.func28, Tryd.ntmps28
  go_wp2_with fail
  refine (KT.out _).mono ?_
  rintro e w1 ⟨rfl, rfl⟩
  go_wp2_with fail
  refine (bits_add b c n _ hk).mono ?_
  rintro e w2 ⟨s, o, rfl, ho, hs, rfl⟩
  have HS := Kp.mk hs
  clear hs
  by_cases h1 : o = 1
  · subst h1
    go_wp2
    go_ret2
    exact ⟨s, true, rfl, HS.out, rfl⟩
  · have : o = 0 := by omega
    subst this
    go_wp2
    go_ret2
    exact ⟨s, false, rfl, HS.out, rfl⟩
theorem unary_not (x y : BitVec 32) (h : y = ~~~x) : Op.unary .xor (.int .u32 (x.toNat : Int)) = pure (.int .u32 (y.toNat : Int)) := by
  subst h
  have e1 : BitVec.ofInt 32 (if IntKind.u32.signed = true then -1 else IntKind.u32.max) = 4294967295#32 := by decide
  have e2 : BitVec.ofInt 32 (x.toNat : Int) = x := by rw [BitVec.ofInt_natCast, BitVec.ofNat_toNat, BitVec.setWidth_eq]
  have e3 : ∀ z : BitVec 32, IntKind.u32.wrap (z.toNat : Int) = (z.toNat : Int) := fun z => by
    rw [IntKind.wrap_u32']; have := z.isLt; omega
  have e4 : (4294967295#32 ^^^ x) = ~~~x := by
    rw [show (4294967295#32 : BitVec 32) = BitVec.allOnes 32 from rfl, BitVec.xor_comm, BitVec.xor_allOnes]
  show pure (Value.int .u32 (IntKind.u32.wrap ((BitVec.ofInt 32 (if IntKind.u32.signed = true then -1 else IntKind.u32.max) ^^^ BitVec.ofInt 32 (x.toNat : Int)).toNat : Int))) = _
  rw [e1, e2, e3, e4]
set_option maxRecDepth 100000 in
theorem bits_mul (b c : BitVec 32) (w : World) :
    Calls Tryd.prog 54 #[.int .u32 (b.toNat : Int), .int .u32 (c.toNat : Int)] w fun e w' => ∃ h l : BitVec 32, e = .returned (.tuple #[.int .u32 (h.toNat : Int), .int .u32 (l.toNat : Int)]) ∧ h.toNat * 4294967296 + l.toNat = b.toNat * c.toNat ∧ w' = w := by
  have hP2 : b.toNat * c.toNat ≤ 4294967295 * 4294967295 := Nat.mul_le_mul (by have := b.isLt; omega) (by have := c.isLt; omega)
  obtain ⟨P, hP⟩ : ∃ P, P = b.toNat * c.toNat := ⟨_, rfl⟩
  have hPi : (b.toNat : Int) * (c.toNat : Int) = (P : Int) := by rw [hP]; simp
  rw [← hP] at hP2 ⊢
  clear hP
  go_enter Tryd.func54, Tryd.ntmps54
  go_wp2
  go_ret2
  refine ⟨BitVec.ofNat 32 (P / 4294967296), BitVec.ofNat 32 P, ?_, by rw [BitVec.toNat_ofNat, BitVec.toNat_ofNat]; omega, rfl⟩
  refine ret2_int ?_ ?_
  · rw [BitVec.toNat_ofNat]; omega
  · congr 1
set_option maxRecDepth 100000 in
theorem alu_mul (b c : BitVec 32) (w : World) :
    Calls Tryd.prog 24 #[.int .u32 (b.toNat : Int), .int .u32 (c.toNat : Int)] w fun e w' => ∃ h l : BitVec 32, e = .returned (.tuple #[.int .u32 (h.toNat : Int), .int .u32 (l.toNat : Int)]) ∧ h.toNat * 4294967296 + l.toNat = b.toNat * c.toNat ∧ w' = w := by
  go_enter Tryd.func24, Tryd.ntmps24
  go_wp2_with fail
  refine (bits_mul b c _).mono ?_
  rintro e w1 ⟨h, l, rfl, hs, rfl⟩
  have HS := Kp.mk hs
  clear hs
  go_wp2
  go_ret2
  exact ⟨h, l, rfl, HS.out, rfl⟩
namespace Alu
/-- The borrow's formula. -/
def bor (b c d : R) : R := (~~~b &&& c) ||| (~~~(b ^^^ c) &&& d)
theorem bor_nat (b c : R) (k : Nat) (hk : k ≤ 1) : (bor b c (b - c - BitVec.ofNat 32 k) >>> 31).toNat = if b.toNat < c.toNat + k then 1 else 0 := by
  obtain ⟨d, hd⟩ : ∃ d, d = b - c - BitVec.ofNat 32 k := ⟨_, rfl⟩
  have hdn : d.toNat = (b.toNat + 4294967296 - c.toNat + 4294967296 - k) % 4294967296 := by
    rw [hd, BitVec.toNat_sub, BitVec.toNat_sub, BitVec.toNat_ofNat]
    have := b.isLt; have := c.isLt
    omega
  rw [← hd]
  have hm : ∀ x : R, x.getLsbD 31 = decide (2147483648 ≤ x.toNat) := fun x => by
    rw [show x.getLsbD 31 = x.msb by rw [BitVec.msb_eq_getLsbD_last], BitVec.msb_eq_decide]
  have hs : (bor b c d >>> 31).toNat = if (bor b c d).getLsbD 31 then 1 else 0 := by
    rw [BitVec.toNat_ushiftRight, Nat.shiftRight_eq_div_pow, hm]
    have := (bor b c d).isLt
    by_cases h : 2147483648 ≤ (bor b c d).toNat
    · simp [h]; omega
    · simp [h]; omega
  rw [hs]
  have hb31 : (bor b c d).getLsbD 31 = ((!b.getLsbD 31 && c.getLsbD 31) || (!(b.getLsbD 31 ^^ c.getLsbD 31) && d.getLsbD 31)) := by
    unfold bor
    simp only [BitVec.getLsbD_or, BitVec.getLsbD_and, BitVec.getLsbD_not, BitVec.getLsbD_xor]
    simp
  rw [hb31, hm, hm, hm]
  have h1 := b.isLt
  have h2 := c.isLt
  have h3 := d.isLt
  by_cases p : 2147483648 ≤ b.toNat <;> by_cases q : 2147483648 ≤ c.toNat <;> by_cases r : 2147483648 ≤ d.toNat <;> by_cases s : b.toNat < c.toNat + k <;> simp [p, q, r, s] <;> omega
end Alu
set_option maxRecDepth 100000 in
theorem bits_sub (b c : BitVec 32) (k : Nat) (w : World) (hk : k ≤ 1) :
    Calls Tryd.prog 66 #[.int .u32 (b.toNat : Int), .int .u32 (c.toNat : Int), .int .u32 (k : Int)] w fun e w' => ∃ (s : BitVec 32) (o : Nat), e = .returned (.tuple #[.int .u32 (s.toNat : Int), .int .u32 (o : Int)]) ∧ o ≤ 1 ∧ s.toNat + c.toNat + k = b.toNat + 4294967296 * o ∧ w' = w := by
  obtain ⟨d1, hd1⟩ : ∃ d1, d1 = b - c := ⟨_, rfl⟩
  obtain ⟨d, hd⟩ : ∃ d, d = d1 - BitVec.ofNat 32 k := ⟨_, rfl⟩
  have e1 : ((b.toNat : Int) - c.toNat) % 4294967296 = (d1.toNat : Int) := by rw [hd1]; exact Alu.sub_int b c
  have e2 : ((d1.toNat : Int) - (k : Int)) % 4294967296 = (d.toNat : Int) := by
    rw [hd, ← Alu.sub_int, BitVec.toNat_ofNat, Nat.mod_eq_of_lt (by omega)]
  obtain ⟨nb, hnb⟩ : ∃ nb, nb = ~~~b := ⟨_, rfl⟩
  obtain ⟨x, hx⟩ : ∃ x, x = b ^^^ c := ⟨_, rfl⟩
  obtain ⟨nx, hnx⟩ : ∃ nx, nx = ~~~x := ⟨_, rfl⟩
  obtain ⟨y, hy⟩ : ∃ y, y = nb &&& c := ⟨_, rfl⟩
  obtain ⟨z, hz⟩ : ∃ z, z = nx &&& d := ⟨_, rfl⟩
  obtain ⟨u, hu⟩ : ∃ u, u = y ||| z := ⟨_, rfl⟩
  obtain ⟨v, hv⟩ : ∃ v, v = u >>> 31 := ⟨_, rfl⟩
  have u1 := unary_not b nb hnb
  have u2 := unary_not x nx hnx
  have a1 := Alu.xor_int b c
  rw [← hx] at a1
  have a2 := Alu.and_int nb c
  rw [← hy] at a2
  have a3 := Alu.and_int nx d
  rw [← hz] at a3
  have a4 := Alu.or_int y z
  rw [← hu] at a4
  have a5 := Alu.shr_int u 31
  rw [← hv] at a5
  have a6 : (u.toNat : Int) / 2147483648 = (v.toNat : Int) := by rw [← a5]; rfl
  have hfin : v.toNat = if b.toNat < c.toNat + k then 1 else 0 := by
    rw [hv, hu, hy, hz, hnb, hnx, hx, hd, hd1]
    exact Alu.bor_nat b c k hk
  have hdn : d.toNat + c.toNat + k = b.toNat + 4294967296 * v.toNat := by
    have := b.isLt; have := c.isLt; have := d.isLt; have := d1.isLt
    rw [hfin]; split <;> omega
  have hv1 : v.toNat ≤ 1 := by rw [hfin]; split <;> omega
  have HV := Kp.mk hdn
  have HV1 := Kp.mk hv1
  have hk32 : (k : Int) ≤ 1 := by omega
  clear hd1 hd hnb hx hnx hy hz hu hv a5 hfin hdn
  go_enter Tryd.func66, Tryd.ntmps66
  go_wp2
  go_ret2
  exact ⟨d, v.toNat, ret2_int e2 rfl, HV1.out, HV.out, rfl⟩
set_option maxRecDepth 100000 in
theorem alu_sub (b c : BitVec 32) (k : Bool) (w : World) :
    Calls Tryd.prog 38 #[.int .u32 (b.toNat : Int), .int .u32 (c.toNat : Int), .bool k] w fun e w' => ∃ (s : BitVec 32) (o : Bool), e = .returned (.tuple #[.int .u32 (s.toNat : Int), .bool o]) ∧ s.toNat + c.toNat + Alu.cn k = b.toNat + 4294967296 * Alu.cn o ∧ w' = w := by
  have KT := Kp.mk (fun w => alu_truth k w)
  have e := Alu.tr_cn k
  have hk := Alu.cn_le k
  obtain ⟨n, hn⟩ : ∃ n, n = Alu.cn k := ⟨_, rfl⟩
  rw [← hn] at e hk
  rw [e] at KT
  rw [← hn]
  clear hn e
  go_enter Tryd.func38, Tryd.ntmps38
  go_wp2_with fail
  refine (KT.out _).mono ?_
  rintro e w1 ⟨rfl, rfl⟩
  go_wp2_with fail
  refine (bits_sub b c n _ hk).mono ?_
  rintro e w2 ⟨s, o, rfl, ho, hs, rfl⟩
  have HS := Kp.mk hs
  clear hs
  by_cases h1 : o = 1
  · subst h1
    go_wp2
    go_ret2
    exact ⟨s, true, rfl, HS.out, rfl⟩
  · have : o = 0 := by omega
    subst this
    go_wp2
    go_ret2
    exact ⟨s, false, rfl, HS.out, rfl⟩
theorem or_hi_lo (h l : Nat) (hl : l < 4294967296) (hh : h < 4294967296) : bits .or .u64 ((h : Int) * 4294967296) (l : Int) = ((h * 4294967296 + l : Nat) : Int) := by
  have e : (h : Int) * 4294967296 = ((h * 4294967296 : Nat) : Int) := by simp
  rw [e, u64_or_nat _ _ (by omega) (by omega)]
  congr 1
  rw [show h * 4294967296 = 2 ^ 32 * h by rw [Nat.mul_comm]]
  exact (Nat.two_pow_add_eq_or_of_lt (by simpa using hl) h).symm
set_option maxRecDepth 100000 in
theorem bits_div (h l c : BitVec 32) (w : World) (hc : h.toNat < c.toNat) :
    Calls Tryd.prog 55 #[.int .u32 (h.toNat : Int), .int .u32 (l.toNat : Int), .int .u32 (c.toNat : Int)] w fun e w' => ∃ q r : BitVec 32, e = .returned (.tuple #[.int .u32 (q.toNat : Int), .int .u32 (r.toNat : Int)]) ∧ q.toNat * c.toNat + r.toNat = h.toNat * 4294967296 + l.toNat ∧ r.toNat < c.toNat ∧ Drew w w' := by
  have h1 := h.isLt
  have l1 := l.isLt
  have c1 := c.isLt
  have hor := or_hi_lo h.toNat l.toNat l1 h1
  obtain ⟨Y, hY⟩ : ∃ Y, Y = h.toNat * 4294967296 + l.toNat := ⟨_, rfl⟩
  have hYc : Y < c.toNat * 4294967296 := by omega
  have hdm := Nat.div_add_mod' Y c.toNat
  have hml := Nat.mod_lt Y (y := c.toNat) (by omega)
  have hql : Y / c.toNat < 4294967296 := Nat.div_lt_of_lt_mul hYc
  obtain ⟨q, hq⟩ : ∃ q : BitVec 32, q.toNat = Y / c.toNat := ⟨BitVec.ofNat 32 (Y / c.toNat), by rw [BitVec.toNat_ofNat]; exact Nat.mod_eq_of_lt hql⟩
  obtain ⟨r, hr⟩ : ∃ r : BitVec 32, r.toNat = Y % c.toNat := ⟨BitVec.ofNat 32 (Y % c.toNat), by rw [BitVec.toNat_ofNat]; exact Nat.mod_eq_of_lt (by omega)⟩
  rw [← hY] at hor ⊢
  have hqi : (Y : Int) / (c.toNat : Int) = (q.toNat : Int) := by rw [hq]; simp
  have hri : (Y : Int) % (c.toNat : Int) = (r.toNat : Int) := by rw [hr]; simp
  have hqt : (Y : Int).tdiv (c.toNat : Int) = (q.toNat : Int) := by rw [Int.tdiv_eq_ediv_of_nonneg (by omega)]; exact hqi
  have hrt : (Y : Int).tmod (c.toNat : Int) = (r.toNat : Int) := by rw [Int.tmod_eq_emod_of_nonneg (by omega)]; exact hri
  rw [← hq, ← hr] at hdm
  rw [← hr] at hml
  have HD := Kp.mk hdm
  have HM := Kp.mk hml
  have hYb : (Y : Int) < 18446744073709551616 := by omega
  have hcz : ((c.toNat : Int) != 0) = true := by rw [bne_iff_ne]; omega
  have hle : decide ((c.toNat : Int) ≤ (h.toNat : Int)) = false := decide_eq_false (by omega)
  have hc0 : ¬ (c.toNat : Int) = 0 := by omega
  have hleN : decide (c.toNat ≤ h.toNat) = false := decide_eq_false (by omega)
  have hq1 := Alu.lt32 q
  have hr1 := Alu.lt32 r
  have hh1 := Alu.lt32 h
  have hl1 := Alu.lt32 l
  have hY0 : (0 : Int) ≤ (Y : Int) := by omega
  clear hY hYc hdm hml hql hq hr h1 l1 c1
  go_enter Tryd.func55, Tryd.ntmps55
  go_wp2
  go_quiet (fail)
  go_wp2
  go_ret2
  exact ⟨q, r, rfl, HD.out, HM.out, ⟨_, rfl⟩⟩
set_option maxRecDepth 100000 in
theorem alu_div (h l c : BitVec 32) (w : World) (hc : h.toNat < c.toNat) :
    Calls Tryd.prog 27 #[.int .u32 (h.toNat : Int), .int .u32 (l.toNat : Int), .int .u32 (c.toNat : Int)] w fun e w' => ∃ q r : BitVec 32, e = .returned (.tuple #[.int .u32 (q.toNat : Int), .int .u32 (r.toNat : Int), .nilIface]) ∧ q.toNat * c.toNat + r.toNat = h.toNat * 4294967296 + l.toNat ∧ r.toNat < c.toNat ∧ Drew w w' := by
  have K := Kp.mk (fun w => bits_div h l c w hc)
  have hz : ((c.toNat : Int) == 0) = false := by simp; omega
  have hle : decide ((c.toNat : Int) ≤ (h.toNat : Int)) = false := decide_eq_false (by omega)
  have hleN : decide (c.toNat ≤ h.toNat) = false := decide_eq_false (by omega)
  clear hc
  go_enter Tryd.func27, Tryd.ntmps27
  go_wp2_with fail
  refine (K.out _).mono ?_
  rintro e w1 ⟨q, r, rfl, h1, h2, hd⟩
  have H1 := Kp.mk h1
  have H2 := Kp.mk h2
  have HD := Kp.mk hd
  clear h1 h2 hd
  go_wp2
  go_ret3
  exact ⟨q, r, rfl, H1.out, H2.out, HD.out⟩
set_option maxRecDepth 100000 in
theorem alu_div_zero (A : Nat → Addr) (h l c : BitVec 32) (w : World) (hE : Errs w [20] A) (hc : c = 0#32) :
    Calls Tryd.prog 27 #[.int .u32 (h.toNat : Int), .int .u32 (l.toNat : Int), .int .u32 (c.toNat : Int)] w fun e w' => e = .returned (.tuple #[.int .u32 0, .int .u32 0, errv (A 20)]) ∧ Drew w w' := by
  have HE' : w.cell? ⟨11, 0, none⟩ = some (errv (A 20)) := hE.cell 20 (by simp)
  have hz : ((c.toNat : Int) == 0) = true := by rw [hc]; rfl
  clear hc hE
  go_enter Tryd.func27, Tryd.ntmps27
  go_wp2
  go_region
  all_goals (go_wp2; go_ret3; exact ⟨rfl, Drew.once _⟩)
end Go.Proofs.YtpihlaeioepbpaaDoor
