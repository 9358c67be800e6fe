/- 'AluWides', walked: every AddCarry, SubBorrow, MulWide, DivWide, Rotate, Ones and Lead. -/
import Derived.Test.YtpihlaeioepbpaaDoorWidesRef5
import Derived.Test.YtpihlaeioepbpaaDoorLongWalk
import Derived.Test.YtpihlaeioepbpaaDoorAluCuts
import Derived.Test.YtpihlaeioepbpaaDoorAluWalk3
namespace Go.Proofs.YtpihlaeioepbpaaDoor
open Go Go.RowKit
set_option linter.unusedVariables false

theorem wide_add (b c : BitVec 32) (k : Bool) : ∃ (s : BitVec 32) (o : Bool),
    (∀ w, Calls Tryd.prog 28 #[.int .u32 (b.toNat : Int), .int .u32 (c.toNat : Int), .bool k] w fun e w' => e = .returned (.tuple #[.int .u32 (s.toNat : Int), .bool o]) ∧ Below w.heap.size w w') ∧
    (∀ w, Calls Tryd.prog 37 #[.int .u32 (b.toNat : Int), .int .u32 (c.toNat : Int), .bool k] w fun e w' => e = .returned (.tuple #[.int .u32 (s.toNat : Int), .bool o]) ∧ Below w.heap.size w w') :=
  ⟨_, _, fun w => (alu_add_is b c k w).mono fun e w' h => ⟨h.1, by rw [h.2]; exact Below.refl _ _⟩, fun w => ref_addc b c k w⟩
theorem wide_sub (b c : BitVec 32) (k : Bool) : ∃ (s : BitVec 32) (o : Bool),
    (∀ w, Calls Tryd.prog 38 #[.int .u32 (b.toNat : Int), .int .u32 (c.toNat : Int), .bool k] w fun e w' => e = .returned (.tuple #[.int .u32 (s.toNat : Int), .bool o]) ∧ Below w.heap.size w w') ∧
    (∀ w, Calls Tryd.prog 39 #[.int .u32 (b.toNat : Int), .int .u32 (c.toNat : Int), .bool k] w fun e w' => e = .returned (.tuple #[.int .u32 (s.toNat : Int), .bool o]) ∧ Below w.heap.size w w') := by
  refine ⟨(Alu.adc b (~~~c) (!k)).1, !(Alu.adc b (~~~c) (!k)).2, fun w => (alu_sub b c k w).mono ?_, fun w => ref_subb b c k w⟩
  rintro e w' ⟨s, o, rfl, hs, rfl⟩
  obtain ⟨e1, e2⟩ := Alu.sub_adc b c k hs
  exact ⟨by rw [e1, e2], Below.refl _ _⟩
theorem hilo_unique {h l h2 l2 : BitVec 32} {n : Nat} (e1 : h.toNat * 4294967296 + l.toNat = n) (e2 : h2.toNat * 4294967296 + l2.toNat = n) : h = h2 ∧ l = l2 := by
  have := l.isLt
  have := l2.isLt
  exact ⟨BitVec.eq_of_toNat_eq (by omega), BitVec.eq_of_toNat_eq (by omega)⟩
theorem wide_mul (b c : BitVec 32) : ∃ h l : BitVec 32,
    (∀ w, Calls Tryd.prog 24 #[.int .u32 (b.toNat : Int), .int .u32 (c.toNat : Int)] w fun e w' => e = .returned (.tuple #[.int .u32 (h.toNat : Int), .int .u32 (l.toNat : Int)]) ∧ Below w.heap.size w w') ∧
    (∀ w, Calls Tryd.prog 40 #[.int .u32 (b.toNat : Int), .int .u32 (c.toNat : Int)] w fun e w' => e = .returned (.tuple #[.int .u32 (h.toNat : Int), .int .u32 (l.toNat : Int)]) ∧ Below w.heap.size w w') := by
  have hP2 : b.toNat * c.toNat ≤ 4294967295 * 4294967295 := Nat.mul_le_mul (by have := b.isLt; omega) (by have := c.isLt; omega)
  have hs : (BitVec.ofNat 32 (b.toNat * c.toNat / 4294967296)).toNat * 4294967296 + (BitVec.ofNat 32 (b.toNat * c.toNat)).toNat = b.toNat * c.toNat := by
    rw [BitVec.toNat_ofNat, BitVec.toNat_ofNat]
    generalize b.toNat * c.toNat = P at *
    omega
  refine ⟨BitVec.ofNat 32 (b.toNat * c.toNat / 4294967296), BitVec.ofNat 32 (b.toNat * c.toNat), fun w => (alu_mul b c w).mono ?_, fun w => (ref_mul b c w).mono ?_⟩
  · rintro e w' ⟨h, l, rfl, h1, rfl⟩
    obtain ⟨rfl, rfl⟩ := hilo_unique h1 hs
    exact ⟨rfl, Below.refl _ _⟩
  · rintro e w' ⟨⟨h, l, rfl, h1⟩, hb⟩
    obtain ⟨rfl, rfl⟩ := hilo_unique h1 hs
    exact ⟨rfl, hb⟩
theorem wide_div (A : Nat → Addr) (h l c : BitVec 32) : ∃ (q r : BitVec 32) (d : Nat), d ≤ 20 ∧
    (∀ w, Errs w allCodes A → Calls Tryd.prog 27 #[.int .u32 (h.toNat : Int), .int .u32 (l.toNat : Int), .int .u32 (c.toNat : Int)] w fun e w' => e = .returned (.tuple #[.int .u32 (q.toNat : Int), .int .u32 (r.toNat : Int), errOf A d]) ∧ Below w.heap.size w w') ∧
    (∀ w, Calls Tryd.prog 41 #[.int .u32 (h.toNat : Int), .int .u32 (l.toNat : Int), .int .u32 (c.toNat : Int)] w fun e w' => e = .returned (.tuple #[.int .u32 (q.toNat : Int), .int .u32 (r.toNat : Int), .int .i64 (d : Int)]) ∧ Below w.heap.size w w') := by
  by_cases hc : c = 0#32
  · exact ⟨0#32, 0#32, 20, by omega, fun w hE => (alu_div_zero A h l c w (hE.sub (by decide)) hc).mono fun e w' h => ⟨h.1, h.2.below⟩, fun w => (ref_div_zero h l c w hc).mono fun e w' h => ⟨h.1, by rw [h.2]; exact Below.refl _ _⟩⟩
  · by_cases hh : c.toNat ≤ h.toNat
    · exact ⟨0#32, 0#32, 4, by omega, fun w hE => (alu_div_big A h l c w (hE.sub (by decide)) hc hh).mono fun e w' h => ⟨h.1, h.2.below⟩, fun w => (ref_div_big h l c w hc hh).mono fun e w' h => ⟨h.1, by rw [h.2]; exact Below.refl _ _⟩⟩
    · have hlt : h.toNat < c.toNat := by omega
      have hq : (h.toNat * 4294967296 + l.toNat) / c.toNat < 4294967296 := by
        rw [Nat.div_lt_iff_lt_mul (by omega)]
        have h2 : (h.toNat + 1) * 4294967296 ≤ c.toNat * 4294967296 := Nat.mul_le_mul_right _ hlt
        have := l.isLt
        rw [Nat.mul_comm 4294967296]
        omega
      have hr : (h.toNat * 4294967296 + l.toNat) % c.toNat < c.toNat := Nat.mod_lt _ (by omega)
      have hcl := c.isLt
      have e1 : (BitVec.ofNat 32 ((h.toNat * 4294967296 + l.toNat) / c.toNat)).toNat = (h.toNat * 4294967296 + l.toNat) / c.toNat := by rw [BitVec.toNat_ofNat]; exact Nat.mod_eq_of_lt hq
      have e2 : (BitVec.ofNat 32 ((h.toNat * 4294967296 + l.toNat) % c.toNat)).toNat = (h.toNat * 4294967296 + l.toNat) % c.toNat := by rw [BitVec.toNat_ofNat]; exact Nat.mod_eq_of_lt (by omega)
      have e3 := Nat.div_add_mod' (h.toNat * 4294967296 + l.toNat) c.toNat
      have key : ∀ q r : BitVec 32, q.toNat * c.toNat + r.toNat = h.toNat * 4294967296 + l.toNat → r.toNat < c.toNat → q = BitVec.ofNat 32 ((h.toNat * 4294967296 + l.toNat) / c.toNat) ∧ r = BitVec.ofNat 32 ((h.toNat * 4294967296 + l.toNat) % c.toNat) := fun q r h1 h2 => by
        obtain ⟨a1, a2⟩ := Alu.quot_unique c.toNat q.toNat r.toNat _ _ h2 hr (h1.trans e3.symm)
        exact ⟨BitVec.eq_of_toNat_eq (by rw [a1, e1]), BitVec.eq_of_toNat_eq (by rw [a2, e2])⟩
      refine ⟨BitVec.ofNat 32 ((h.toNat * 4294967296 + l.toNat) / c.toNat), BitVec.ofNat 32 ((h.toNat * 4294967296 + l.toNat) % c.toNat), 0, by omega, fun w hE => (alu_div h l c w hlt).mono ?_, fun w => (ref_div h l c w hlt).mono ?_⟩
      · rintro e w' ⟨q, r, rfl, h1, h2, hd⟩
        obtain ⟨a1, a2⟩ := key q r h1 h2
        exact ⟨by rw [a1, a2]; rfl, hd.below⟩
      · rintro e w' ⟨⟨q, r, rfl, h1, h2⟩, hb⟩
        obtain ⟨a1, a2⟩ := key q r h1 h2
        exact ⟨by rw [a1, a2]; rfl, hb⟩
theorem drawn_then {w w2 : World} {q : Nat} (h : Below (w.drewN q).heap.size (w.drewN q) w2) : Below w.heap.size w w2 :=
  (Drew.below (w := w) ⟨q, rfl⟩).trans (h.mono (Drew.below (w := w) ⟨q, rfl⟩).size)
theorem cutsW {w w' : World} {b o : Nat} {c : CutV} (h : w.rangeAt b o c.row) (hb : Below w.heap.size w w') :
    w'.cell? ⟨b, o, none⟩ = some (.int .u32 (c.x.toNat : Int)) ∧ w'.cell? ⟨b, o + 1, none⟩ = some (.int .i64 c.lo) ∧ w'.cell? ⟨b, o + 2, none⟩ = some (.int .i64 c.n) ∧ w'.cell? ⟨b, o + 3, none⟩ = some (.int .u32 (c.v.toNat : Int)) ∧ w'.cell? ⟨b, o + 4, none⟩ = some (.int .i64 c.num) := by
  have h2 := range_later h hb
  exact ⟨h2 0 _ rfl, h2 1 _ rfl, h2 2 _ rfl, h2 3 _ rfl, h2 4 _ rfl⟩
theorem heldW {w w' : World} {b o : Nat} {c : CutV} (h : w.rangeAt b o c.row) (hb : Below w.heap.size w w') : Below w.heap.size w w' ∧ w'.cell? ⟨b, o + 2, none⟩ = some (.int .i64 c.n) := ⟨hb, (cutsW h hb).2.2.1⟩
set_option maxRecDepth 100000 in
set_option maxHeartbeats 4000000 in
theorem law_AluWides (A : Nat → Addr) (a : Option Addr) (n cap : Nat) (C : Nat → CutV) (w : World) (h : RdC w a n cap C) (hE : Errs w allCodes A) (hT : TypeVar w) :
    Calls Tryd.prog 11 #[.slice a n cap] w fun e w' => e = .returned (.bool true) ∧ Below w.heap.size w w' := by
  have H0 := Kp.mk h
  have HE0 := Kp.mk hE
  have HT0 := Kp.mk hT
  have hn := h.bound
  clear h hE hT
  go_enter Tryd.func11, Tryd.ntmps11
  go_wp2_with fail
  refine (alu_mul 4294967295#32 4294967295#32 _).mono ?_
  rintro e w1 ⟨h, l, rfl, hs, hw⟩
  obtain rfl := hw.symm
  obtain ⟨rfl, rfl⟩ := hilo_unique (h2 := 4294967294#32) (l2 := 1#32) hs rfl
  clear hs hw
  go_wp2
  go_loopw [5] (fun i wr => ∃ k : Nat, k ≤ n ∧ i = .int .i64 k ∧ Kp (Below w.heap.size w wr)) (fun i _ => n - (intOf i).toNat)
  case atStart => exact ⟨0, by omega, rfl, ⟨Below.refl _ _⟩⟩
  case round =>
    obtain ⟨k, hk, rfl, HB⟩ := hrel
    obtain ⟨w2, rfl⟩ : ∃ w2 : World, w2 = wr := ⟨_, rfl⟩
    by_cases hlt : k < n
    · have hbt : decide ((k : Int) < n) = true := decide_eq_true (by omega)
      have hk0 : (0 : Int) ≤ (k : Int) := by omega
      have hkn : (k : Int) < (n : Int) := by omega
      obtain ⟨b, off, rfl, hc⟩ := H0.out.cells (by omega)
      have HC := Kp.mk (range_later (hc k hlt) HB.out)
      obtain ⟨c, hcc⟩ : ∃ c, c = C k := ⟨_, rfl⟩
      rw [← hcc] at HC
      have HWF : Kp c.wf := ⟨by rw [hcc]; exact H0.out.wf k hlt⟩
      obtain ⟨y0, y1, y2, y3, y4⟩ := cutsW HC.out (Below.refl _ _)
      obtain ⟨odd, hodd⟩ : ∃ odd, odd = (bits .and .i64 c.lo 1 == 1) := ⟨_, rfl⟩
      have hodd' := hodd.symm
      obtain ⟨u, hu⟩ : ∃ u, u = BitVec.ofInt 32 c.num := ⟨_, rfl⟩
      have hnum := Alu.toNat_ofInt c.num
      rw [← hu] at hnum
      clear hc hcc hodd hu
      go_wp2
      go_quiet (fail)
      obtain ⟨z1, o1, a1, r1⟩ := wide_add c.x c.v odd
      obtain ⟨z2, o2, a2, r2⟩ := wide_sub c.x c.v odd
      obtain ⟨h3, l3, a3, r3⟩ := wide_mul c.x c.v
      obtain ⟨q4, r4, d4, hd4, a4, s4⟩ := wide_div A c.x c.v u
      have A1 := Kp.mk a1; have R1 := Kp.mk r1
      have A2 := Kp.mk a2; have R2 := Kp.mk r2
      have A3 := Kp.mk a3; have R3 := Kp.mk r3
      have A4 := Kp.mk a4; have R4 := Kp.mk s4
      have hz1 : ((z1.toNat : Int) != (z1.toNat : Int)) = false := by simp
      have hz2 : ((z2.toNat : Int) != (z2.toNat : Int)) = false := by simp
      have hz3 : ((h3.toNat : Int) != (h3.toNat : Int)) = false := by simp
      have hz4 : ((l3.toNat : Int) != (l3.toNat : Int)) = false := by simp
      have hz5 : ((q4.toNat : Int) != (q4.toNat : Int)) = false := by simp
      have hz6 : ((r4.toNat : Int) != (r4.toNat : Int)) = false := by simp
      have hz7 : ((d4 : Int) != (d4 : Int)) = false := by simp
      have ho1 : (o1 != o1) = false := by simp
      have ho2 : (o2 != o2) = false := by simp
      clear a1 r1 a2 r2 a3 r3 a4 s4
      go_wp2_with fail
      refine (A1.out _).mono ?_
      rintro e w4 ⟨rfl, hb⟩
      have D4 := Kp.mk (drawn_then hb)
      clear hb y0 y1 y2 y3 y4
      go_wp2_with fail
      refine (R1.out _).mono ?_
      rintro e w5 ⟨rfl, hb⟩
      have D5 := Kp.mk (D4.out.trans (hb.mono D4.out.size))
      clear hb
      go_wp2_with fail
      refine (A2.out _).mono ?_
      rintro e w6 ⟨rfl, hb⟩
      have D6 := Kp.mk (D5.out.trans (hb.mono D5.out.size))
      clear hb
      go_wp2_with fail
      refine (R2.out _).mono ?_
      rintro e w7 ⟨rfl, hb⟩
      have D7 := Kp.mk (D6.out.trans (hb.mono D6.out.size))
      clear hb
      go_wp2_with fail
      refine (A3.out _).mono ?_
      rintro e w8 ⟨rfl, hb⟩
      have D8 := Kp.mk (D7.out.trans (hb.mono D7.out.size))
      clear hb
      go_wp2_with fail
      refine (R3.out _).mono ?_
      rintro e w9 ⟨rfl, hb⟩
      have D9 := Kp.mk (D8.out.trans (hb.mono D8.out.size))
      clear hb
      go_wp2_with fail
      refine (A4.out _ (HE0.out.later (HB.out.trans (D9.out.mono HB.out.size)))).mono ?_
      rintro e w10 ⟨rfl, hb⟩
      have D10 := Kp.mk (D9.out.trans (hb.mono D9.out.size))
      clear hb
      go_wp2_with fail
      refine (R4.out _).mono ?_
      rintro e w11 ⟨rfl, hb⟩
      have D11 := Kp.mk (D10.out.trans (hb.mono D10.out.size))
      clear hb
      go_wp2_with fail
      refine (law_code A d4 _ hd4 (HE0.out.later (HB.out.trans (D11.out.mono HB.out.size))) (HT0.out.later (HB.out.trans (D11.out.mono HB.out.size)))).mono ?_
      rintro e w12 ⟨rfl, hb⟩
      have D12 := Kp.mk (D11.out.trans (hb.mono D11.out.size))
      clear hb
      have HR := Kp.mk (range_later HC.out D12.out)
      have hrr : ((((c.x.rotateLeft (c.n % 32).toNat).toNat : Nat) : Int) != (((c.x.rotateLeft (c.n % 32).toNat).toNat : Nat) : Int)) = false := by simp
      obtain ⟨z5, hz5'⟩ : ∃ z5, z5 = c.x.rotateLeft (c.n % 32).toNat := ⟨_, rfl⟩
      have AR := fun w => alu_rotate c.x c.n w HWF.out.2.1.1 HWF.out.2.1.2
      have RR := fun w => ref_rotate c.x c.n w HWF.out.2.1.1 HWF.out.2.1.2
      rw [← hz5'] at AR RR hrr
      have KAR := Kp.mk AR
      have KRR := Kp.mk RR
      obtain ⟨z6, hz6'⟩ : ∃ z6, z6 = Alu.ones c.x := ⟨_, rfl⟩
      have AO := fun w => alu_ones c.x w
      have RO := fun w => ref_ones c.x w
      rw [← hz6'] at AO RO
      have KAO := Kp.mk AO
      have KRO := Kp.mk RO
      obtain ⟨z7, hz7'⟩ : ∃ z7 : Int, z7 = 32 - (Lib.bitLen c.x.toNat : Int) := ⟨_, rfl⟩
      have AL := fun w => alu_lead c.x w
      have RL := fun w => ref_lead c.x w
      rw [← hz7'] at AL RL
      have KAL := Kp.mk AL
      have KRL := Kp.mk RL
      have hoo : ((z6 : Int) != (z6 : Int)) = false := by simp
      have hll : (z7 != z7) = false := by simp
      clear hz5' hz6' hz7' AR RR AO RO AL RL
      obtain ⟨wb, rfl⟩ : ∃ wb : World, wb = w12 := ⟨_, rfl⟩
      obtain ⟨y0, y1, y2, y3, y4⟩ := cutsW HR.out (Below.refl _ _)
      clear y0 y1 y3 y4
      go_wp2
      go_region_held3 (fun v => Below wb.heap.size wb v ∧ v.cell? ⟨b, off + k * 5 + 2, none⟩ = some (.int .i64 c.n)) (first | assumption | exact heldW HR.out (Drew.once wb).below | exact heldW HR.out ((And.left ‹Below wb.heap.size wb _ ∧ _›).trans (hb9.mono (And.left ‹Below wb.heap.size wb _ ∧ _›).size))) (first
        | (go_at_call 15; refine (KAR.out _).mono ?_; rintro e w' ⟨rfl, rfl⟩)
        | (go_at_call 42; refine (KRR.out _).mono ?_; rintro e w' ⟨rfl, hb9⟩)
        | (go_at_call 16; refine (KAO.out _).mono ?_; rintro e w' ⟨rfl, hd9⟩; have hb9 := hd9.below)
        | (go_at_call 43; refine (KRO.out _).mono ?_; rintro e w' ⟨rfl, hb9⟩)
        | (go_at_call 17; refine (KAL.out _).mono ?_; rintro e w' ⟨rfl, rfl⟩)
        | (go_at_call 44; refine (KRL.out _).mono ?_; rintro e w' ⟨rfl, hb9⟩))
      all_goals (
        have HBE := Kp.mk (HB.out.trans ((D12.out.trans ((And.left ‹Below wb.heap.size wb _ ∧ _›).mono D12.out.size)).mono HB.out.size))
        go_wp2
        go_roundw
        case rel => exact ⟨k + 1, (by omega), (by go_num), HBE⟩
        case measure => simp [intOf]; omega)
    · have : k = n := by omega
      subst this
      have hbt : decide ((k : Int) < (k : Int)) = false := decide_eq_false (by omega)
      go_wp2
      go_ret
      exact ⟨rfl, HB.out⟩
end Go.Proofs.YtpihlaeioepbpaaDoor
