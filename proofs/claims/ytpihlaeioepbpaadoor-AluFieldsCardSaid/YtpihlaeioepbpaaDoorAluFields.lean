/- 'AluFields', walked: what is placed is found, nothing else touched. -/
import Derived.Test.YtpihlaeioepbpaaDoorFieldPure
import Derived.Test.YtpihlaeioepbpaaDoorAluDo
namespace Go.Proofs.YtpihlaeioepbpaaDoor
open Go Go.RowKit
set_option linter.unusedVariables false

set_option maxHeartbeats 2000000 in
set_option maxRecDepth 100000 in
theorem law_AluFields (x : BitVec 32) (p q : Int) (w : World) (_p0 : -9223372036854775808 ≤ p) (_p1 : p ≤ 9223372036854775807) (_q0 : -9223372036854775808 ≤ q) (_q1 : q ≤ 9223372036854775807) :
    Calls Tryd.prog 6 #[.int .u32 (x.toNat : Int), .int .i64 p, .int .i64 q] w fun e w' => e = .returned (.bool true) ∧ Below w.heap.size w w' := by
  obtain ⟨P, hP⟩ : ∃ P : Nat, IntKind.u64.wrap p = (P : Int) := ⟨(IntKind.u64.wrap p).toNat, by rw [IntKind.wrap_u64]; omega⟩
  obtain ⟨Q, hQ⟩ : ∃ Q : Nat, IntKind.u64.wrap q = (Q : Int) := ⟨(IntKind.u64.wrap q).toNat, by rw [IntKind.wrap_u64]; omega⟩
  obtain ⟨lo, hlo⟩ : ∃ lo : Nat, lo = P % 32 := ⟨_, rfl⟩
  obtain ⟨m, hm⟩ : ∃ m : Nat, m = 32 - lo := ⟨_, rfl⟩
  obtain ⟨n1, hn1⟩ : ∃ n1 : Nat, n1 = Q % m := ⟨_, rfl⟩
  have hlo1 : lo ≤ 31 := by omega
  have hm1 : (32 : Int) - (lo : Int) = (m : Int) := by omega
  have hm0 : 1 ≤ m := by omega
  have hn2 : n1 < m := by rw [hn1]; exact Nat.mod_lt _ hm0
  have hmod : (P : Int) % 32 = (lo : Int) := by omega
  have hmodt : (P : Int).tmod 32 = (lo : Int) := by rw [Int.tmod_eq_emod_of_nonneg (by omega)]; omega
  have hmodq : (Q : Int) % (m : Int) = (n1 : Int) := by rw [hn1]; rfl
  have hmodqt : (Q : Int).tmod (m : Int) = (n1 : Int) := by rw [Int.tmod_eq_emod_of_nonneg (by omega)]; exact hmodq
  have hmz : ¬ (m : Int) = 0 := by omega
  have hl32 : n1 + 1 + lo ≤ 32 := by omega
  have HQ : Kp (q = q) := ⟨rfl⟩
  have hm32 : m ≤ 32 := by omega
  obtain ⟨n, hn⟩ : ∃ n : Nat, n = 1 + n1 := ⟨_, rfl⟩
  have hni : 1 + (n1 : Int) = (n : Int) := by omega
  have hni' : (n : Int) - 1 = (n1 : Int) := by omega
  have hnlo : n + lo ≤ 32 := by omega
  have hn1' : 1 ≤ n := by omega
  obtain ⟨f, hf⟩ : ∃ f, f = Alu.fieldOf x lo n := ⟨_, rfl⟩
  obtain ⟨z, hz⟩ : ∃ z, z = Alu.placeOf x lo n 0#32 := ⟨_, rfl⟩
  obtain ⟨s, hs⟩ : ∃ s, s = Alu.sextOf f n := ⟨_, rfl⟩
  obtain ⟨t, ht⟩ : ∃ t, t = Alu.fieldOf f n1 1 := ⟨_, rfl⟩
  obtain ⟨fs, hfs⟩ : ∃ fs, fs = f <<< lo := ⟨_, rfl⟩
  obtain ⟨X, hX⟩ : ∃ X, X = x.toInt := ⟨_, rfl⟩
  obtain ⟨S, hS⟩ : ∃ S, S = s.toInt := ⟨_, rfl⟩
  have eo : (BitVec.ofNat 32 lo).toNat = lo := by rw [BitVec.toNat_ofNat]; omega
  have C1 := Kp.mk (fun w => alu_field_of x lo n f hlo1 hn1' hnlo hf.symm w)
  have C2 := Kp.mk (fun w => alu_place_of x lo n f x hlo1 hn1' hnlo (by rw [hf]; exact Alu.field_le x lo n) (by rw [hf]; exact Alu.place_field x lo n) w)
  have C3 := Kp.mk (fun w => alu_place_of x lo n 0#32 z hlo1 hn1' hnlo (by simp) hz.symm w)
  have C4 := Kp.mk (fun w => alu_place_of z lo n f x hlo1 hn1' hnlo (by rw [hf]; exact Alu.field_le x lo n) (by rw [hf, hz]; exact Alu.place_twice x lo n) w)
  have C5 := Kp.mk (fun w => alu_field_of z lo n 0#32 hlo1 hn1' hnlo (by rw [hz]; exact Alu.field_cleared x lo n hnlo) w)
  have C6 : Kp (∀ w, Calls Tryd.prog 12 #[.int .i64 6, .int .u32 (f.toNat : Int), .int .u32 (lo : Int)] w fun e w' => e = .returned (.int .u32 (fs.toNat : Int)) ∧ w = w') := ⟨fun w => by
    have := law_do_to 6 f (BitVec.ofNat 32 lo) fs w (by omega) (by omega) (by
      rw [hfs]; show f <<< ((BitVec.ofNat 32 lo).toNat % 32) = _; rw [eo, Nat.mod_eq_of_lt (by omega)])
    rw [eo] at this
    exact this⟩
  have C7 := Kp.mk (fun w => law_do_to 4 z fs x w (by omega) (by omega) (by rw [hz, hfs, hf]; exact Alu.or_field x lo n hnlo))
  have C8 := Kp.mk (fun w => law_do_to 3 z fs 0#32 w (by omega) (by omega) (by rw [hz, hfs, hf]; exact Alu.and_field x lo n hnlo))
  have C9 := Kp.mk (fun w => alu_sext_of f n s hn1' (by omega) hs.symm w)
  have S1 := fun w => alu_signed x w
  rw [← hX] at S1
  have CX := Kp.mk S1
  have S2 := fun w => alu_signed s w
  rw [← hS] at S2
  have CS := Kp.mk S2
  have hXb : -2147483648 ≤ X ∧ X < 2147483648 := by rw [hX]; exact ⟨Alu.toInt_lo x, Alu.toInt_hi x⟩
  have C10 := Kp.mk (fun w => alu_word_of X x hXb.1 (by omega) (by rw [hX]; exact BitVec.ofInt_toInt) w)
  have C11 := Kp.mk (fun w => alu_word_of (x.toNat : Int) x (by omega) (by have := x.isLt; omega) (by rw [BitVec.ofInt_natCast, BitVec.ofNat_toNat, BitVec.setWidth_eq]) w)
  have C12 := Kp.mk (fun w => alu_field_of s 0 n f (by omega) hn1' (by omega) (by rw [hs]; exact Alu.sext_field f n hn1' (by omega) (fun i hi => by rw [hf]; exact Alu.field_high x lo n i hi)) w)
  have C13 := Kp.mk (fun w => alu_field_of f n1 1 t (by omega) (by omega) (by omega) ht.symm w)
  have HSG : Kp (decide (S < 0) = ((t.toNat : Int) == 1)) := ⟨by
    have e := Alu.sext_sign f n hn1' (by omega)
    rw [show n - 1 = n1 by omega, ← ht, ← hs, ← hS] at e
    rw [e, Bool.eq_iff_iff]
    simp only [decide_eq_true_eq, beq_iff_eq]
    omega⟩
  have hX1 : decide (X < -2147483648) = false := decide_eq_false (by omega)
  have hX2 : decide (2147483647 < X) = false := decide_eq_false (by omega)
  clear hf hz hs ht hfs hX hS eo S1 S2 hXb hn hnlo hn1'
  clear hlo hm hn1 _p0 _p1 _q0 _q1
  go_enter Tryd.func6, Tryd.ntmps6
  go_wp2_with fail
  refine (alu_place_of 305419896#32 8 8 255#32 305463160#32 (by omega) (by omega) (by omega) (by decide) (by decide) _).mono ?_
  rintro e w1 ⟨rfl, hd⟩
  have D1 := Kp.mk hd
  clear hd
  go_wp2_with fail
  refine (C1.out _).mono ?_
  rintro e w2 ⟨rfl, hd⟩
  have D2 := Kp.mk (Drew.trans D1.out hd)
  clear hd
  go_wp2_with fail
  refine (C2.out _).mono ?_
  rintro e w3 ⟨rfl, hd⟩
  have D3 := Kp.mk (Drew.trans D2.out hd)
  clear hd
  go_wp2_with fail
  refine (C3.out _).mono ?_
  rintro e w4 ⟨rfl, hd⟩
  have D4 := Kp.mk (Drew.trans D3.out hd)
  clear hd
  go_wp2_with fail
  refine (C4.out _).mono ?_
  rintro e w5 ⟨rfl, hd⟩
  have D5 := Kp.mk (Drew.trans D4.out hd)
  clear hd
  go_wp2_with fail
  refine (C5.out _).mono ?_
  rintro e w6 ⟨rfl, hd⟩
  have D6 := Kp.mk (Drew.trans D5.out hd)
  clear hd
  go_wp2_with fail
  refine (C6.out _).mono ?_
  rintro e w7 ⟨rfl, rfl⟩
  go_wp2_with fail
  refine (C7.out _).mono ?_
  rintro e w8 ⟨rfl, rfl⟩
  go_wp2_with fail
  refine (C6.out _).mono ?_
  rintro e w9 ⟨rfl, rfl⟩
  go_wp2_with fail
  refine (C8.out _).mono ?_
  rintro e w10 ⟨rfl, rfl⟩
  go_wp2_with fail
  refine (C9.out _).mono ?_
  rintro e w11 ⟨rfl, rfl⟩
  go_wp2_with fail
  refine (CX.out _).mono ?_
  rintro e w12 ⟨rfl, rfl⟩
  go_wp2_with fail
  refine (C10.out _).mono ?_
  rintro e w13 ⟨rfl, rfl⟩
  go_wp2_with fail
  refine (C11.out _).mono ?_
  rintro e w14 ⟨rfl, rfl⟩
  go_wp2_with fail
  refine (C12.out _).mono ?_
  rintro e w15 ⟨rfl, hd⟩
  have D15 := Kp.mk (Drew.trans D6.out hd)
  clear hd
  go_wp2_with fail
  refine (C13.out _).mono ?_
  rintro e w16 ⟨rfl, hd⟩
  have D16 := Kp.mk (Drew.trans D15.out hd)
  clear hd
  go_wp2_with fail
  refine (CS.out _).mono ?_
  rintro e w17 ⟨rfl, rfl⟩
  have hsg := HSG.out
  go_wp2
  go_ret
  exact ⟨ret_bool (by simp), D16.out.below⟩
end Go.Proofs.YtpihlaeioepbpaaDoor
