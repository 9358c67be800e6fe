/- The document's Out, walked; the program's Out in one contract. -/
import Derived.Test.YtkkclkmiaenipaaDoorRefIn
import Derived.Test.YtkkclkmiaenipaaDoorPageClean
import Derived.Laws.BytesArg
namespace Go.Proofs.YtkkclkmiaenipaaDoor
open Go Go.RowKit
set_option linter.unusedVariables false

/-- What Out tells. -/
def outS (P : Nat → PageV) (n ad k : Nat) : ByteArray := bif decide (spanF P n ad 0 k = 0) then mkS (outL P ad k) else ⟨#[]⟩
theorem outS_yes {P : Nat → PageV} {n ad k : Nat} (h : spanF P n ad 0 k = 0) : outS P n ad k = mkS (outL P ad k) := by simp [outS, h]
theorem outS_no {P : Nat → PageV} {n ad k : Nat} (h : spanF P n ad 0 k ≠ 0) : outS P n ad k = ⟨#[]⟩ := by simp [outS, h]
theorem page_out (a : Option Addr) (n cap : Nat) (P : Nat → PageV) (w : World) (h : RdP w a n cap P) (ad k : Nat) (had : ad < 4294967296) (hk : k < 9223372036854775808) :
    Calls Tryd.prog 14 #[.slice a n cap, .int .u32 (ad : Int), .int .i64 (k : Int)] w fun e w' => e = .returned (.tuple #[.string (outS P n ad k), .int .i64 (spanF P n ad 0 k : Nat), .nilIface]) ∧ Below w.heap.size w w' := by
  by_cases h0 : spanF P n ad 0 k = 0
  · rw [outS_yes h0, h0]
    exact page_out_yes a n cap P w h ad k had hk h0
  · rw [outS_no h0]
    refine (page_out_no a n cap P w h ad k had hk h0).mono ?_
    rintro e w' ⟨rfl, hw⟩
    obtain rfl := hw.symm
    exact ⟨rfl, Below.refl _ _⟩
/-- A string of the call's own bytes. -/
theorem conv_any {w : World} {B : Nat} {v : Value} {l : List (BitVec 8)} {n : Nat} (h : w.ownsRow B 5 1 v n (bv l)) : (convert 80 9 v).run Tryd.prog w = .ok (.string (mkS l)) w := by
  have hl : l.length = n := by have := h.1; rw [bv_length] at this; omega
  rcases h.2 with ⟨hv, h0⟩ | ⟨g, cap, cur, hv, _⟩
  · subst hv
    have : l = [] := List.eq_nil_of_length_eq_zero (by omega)
    subst this
    rw [run_convert_bytes_nil (P := Tryd.prog) w 80 5 Tryd.underlying80 Tryd.underlying5 0 0 9 Tryd.underlying9]
    rfl
  · subst hv
    exact conv_own h
/-- Appending one byte. -/
theorem append_one {w : World} {ops : Array Oper} {rest : List Oper} {o : Oper} {a : Act} {Q : Exit → Act → World → Prop} (hgd : o.guard = none) (s x : Operand)
    (ho : o.op = .call { callee := .builtin .append, args := #[s, x], argTypes := #[80, 80] })
    (w0 : World) (c : BitVec 8) (ci : Int) (hci : ci = (c.toNat : Int)) (hw : w = w0.alloc (.cells #[.int .u8 ci] 5))
    (base : Nat) (v : Value) (n : Nat) (l : List (BitVec 8)) (hs : a.eval s = v) (hown : w0.ownsRow base 5 1 v n (bv l)) (hx : a.eval x = .slice (some ⟨w0.heap.size, 0, none⟩) 1 1)
    (hl : n + 1 ≤ 140737488355328) (hbase : base ≤ w0.heap.size)
    (h : ∀ v' w', w'.ownsRow base 5 1 v' (n + 1) (bv (l ++ [c])) → Below base w0 w' → wpList Tryd.prog ops Q rest (a.put o.dst v') w') : wpList Tryd.prog ops Q (o :: rest) a w := by
  subst hw
  subst hci
  have b1 : Below w0.heap.size w0 (w0.alloc (.cells #[.int .u8 (c.toNat : Int)] 5)) := (Below.refl _ _).alloc (Nat.le_refl _) _
  have hown1 : (w0.alloc (.cells #[.int .u8 (c.toNat : Int)] 5)).ownsRow base 5 1 v n (bv l) := by
    refine ⟨hown.1, ?_⟩
    rcases hown.2 with h' | ⟨g, cap, cur, hv, hg, hh, r⟩
    · exact .inl h'
    · exact .inr ⟨g, cap, cur, hv, hg, (b1.block _ (Array.getElem?_eq_some_iff.1 hh).1).trans hh, r⟩
  refine append_bytes hgd s x ho base v n (bv l) hs hown1 (some ⟨w0.heap.size, 0, none⟩) 1 1 [c] hx ⟨by simp, by omega, by omega, (fun h => by cases h), fun _ => ⟨w0.heap.size, 0, rfl, fun i hi => by
      have : i = 0 := by omega
      subst this
      rw [World.cell?_alloc_new]
      rfl⟩⟩ hl (by have := b1.size; omega) ?_
  intro v' w' h1 h2 _
  rw [← bv_append] at h1
  exact h v' w' h1 ((b1.mono hbase).grown h2 (by have := b1.size; omega) (fun k hk => own_base66 hown hk))
set_option maxRecDepth 100000 in
set_option maxHeartbeats 4000000 in
theorem ref_out_bad (a : Option Addr) (n cap : Nat) (w : World) (ad : Nat) (k : Int) (hk : k < 0) :
    Calls Tryd.prog 36 #[.slice a n cap, .int .u32 (ad : Int), .int .i64 k] w fun e w' => e = .returned (.tuple #[.string ⟨#[]⟩, .int .i64 0, .int .i64 12]) ∧ w' = w := by
  have hb : decide (k < 0) = true := decide_eq_true hk
  go_enter Tryd.func36, Tryd.ntmps36
  go_wp2
  go_ret3
  exact ⟨rfl, rfl⟩
set_option maxRecDepth 100000 in
set_option maxHeartbeats 4000000 in
theorem ref_out (a : Option Addr) (n cap : Nat) (P : Nat → PageV) (w : World) (h : RdP w a n cap P) (ad k : Nat) (had : ad < 4294967296) (hk : k < 9223372036854775808) :
    Calls Tryd.prog 36 #[.slice a n cap, .int .u32 (ad : Int), .int .i64 (k : Int)] w fun e w' => e = .returned (.tuple #[.string (outS P n ad k), .int .i64 (spanF P n ad 0 k : Nat), .int .i64 0]) ∧ Below w.heap.size w w' := by
  have K := Kp.mk (fun (w' : World) (hb : Below w.heap.size w w') y (hy : y < 9223372036854775808) => ref_byte a n cap P w' (h.later hb) y 0 hy (by decide))
  have KA := Kp.mk (fun (w' : World) (hb : Below w.heap.size w w') y => ref_at a n cap P w' (h.later hb) y)
  have hn := h.bound
  obtain ⟨S, hS⟩ : ∃ S, S = spanF P n ad 0 k := ⟨_, rfl⟩
  obtain ⟨T, hT⟩ : ∃ T, T = outS P n ad k := ⟨_, rfl⟩
  have HT0 : Kp (S = 0 → T = mkS (outL P ad k)) := ⟨fun e => by rw [hT]; exact outS_yes (by rw [← hS]; exact e)⟩
  have HT1 : Kp (S ≠ 0 → T = ⟨#[]⟩) := ⟨fun e => by rw [hT]; exact outS_no (by rw [← hS]; exact e)⟩
  rw [← hS, ← hT]
  have HS : Kp (S = spanF P n (ad + 0) 0 (k - 0)) := ⟨hS⟩
  have HLL : Kp (∀ j, outL P ad (j + 1) = outL P ad j ++ [(P ((ad + j) / 64)).data ((ad + j) % 64)]) := ⟨fun j => by
    unfold outL
    rw [List.range_succ, List.map_append]
    rfl⟩
  have hb0 : decide ((k : Int) < 0) = false := decide_eq_false (by omega)
  clear h hS hT
  go_enter Tryd.func36, Tryd.ntmps36
  go_wp2
  go_loopw [9, 10] (fun v iv wr => ∃ j : Nat, j ≤ k ∧ iv = .int .i64 (j : Int) ∧ j ≤ 112589990684224 ∧ Kp (S = spanF P n (ad + j) 0 (k - j)) ∧ Kp (wr.ownsRow w.heap.size 5 1 v j (bv (outL P ad j))) ∧ Kp (Below w.heap.size w wr)) (fun _ iv _ => k - (intOf iv).toNat)
  case atStart => exact ⟨0, by omega, rfl, by omega, HS, ⟨World.ownsRow_nil w w.heap.size _ _⟩, ⟨Below.refl _ _⟩⟩
  case round =>
    obtain ⟨j, hj, rfl, hjb, HS, HO, HB⟩ := hrel
    by_cases hlt : j < k
    · have hb : decide ((j : Int) < k) = true := decide_eq_true (by omega)
      have K1 := K.out wr HB.out (ad + j) (by omega)
      have K3 := KA.out wr HB.out (ad + j)
      obtain ⟨f, hf⟩ : ∃ f, f = faultP P n (ad + j) 0 := ⟨_, rfl⟩
      have hs1 := HS.out
      rw [spanF_here hlt, ← hf] at hs1
      rw [← hf] at K1
      have HL := Kp.mk (HLL.out j)
      by_cases hz : f = 0
      · have HS2 : Kp (S = spanF P n (ad + (j + 1)) 0 (k - (j + 1))) := ⟨by rw [hs1, hz]; simp⟩
        have hin := (faultP_zero.1 (hf.symm.trans hz)).1
        have hjb2 : j + 1 ≤ 112589990684224 := by omega
        have K4 := K3 hin
        obtain ⟨y, hy⟩ : ∃ y, y = ad + j := ⟨_, rfl⟩
        have hy1 : (ad : Int) + (j : Int) = (y : Int) := by omega
        rw [← hy] at K1 K4 HL
        obtain ⟨c, hc⟩ : ∃ c, c = (P (y / 64)).data (y % 64) := ⟨_, rfl⟩
        have hc2 : Pg.byte P y = c.toNat := by rw [hc]; rfl
        rw [hc2] at K4
        rw [← hc] at HL
        obtain ⟨ci, hci⟩ : ∃ ci : Int, ci = (c.toNat : Int) := ⟨_, rfl⟩
        rw [← hci] at K4
        have HCI := Kp.mk hci
        have K2 := Kp.mk K1
        have K5 := Kp.mk K4
        subst hz
        clear hf hs1 K1 hy K3 K4 hc hc2 hci hin
        go_wp2_with (first
          | (refine K2.out.mono ?_; rintro e w' ⟨rfl, hw⟩; obtain rfl := hw.symm)
          | (refine K5.out.mono ?_; rintro e w' ⟨rfl, hw⟩; obtain rfl := hw.symm)
          | (refine append_one rfl _ _ rfl wr c ci HCI.out rfl w.heap.size _ j _ rfl HO.out rfl (by omega) HB.out.size ?_; rintro v' w3 ho3 hb3))
        rw [← HL.out] at ho3
        have HO3 := Kp.mk ho3
        have HB3 := Kp.mk (HB.out.trans hb3)
        clear ho3 hb3
        go_roundw
        case rel => exact ⟨j + 1, by omega, by go_num, hjb2, HS2, HO3, HB3⟩
        case measure => simp [intOf]; omega
      · have hne : ((f : Int) != 0) = true := by simp; omega
        have hSf : S = f := by rw [hs1]; simp [hz]
        obtain ⟨y, hy⟩ : ∃ y, y = ad + j := ⟨_, rfl⟩
        have hy1 : (ad : Int) + (j : Int) = (y : Int) := by omega
        rw [← hy] at K1
        have K2 := Kp.mk K1
        have HTe := Kp.mk (HT1.out (by rw [hSf]; exact hz))
        subst hSf
        clear hf hs1 K1 K3 hy
        go_wp2_with (refine K2.out.mono ?_; rintro e w' ⟨rfl, hw⟩; obtain rfl := hw.symm)
        go_ret3
        exact ⟨by rw [HTe.out]; rfl, HB.out⟩
    · have hjk : j = k := by omega
      subst hjk
      have hb : decide ((j : Int) < j) = false := by simp
      have hS0 : S = 0 := by rw [HS.out, Nat.sub_self]; rfl
      have HTe := Kp.mk (HT0.out hS0)
      subst hS0
      have hcv := conv_any HO.out
      rw [← HTe.out] at hcv
      go_wp2
      go_ret3
      exact ⟨rfl, HB.out⟩
end Go.Proofs.YtkkclkmiaenipaaDoor
