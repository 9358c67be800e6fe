/- The program's span and Out, walked. -/
import Derived.Test.YtkkclkmiaenipaaDoorPageLook
import Derived.Test.YtkkclkmiaenipaaDoorAppend
import Derived.Laws.MakeOwn
import Derived.Laws.IdiomStrings
namespace Go.Proofs.YtkkclkmiaenipaaDoor
open Go Go.RowKit
set_option linter.unusedVariables false

/-- The fault of the first of k bytes that has one. -/
def spanF (P : Nat → PageV) (n ad rt : Nat) : Nat → Nat
  | 0 => 0
  | k + 1 => bif decide (faultP P n ad rt = 0) then spanF P n (ad + 1) rt k else faultP P n ad rt
theorem spanF_fault {P : Nat → PageV} {n ad rt k : Nat} (hk : 0 < k) (h : faultP P n ad rt ≠ 0) : spanF P n ad rt k = faultP P n ad rt := by
  obtain ⟨j, rfl⟩ : ∃ j, k = j + 1 := ⟨k - 1, by omega⟩
  simp [spanF, h]
theorem faultP_page {P : Nat → PageV} {n a b rt : Nat} (h : a / 64 = b / 64) : faultP P n a rt = faultP P n b rt := by
  unfold faultP; rw [h]
theorem spanF_skip {P : Nat → PageV} {n rt : Nat} : ∀ (j ad m : Nat), (∀ i, i < j → faultP P n (ad + i) rt = 0) → spanF P n ad rt (j + m) = spanF P n (ad + j) rt m
  | 0, ad, m, _ => by rw [Nat.zero_add, Nat.add_zero]
  | j + 1, ad, m, h => by
    have h0 : faultP P n ad rt = 0 := h 0 (by omega)
    rw [show j + 1 + m = (j + m) + 1 by omega, spanF, h0]
    simp only [decide_true, cond_true]
    rw [spanF_skip j (ad + 1) m (fun i hi => by have := h (i + 1) (by omega); rw [show ad + 1 + i = ad + (i + 1) by omega]; exact this)]
    congr 1
    omega
theorem spanF_zero {P : Nat → PageV} {n rt : Nat} : ∀ (k ad : Nat), spanF P n ad rt k = 0 ↔ ∀ i, i < k → faultP P n (ad + i) rt = 0
  | 0, ad => by simp [spanF]
  | k + 1, ad => by
    rw [spanF]
    by_cases h : faultP P n ad rt = 0
    · simp only [h, decide_true, cond_true, spanF_zero k (ad + 1)]
      constructor
      · intro hh i hi
        rcases i with _ | i
        · exact h
        · rw [show ad + (i + 1) = ad + 1 + i by omega]; exact hh i (by omega)
      · intro hh i hi
        rw [show ad + 1 + i = ad + (i + 1) by omega]; exact hh (i + 1) (by omega)
    · simp only [h, decide_false, cond_false, false_iff]
      intro hh
      exact absurd (hh 0 (by omega)) h
/-- Going on to the next page. -/
theorem spanF_next {P : Nat → PageV} {n rt x e : Nat} (hx : x < e) (h : faultP P n x rt = 0) : spanF P n x rt (e - x) = spanF P n ((x / 64 + 1) * 64) rt (e - (x / 64 + 1) * 64) := by
  have hp : ∀ i, x + i < (x / 64 + 1) * 64 → faultP P n (x + i) rt = 0 := fun i hi => by
    rw [faultP_page (b := x) (by omega)]; exact h
  by_cases hle : (x / 64 + 1) * 64 ≤ e
  · obtain ⟨j, hj⟩ : ∃ j, j = (x / 64 + 1) * 64 - x := ⟨_, rfl⟩
    have h1 : e - x = j + (e - (x / 64 + 1) * 64) := by omega
    rw [h1, spanF_skip j x _ (fun i hi => hp i (by omega))]
    congr 1
    omega
  · rw [show e - (x / 64 + 1) * 64 = 0 by omega, spanF]
    exact (spanF_zero _ _).2 (fun i hi => hp i (by omega))
set_option maxRecDepth 100000 in
set_option maxHeartbeats 4000000 in
theorem page_span (a : Option Addr) (n cap : Nat) (P : Nat → PageV) (w : World) (h : RdP w a n cap P) (ad k rt : Nat) (had : ad < 4294967296) (hk : k < 9223372036854775808) (hrt : rt < 3) (right bad : Int) (hr : right = 2 ^ rt) (hbad : bad = 4 + (rt : Int)) :
    Calls Tryd.prog 45 #[.slice a n cap, .int .u32 (ad : Int), .int .i64 (k : Int), .int .i64 right, .int .i64 bad] w fun e w' => e = .returned (.int .i64 (spanF P n ad rt k : Nat)) ∧ w' = w := by
  have K := Kp.mk (fun x (hx : x < 18446744073709551616) => page_fault a n cap P w h x rt hx hrt right bad hr hbad)
  obtain ⟨S, hS⟩ : ∃ S, S = spanF P n ad rt k := ⟨_, rfl⟩
  rw [← hS]
  obtain ⟨E, hE⟩ : ∃ E, E = ad + k := ⟨_, rfl⟩
  have hE1 : (ad : Int) + (k : Int) = (E : Int) := by omega
  have HS : Kp (S = spanF P n ad rt (E - ad)) := ⟨by rw [hS, hE, Nat.add_sub_cancel_left]⟩
  have hE2 : E < 9223372041149743104 := by omega
  have HE := Kp.mk hE
  have hE3 : (0 : Int) ≤ (E : Int) := by omega
  have hE4 : (E : Int) < 9223372041149743104 := by omega
  clear h hr hbad hS hE
  go_enter Tryd.func45, Tryd.ntmps45
  go_wp2
  go_loopw [11] (fun v wr => ∃ x : Nat, v = .int .u64 (x : Int) ∧ x < 9223372041149743200 ∧ Kp (S = spanF P n x rt (E - x)) ∧ wr = w) (fun v _ => E - (intOf v).toNat)
  case atStart => exact ⟨ad, rfl, by omega, HS, rfl⟩
  case round =>
    obtain ⟨x, rfl, hx, HS, rfl⟩ := hrel
    by_cases hlt : x < E
    · have hb : decide ((x : Int) < E) = true := decide_eq_true (by omega)
      have K1 := Kp.mk (K.out x (by omega))
      obtain ⟨f, hf⟩ : ∃ f, f = faultP P n x rt := ⟨_, rfl⟩
      rw [← hf] at K1
      by_cases hz : f = 0
      · subst hz
        obtain ⟨y, hy⟩ : ∃ y, y = (x / 64 + 1) * 64 := ⟨_, rfl⟩
        have hy1 : ((x : Int) / 64 + 1) * 64 = (y : Int) := by omega
        have HS2 : Kp (S = spanF P n y rt (E - y)) := ⟨by rw [HS.out, spanF_next hlt hf.symm, hy]⟩
        have hy2 : x < y ∧ y ≤ x + 64 := by omega
        clear hf hy
        go_wp2_with (refine K1.out.mono ?_; rintro e w' ⟨rfl, hw⟩; obtain rfl := hw.symm)
        go_roundw
        case rel => exact ⟨y, rfl, by omega, HS2, by first | rfl | trivial⟩
        case measure => simp [intOf]; omega
      · have hne : ((f : Int) != 0) = true := by simp; omega
        have hSf : S = f := by rw [HS.out, spanF_fault (by omega) (by rw [← hf]; exact hz), hf]
        subst hSf
        clear hf
        go_wp2_with (refine K1.out.mono ?_; rintro e w' ⟨rfl, hw⟩; obtain rfl := hw.symm)
        go_ret
        exact ⟨rfl, rfl⟩
    · have hb : decide ((x : Int) < E) = false := decide_eq_false (by omega)
      have hS0 : S = 0 := by rw [HS.out, show E - x = 0 by omega]; rfl
      subst hS0
      go_wp2
      go_ret
      exact ⟨rfl, rfl⟩
/-- k bytes from an address on. -/
def outL (P : Nat → PageV) (ad k : Nat) : List (BitVec 8) := (List.range k).map fun i => (P ((ad + i) / 64)).data ((ad + i) % 64)
theorem outL_length (P : Nat → PageV) (ad k : Nat) : (outL P ad k).length = k := by simp [outL]
theorem outL_get (P : Nat → PageV) (ad k i : Nat) (h : i < k) : (outL P ad k).getD i 0#8 = (P ((ad + i) / 64)).data ((ad + i) % 64) := by
  simp [outL, List.getD_eq_getElem?_getD, h]
/-- A piece of one page. -/
def pieceL (p : PageV) (r k : Nat) : List (BitVec 8) := (List.range k).map fun i => p.data (r + i)
theorem outL_piece (P : Nat → PageV) (ad t q r p : Nat) (hq : (ad + t) / 64 = q) (hr : (ad + t) % 64 = r) (hp : r + p ≤ 64) : outL P ad (t + p) = outL P ad t ++ pieceL (P q) r p := by
  unfold outL pieceL
  rw [List.range_add, List.map_append, List.map_map]
  congr 1
  apply List.map_congr_left
  intro i hi
  have hi := List.mem_range.1 hi
  show (P ((ad + (t + i)) / 64)).data ((ad + (t + i)) % 64) = (P q).data (r + i)
  rw [show (ad + (t + i)) / 64 = q by omega, show (ad + (t + i)) % 64 = r + i by omega]
/-- Bytes as a string. -/
def mkS (l : List (BitVec 8)) : ByteArray := ⟨(l.map UInt8.ofBitVec).toArray⟩
theorem RdB.piece {w : World} {b o : Nat} {p : PageV} (h : w.rangeAt b o p.row) (r k c : Nat) (hk : r + k ≤ 64) (hc : k ≤ c) : RdB w (some ⟨b, o + 2 + r, none⟩) k c (pieceL p r k) :=
  ⟨by simp [pieceL], hc, by omega, (fun h => by cases h), fun _ => ⟨b, o + 2 + r, rfl, fun j hj => by
    have h1 := data_in h (r + j) _ (dataL_get _ _ (by omega))
    rw [show o + 2 + r + j = o + 2 + (r + j) by omega, h1]
    simp [pieceL, List.getD_eq_getElem?_getD, hj]⟩⟩
theorem conv_own {w : World} {B g n cap : Nat} {l : List (BitVec 8)} (h : w.ownsRow B 5 1 (.slice (some ⟨g, 0, none⟩) n cap) n (bv l)) :
    (convert 80 9 (.slice (some ⟨g, 0, none⟩) n cap)).run Tryd.prog w = .ok (.string (mkS l)) w := by
  have hl : l.length = n := by have := h.1; rw [bv_length] at this; omega
  have := run_convert_bytes_back (P := Tryd.prog) w 80 9 5 ⟨g, 0, none⟩ cap (l.map UInt8.ofBitVec) Tryd.underlying80 Tryd.underlying5 Tryd.underlying9 (fun j hj => by
    rw [List.length_map] at hj
    rw [Addr.add_mid, Nat.zero_add, World.ownsRow.cellAt h j (by omega), bv_get l j hj]
    simp [List.getD_eq_getElem?_getD, hj])
  rw [List.length_map, hl] at this
  exact this
theorem arrayLenData : Tryd.prog.arrayLen 34 = 64 := by kernel_rfl
theorem sizeU8 : (Tryd.prog.info? 5).map (·.size) = some 1 := by kernel_rfl
theorem slice_data (b o r : Nat) (hr : r < 64) (w : World) : (Instr.sliceAt 34 (.pointer (some ⟨b, o, none⟩)) (some (.int .i64 (r : Int))) none none).run Tryd.prog w = .ok (.slice (some ⟨b, o + r, none⟩) (64 - r) (64 - r)) w := by
  rw [run_sliceAt_array_l w 34 ⟨b, o, none⟩ (by kernel_rfl) .i64 (r : Int) (by omega) (by rw [arrayLenData]; omega)]
  have he : Tryd.prog.elem 34 = 5 := by kernel_rfl
  rw [he, arrayLenData]
  cases hi : Tryd.prog.info? 5 with
  | none => exact absurd sizeU8 (by rw [hi]; simp)
  | some i =>
    have hs : i.size = 1 := by have := sizeU8; rw [hi] at this; simpa using this
    have hne : ¬ 64 = r := by omega
    simp [sizeOf, typeInfo, hi, hs, slicedAt, hne, Addr.add]
set_option maxRecDepth 100000 in
set_option maxHeartbeats 4000000 in
theorem page_out_no (a : Option Addr) (n cap : Nat) (P : Nat → PageV) (w : World) (h : RdP w a n cap P) (ad k : Nat) (had : ad < 4294967296) (hk : k < 9223372036854775808) (h0 : spanF P n ad 0 k ≠ 0) :
    Calls Tryd.prog 14 #[.slice a n cap, .int .u32 (ad : Int), .int .i64 (k : Int)] w fun e w' => e = .returned (.tuple #[.string ⟨#[]⟩, .int .i64 (spanF P n ad 0 k : Nat), .nilIface]) ∧ w' = w := by
  have K := Kp.mk (page_span a n cap P w h ad k 0 had hk (by decide) 1 4 (by decide) (by decide))
  obtain ⟨f, hf⟩ : ∃ f, f = spanF P n ad 0 k := ⟨_, rfl⟩
  rw [← hf] at h0 K ⊢
  have hne : ((f : Int) != 0) = true := by simp; omega
  clear hf h h0
  go_enter Tryd.func14, Tryd.ntmps14
  go_wp2_with (refine K.out.mono ?_; rintro e w' ⟨rfl, hw⟩; obtain rfl := hw.symm)
  go_ret3
  exact ⟨rfl, rfl⟩
set_option maxRecDepth 100000 in
set_option maxHeartbeats 4000000 in
theorem page_out_bad (A : Nat → Addr) (a : Option Addr) (n cap : Nat) (w : World) (ad : Nat) (k : Int) (hk : k < 0) (hE : Errs w [12] A) :
    Calls Tryd.prog 14 #[.slice a n cap, .int .u32 (ad : Int), .int .i64 k] w fun e w' => e = .returned (.tuple #[.string ⟨#[]⟩, .int .i64 0, errv (A 12)]) ∧ Drew w w' := by
  have hc : w.cell? ⟨0, 0, none⟩ = some (errv (A 12)) := hE.cell 12 (by decide)
  have hb : decide (k < 0) = true := decide_eq_true hk
  clear hE
  go_enter Tryd.func14, Tryd.ntmps14
  go_wp2
  go_quiet (fail)
  go_wp2
  go_ret3
  exact ⟨rfl, ⟨nq, rfl⟩⟩
set_option maxRecDepth 100000 in
set_option maxHeartbeats 4000000 in
theorem page_out_yes (a : Option Addr) (n cap : Nat) (P : Nat → PageV) (w : World) (h : RdP w a n cap P) (ad k : Nat) (had : ad < 4294967296) (hk : k < 9223372036854775808) (h0 : spanF P n ad 0 k = 0) :
    Calls Tryd.prog 14 #[.slice a n cap, .int .u32 (ad : Int), .int .i64 (k : Int)] w fun e w' => e = .returned (.tuple #[.string (mkS (outL P ad k)), .int .i64 0, .nilIface]) ∧ Below w.heap.size w w' := by
  have K := Kp.mk (page_span a n cap P w h ad k 0 had hk (by decide) 1 4 (by decide) (by decide))
  rw [h0] at K
  have HF : Kp (∀ i, i < k → (ad + i) / 64 < n) := ⟨fun i hi => (faultP_zero.1 ((spanF_zero k ad).1 h0 i hi)).1⟩
  have hn := h.bound
  have H0 := Kp.mk h
  have hkn : k ≤ 112589990684224 := by
    rcases Nat.eq_zero_or_pos k with e | e
    · omega
    · have := HF.out (k - 1) (by omega); omega
  have hbk : decide ((k : Int) < 0) = false := decide_eq_false (by omega)
  obtain ⟨i8, hi8, hz0, hz1, hz2⟩ := info_parts infoU8
  obtain ⟨w1, hmk, hown, hgr⟩ := run_make_own (P := Tryd.prog) w w.heap.size 80 5 i8 (.int .u8 0) 1 Tryd.underlying80 hi8 hz0 hz1 .i64 .i64 k (by rw [hz2]; omega) (by unfold maxLen; omega) (Nat.le_refl _)
  have HOi : Kp (w1.ownsRow w.heap.size 5 1 (.slice (some ⟨w.heap.size, 0, none⟩) 0 k) 0 (bv (outL P ad 0))) := ⟨hown⟩
  have HBi : Kp (Below w.heap.size w w1) := ⟨⟨hgr.os, hgr.tape, hgr.output, hgr.size, fun k hk => hgr.block k hk (by simp)⟩⟩
  clear h h0 hown hgr hz0 hz1 hz2 hi8
  go_enter Tryd.func14, Tryd.ntmps14
  go_wp2_with (refine K.out.mono ?_; rintro e w' ⟨rfl, hw⟩; obtain rfl := hw.symm)
  go_loopw [2, 10, 11] (fun kn v av wr => ∃ t m x : Nat, t + m = k ∧ kn = .int .i64 (m : Int) ∧ av = .int .i64 (x : Int) ∧ x = ad + t ∧ v ≠ .slice none 0 0 ∧ Kp (wr.ownsRow w.heap.size 5 1 v t (bv (outL P ad t))) ∧ Kp (Below w.heap.size w wr)) (fun kn _ _ _ => (intOf kn).toNat)
  case atStart => exact ⟨0, k, ad, by omega, rfl, rfl, by omega, by simp, HOi, HBi⟩
  case round =>
    obtain ⟨t, m, x, htm, rfl, rfl, hx, hv, HO, HB⟩ := hrel
    have HX := Kp.mk hx
    have HV := Kp.mk hv
    have HTM := Kp.mk htm
    have hm1 : m ≤ 112589990684224 := by omega
    have hx1 : x < 112594285651520 := by omega
    by_cases hlt : 0 < m
    · have hb : decide ((m : Int) > 0) = true := decide_eq_true (by omega)
      obtain ⟨q, hq⟩ : ∃ q, q = x / 64 := ⟨_, rfl⟩
      obtain ⟨r, hr⟩ : ∃ r, r = x % 64 := ⟨_, rfl⟩
      have hqn : q < n := by have := HF.out t (by omega); rw [hq, hx]; exact this
      have hq1 : (x : Int) / 64 = (q : Int) := by omega
      have hr1 : (x : Int) % 64 = (r : Int) := by omega
      have hr2 : r < 64 := by omega
      obtain ⟨b, o, ha, _⟩ := H0.out.cells (by omega)
      have HC := Kp.mk (prange_later (H0.out.page ha q hqn) HB.out)
      subst ha
      obtain ⟨d, hd⟩ : ∃ d, d = 64 - r := ⟨_, rfl⟩
      have hsl := slice_data b (o + q * 66 + 2) r hr2
      rw [← hd] at hsl
      have hd1 : 0 < d ∧ d ≤ 64 ∧ r + d = 64 := by omega
      obtain ⟨p, hp, hpc⟩ : ∃ p, (p = d ∧ d < m ∨ p = m ∧ ¬ d < m) ∧ p ≤ d := by
        by_cases e : d < m
        · exact ⟨d, .inl ⟨rfl, e⟩, by omega⟩
        · exact ⟨m, .inr ⟨rfl, e⟩, by omega⟩
      have hp1 : 0 < p ∧ p ≤ m := by omega
      have HPc := Kp.mk (RdB.piece HC.out r p d (by omega) hpc)
      obtain ⟨m2, hm2⟩ : ∃ m2, m2 = m - p := ⟨_, rfl⟩
      obtain ⟨x2, hx2⟩ : ∃ x2, x2 = x + p := ⟨_, rfl⟩
      have hm3 : (m : Int) - (p : Int) = (m2 : Int) := by omega
      have hx3 : (x : Int) + (p : Int) = (x2 : Int) := by omega
      have hm4 : t + p + m2 = k ∧ m2 < m := by omega
      have hx4 : x2 = ad + (t + p) := by omega
      have HL : Kp (outL P ad (t + p) = outL P ad t ++ pieceL (P q) r p) := ⟨outL_piece P ad t q r p (by rw [← hx, hq]) (by rw [← hx, hr]) (by omega)⟩
      have htp : t + p ≤ 112589990684224 := by omega
      have HMX := Kp.mk (And.intro hm4 hx4)
      have HTP := Kp.mk htp
      clear hq hr hx hv htm hd hm2 hx2 hm4 hx4 htp
      rcases hp with ⟨rfl, hdm⟩ | ⟨rfl, hdm⟩
      all_goals (
        go_wp2_with (refine append_bytes rfl _ _ rfl w.heap.size _ t _ rfl HO.out (some ⟨b, o + q * 66 + 2 + r, none⟩) _ _ _ rfl HPc.out (by have := HTP.out; omega) HB.out.size ?_; rintro v' w3 ho3 hg3 hne3)
        have HB3 := Kp.mk (HB.out.grown hg3 HB.out.size (fun j hj => own_base66 HO.out hj))
        rw [← bv_append, ← HL.out] at ho3
        have HO3 := Kp.mk ho3
        have HV3 : Kp (v' ≠ .slice none 0 0) := ⟨fun e => HV.out (hne3 e)⟩
        clear ho3 hg3 hne3
        have HMX1 := HMX.out.1.1
        go_roundw
        case rel => exact ⟨_, m2, x2, HMX.out.1.1, rfl, rfl, HMX.out.2, HV3.out, HO3, HB3⟩
        case measure => have := HMX.out.1.2; simp [intOf]; omega)
    · have hm0 : m = 0 := by omega
      subst hm0
      have htk : t = k := by omega
      subst htk
      obtain ⟨g, cap', rfl, _⟩ := own_shape HO.out hv
      have hcv := conv_own HO.out
      clear hv hx htm
      go_wp2
      go_ret3
      exact ⟨rfl, HB.out⟩
end Go.Proofs.YtkkclkmiaenipaaDoor
