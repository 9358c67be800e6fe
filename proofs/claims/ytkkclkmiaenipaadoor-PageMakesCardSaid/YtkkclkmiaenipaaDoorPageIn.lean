/- The program's In, walked. -/
import Derived.Test.YtkkclkmiaenipaaDoorPageInP
namespace Go.Proofs.YtkkclkmiaenipaaDoor
open Go Go.RowKit
set_option linter.unusedVariables false

/-- A string's bytes. -/
def strF (s : ByteArray) (j : Nat) : BitVec 8 := (s.data.toList.getD j 0).toBitVec
theorem strF_take (D : ByteArray) (p : Nat) (h : p ≤ D.size) : (D.data.toList.map fun x => Value.int .u8 (x.toNat : Int)).take p = cellsB (strF D) p := by
  have hl : D.data.toList.length = D.size := rfl
  apply List.ext_getElem
  · simp [cellsB_length]; omega
  · intro i h1 h2
    rw [cellsB_length] at h2
    have h3 : i < D.data.toList.length := by omega
    simp only [List.getElem_take, List.getElem_map, cellsB, List.getElem_range, strF, List.getD_eq_getElem?_getD, List.getElem?_eq_getElem h3, Option.getD_some]
    rfl
theorem strF_extract (D : ByteArray) (p : Nat) (j : Nat) (h : p + j < D.size) : strF (D.extract p D.size) j = strF D (p + j) := by
  unfold strF
  have hl : D.data.toList.length = D.size := rfl
  have e : (D.extract p D.size).data = D.data.extract p D.size := by simp [ByteArray.data_extract]
  rw [e]
  simp only [List.getD_eq_getElem?_getD, Array.toList_extract, List.extract_eq_take_drop, List.getElem?_take, List.getElem?_drop]
  have : j < D.size - p := by omega
  simp only [this, if_true]
theorem extract_size (D : ByteArray) (p : Nat) : (D.extract p D.size).size = D.size - p := by simp [ByteArray.size_extract]
theorem slice_str (D : ByteArray) (p : Nat) (h : p ≤ D.size) (w : World) : (Instr.sliceAt 9 (.string D) (some (.int .i64 (p : Int))) none none).run Tryd.prog w = .ok (.string (D.extract p D.size)) w := by
  rw [run_sliceAt_string _ _ _ _ _ _ Tryd.underlying9, run_slice_string_l (P := Tryd.prog) w 9 D Tryd.underlying9 .i64 (p : Int) (by omega) (by omega)]
  rfl
theorem str_empty (D : ByteArray) : D.toList.isEmpty = decide (D.size = 0) := by
  rw [ByteArray.toList_eq]
  have hl : D.data.toList.length = D.size := rfl
  cases h : D.data.toList with
  | nil => rw [h] at hl; simp [← hl]
  | cons x r =>
    rw [h] at hl
    have : ¬ D.size = 0 := by rw [← hl]; simp
    simp [this]
theorem sizeRunU8 : ∀ w, (Go.sizeOf 5).run Tryd.prog w = .ok 1 w := by
  intro w
  cases hi : Tryd.prog.info? 5 with
  | none => exact absurd sizeU8 (by rw [hi]; simp)
  | some i =>
    have hs : i.size = 1 := by have := sizeU8; rw [hi] at this; simpa using this
    simp [sizeOf, typeInfo, hi, hs]
set_option maxRecDepth 100000 in
set_option maxHeartbeats 4000000 in
theorem page_in_no (a : Option Addr) (n cap : Nat) (P : Nat → PageV) (w : World) (h : RdP w a n cap P) (ad : Nat) (s : ByteArray) (had : ad < 4294967296) (hk : s.size < 9223372036854775808) (h0 : spanF P n ad 1 s.size ≠ 0) :
    Calls Tryd.prog 18 #[.slice a n cap, .int .u32 (ad : Int), .string s] w fun e w' => e = .returned (.tuple #[.slice none 0 0, .int .i64 (spanF P n ad 1 s.size : Nat)]) ∧ w' = w := by
  have K := Kp.mk (page_span a n cap P w h ad s.size 1 had hk (by decide) 2 5 (by decide) (by decide))
  obtain ⟨f, hf⟩ : ∃ f, f = spanF P n ad 1 s.size := ⟨_, rfl⟩
  rw [← hf] at h0 K ⊢
  have hne : ((f : Int) != 0) = true := by simp; omega
  clear hf h h0
  go_enter Tryd.func18, Tryd.ntmps18
  go_wp2_with (refine K.out.mono ?_; rintro e w' ⟨rfl, hw⟩; obtain rfl := hw.symm)
  go_ret2
  exact ⟨rfl, rfl⟩
set_option maxRecDepth 100000 in
set_option maxHeartbeats 4000000 in
theorem page_in_yes (a : Option Addr) (n cap : Nat) (P : Nat → PageV) (w : World) (h : RdP w a n cap P) (ad : Nat) (s : ByteArray) (had : ad < 4294967296) (hk : s.size < 9223372036854775808) (h0 : spanF P n ad 1 s.size = 0) :
    Calls Tryd.prog 18 #[.slice a n cap, .int .u32 (ad : Int), .string s] w fun e w' => ∃ v, e = .returned (.tuple #[v, .int .i64 0]) ∧ OwnP w' w.heap.size v n (inP P ad (strF s) s.size) ∧ Below w.heap.size w w' := by
  have K := Kp.mk (page_span a n cap P w h ad s.size 1 had hk (by decide) 2 5 (by decide) (by decide))
  rw [h0] at K
  have KC := Kp.mk (page_copy a n cap P w h)
  have HF : Kp (∀ i, i < s.size → (ad + i) / 64 < n) := ⟨fun i hi => (faultP_zero.1 ((spanF_zero s.size ad).1 h0 i hi)).1⟩
  have hn := h.bound
  have hkn : s.size ≤ 112589990684224 := by
    rcases Nat.eq_zero_or_pos s.size with e | e
    · omega
    · have := HF.out (s.size - 1) (by omega); omega
  obtain ⟨F, hF⟩ : ∃ F, F = strF s := ⟨_, rfl⟩
  obtain ⟨k, hkk⟩ : ∃ k, k = s.size := ⟨_, rfl⟩
  have HS0 : Kp (∀ j, j < s.size → strF s j = F (0 + j)) := ⟨fun j _ => by rw [hF, Nat.zero_add]⟩
  rw [← hF, ← hkk]
  rw [← hkk] at HF hkn
  have HK := Kp.mk hkk
  clear h h0 hF hkk
  go_enter Tryd.func18, Tryd.ntmps18
  go_wp2_with (refine K.out.mono ?_; rintro e w' ⟨rfl, hw⟩; obtain rfl := hw.symm)
  refine KC.out.mono ?_
  rintro e w1 ⟨v, rfl, ho, hb⟩
  have HO := Kp.mk ho
  have HB := Kp.mk hb
  clear ho hb
  go_wp2
  go_loopw [2, 10] (fun dv av wr => ∃ (t m x : Nat) (D : ByteArray), t + m = k ∧ D.size = m ∧ dv = .string D ∧ av = .int .i64 (x : Int) ∧ x = ad + t ∧ Kp (∀ j, j < D.size → strF D j = F (t + j)) ∧ Kp (OwnP wr w.heap.size v n (inP P ad F t)) ∧ Kp (Below w.heap.size w wr)) (fun dv _ _ => match dv with | .string D => D.size | _ => 0)
  case atStart => exact ⟨0, k, ad, s, by omega, HK.out.symm, rfl, rfl, by omega, HS0, HO, HB⟩
  case round =>
    obtain ⟨t, m, x, D, htm, hDm, rfl, rfl, hx, HS, HO, HB⟩ := hrel
    have hss := str_empty D
    by_cases hlt : 0 < m
    · have hm0 : decide (D.size = 0) = false := decide_eq_false (by omega)
      rw [hm0] at hss
      obtain ⟨q, hq⟩ : ∃ q, q = x / 64 := ⟨_, rfl⟩
      obtain ⟨r, hr⟩ : ∃ r, r = x % 64 := ⟨_, rfl⟩
      have hqn : q < n := by have := HF.out t (by omega); rw [hq, hx]; exact this
      have hq1 : (x : Int) / 64 = (q : Int) := by omega
      have hr1 : (x : Int) % 64 = (r : Int) := by omega
      have hr2 : r < 64 := by omega
      have hx1 : x < 112594285651520 := by omega
      obtain ⟨g, cap2, hv, hg, _⟩ := HO.out.shape (by omega)
      subst hv
      obtain ⟨p, hp⟩ : ∃ p, p = Nat.min D.size (64 - r) := ⟨_, rfl⟩
      have hp0 : 0 < p := by rw [hp]; exact Nat.lt_min.2 ⟨by omega, by omega⟩
      have hp1 : p ≤ D.size := by rw [hp]; exact Nat.min_le_left _ _
      have hp2 : p ≤ 64 - r := by rw [hp]; exact Nat.min_le_right _ _
      obtain ⟨cs, hcs⟩ : ∃ cs, cs = cellsB (strF D) p := ⟨_, rfl⟩
      have hcp : ∀ (sT ty : TypeId), (Builtin.copy_ #[80, sT] ty #[.slice (some ⟨g, q * 66 + 2 + r, none⟩) (64 - r) (64 - r), .string D]).run Tryd.prog wr = .ok (goInt p) (wr.setCells g (q * 66 + 2 + r) cs) := fun sT ty =>
        run_copy_str wr 80 sT ty 5 g (q * 66 + 2 + r) (64 - r) (64 - r) D p cs Tryd.underlying80 sizeRunU8 hp.symm (by rw [hcs]; exact strF_take D p hp1) (by rw [hcs, cellsB_length])
          (fun j hj => by
            have := HO.out.cell q (r + j + 2) hqn (by omega)
            rw [show q * 66 + 2 + r + j = q * 66 + (r + j + 2) by omega, this, PageV.row_data _ _ (by omega)]; rfl)
          (fun j hj => HO.out.frozen _)
      obtain ⟨ho2, ht2⟩ := OwnP.pieces HO.out q r (strF D) hqn p (by omega)
      rw [← hcs] at ho2 ht2
      obtain ⟨w2, hw2⟩ : ∃ w2, w2 = wr.setCells g (q * 66 + 2 + r) cs := ⟨_, rfl⟩
      rw [← hw2] at ho2 ht2 hcp
      have hcell := ho2.cell q 1 hqn (by decide)
      rw [upd_at] at hcell
      obtain ⟨d0, hd0⟩ : ∃ d0, d0 = (inP P ad F t q).dirty := ⟨_, rfl⟩
      have k1 : w2.cell? ⟨g, q * 66 + 1, none⟩ = some (.bool d0) := by rw [hcell, hd0]; rfl
      have k2 : w2.frozen? ⟨g, q * 66 + 1, none⟩ = false := ho2.frozen _
      have hpe : ∃ y, p = y + 1 := ⟨p - 1, by omega⟩
      have HO2 : Kp (OwnP (w2.setCell ⟨g, q * 66 + 1, none⟩ (.bool true)) w.heap.size (.slice (some ⟨g, 0, none⟩) n cap2) n (inP P ad F (t + p))) := ⟨by
        have := OwnP.upd_stored q _ _ _ 1 ho2 hqn (by decide) (row_set_dirty _ true)
        obtain ⟨y, rfl⟩ := hpe
        rw [inP_piece P ad t q r F (by rw [← hx, hq]) (by rw [← hx, hr]) y (by omega)]
        refine OwnP.congr this (fun i _ => ?_)
        unfold upd
        split
        · unfold pieceP
          congr 1
          congr 1
          funext z
          show (if r ≤ z ∧ z < r + (y + 1) then strF D (z - r) else (inP P ad F t q).data z) = (if r ≤ z ∧ z < r + (y + 1) then F (t + (z - r)) else (inP P ad F t q).data z)
          split
          · rename_i hz
            exact HS.out (z - r) (by omega)
          · rfl
        · rfl⟩
      have HB2 : Kp (Below w.heap.size w (w2.setCell ⟨g, q * 66 + 1, none⟩ (.bool true))) := ⟨HB.out.trans ((ht2.trans (Touch.setCell g (q * 66 + 1) w2 (.bool true))).below _ hg HB.out.size)⟩
      obtain ⟨D2, hD2⟩ : ∃ D2, D2 = D.extract p D.size := ⟨_, rfl⟩
      have hsl := slice_str D p hp1
      rw [← hD2] at hsl
      have hD2s : D2.size = m - p := by rw [hD2, extract_size, hDm]
      have HS2 : Kp (∀ j, j < D2.size → strF D2 j = F (t + p + j)) := ⟨fun j hj => by
        rw [hD2, strF_extract D p j (by omega), HS.out (p + j) (by omega), Nat.add_assoc]⟩
      have hsd := slice_data g (q * 66 + 2) r hr2
      obtain ⟨x2, hx2⟩ : ∃ x2, x2 = x + p := ⟨_, rfl⟩
      have hx3 : (x : Int) + (p : Int) = (x2 : Int) := by omega
      have hm4 : t + p + (m - p) = k ∧ m - p < m ∧ x2 = ad + (t + p) := by omega
      have HM := Kp.mk hm4
      have HDM := Kp.mk hDm
      have HD2 := Kp.mk hD2s
      have hpb : p < 112594285651520 := by omega
      have hdd : ∃ d, d = 64 - r := ⟨_, rfl⟩
      obtain ⟨d, hd⟩ := hdd
      rw [← hd] at hsd hcp
      clear hq hr hx htm hp hcs hw2 hD2 hx2 hm4 hd0 hcell hD2s hDm hpe ho2 ht2 hd hp1 hp2
      go_wp2
      go_roundw
      case rel => exact ⟨t + p, m - p, x2, D2, HM.out.1, HD2.out, rfl, rfl, HM.out.2.2, HS2, HO2, HB2⟩
      case measure => have := HD2.out; have := HDM.out; have := HM.out; simp; omega
    · have hm0 : decide (D.size = 0) = true := decide_eq_true (by omega)
      rw [hm0] at hss
      have : t = k := by omega
      subst this
      clear HF
      go_wp2
      go_ret2
      exact ⟨_, rfl, HO.out, HB.out⟩
end Go.Proofs.YtkkclkmiaenipaaDoor
