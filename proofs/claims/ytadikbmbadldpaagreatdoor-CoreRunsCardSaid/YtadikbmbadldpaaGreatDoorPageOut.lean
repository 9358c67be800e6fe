
/- The program's span and Out, walked. -/
import Derived.Test.YtadikbmbadldpaaGreatDoorPageLook
import Derived.Test.YtadikbmbadldpaaGreatDoorAppend
import Derived.Laws.MakeOwn
import Derived.Laws.IdiomStrings
namespace Go.Proofs.YtadikbmbadldpaaGreatDoor
open Go Go.RowKit
set_option linter.unusedVariables false

/-- The fault of the first of k bytes that has one. -/
def spanF (P : Nat → PageV) (n ad rt : Nat) : Nat → Nat
  | 0 => 0
  | k + 1 => bif decide (faultP P n ad rt = 0) then spanF P n (ad + 1) rt k else faultP P n ad rt
theorem spanF_fault {P : Nat → PageV} {n ad rt k : Nat} (hk : 0 < k) (h : faultP P n ad rt ≠ 0) : spanF P n ad rt k = faultP P n ad rt := by
  obtain ⟨j, rfl⟩ : ∃ j, k = j + 1 := ⟨k - 1, by omega⟩
  simp [spanF, h]
theorem faultP_page {P : Nat → PageV} {n a b rt : Nat} (h : a / 64 = b / 64) : faultP P n a rt = faultP P n b rt := by
  unfold faultP; rw [h]
theorem spanF_skip {P : Nat → PageV} {n rt : Nat} : ∀ (j ad m : Nat), (∀ i, i < j → faultP P n (ad + i) rt = 0) → spanF P n ad rt (j + m) = spanF P n (ad + j) rt m
  | 0, ad, m, _ => by rw [Nat.zero_add, Nat.add_zero]
  | j + 1, ad, m, h => by
    have h0 : faultP P n ad rt = 0 := h 0 (by omega)
    rw [show j + 1 + m = (j + m) + 1 by omega, spanF, h0]
    simp only [decide_true, cond_true]
    rw [spanF_skip j (ad + 1) m (fun i hi => by have := h (i + 1) (by omega); rw [show ad + 1 + i = ad + (i + 1) by omega]; exact this)]
    congr 1
    omega
theorem spanF_zero {P : Nat → PageV} {n rt : Nat} : ∀ (k ad : Nat), spanF P n ad rt k = 0 ↔ ∀ i, i < k → faultP P n (ad + i) rt = 0
  | 0, ad => by simp [spanF]
  | k + 1, ad => by
    rw [spanF]
    by_cases h : faultP P n ad rt = 0
    · simp only [h, decide_true, cond_true, spanF_zero k (ad + 1)]
      constructor
      · intro hh i hi
        rcases i with _ | i
        · exact h
        · rw [show ad + (i + 1) = ad + 1 + i by omega]; exact hh i (by omega)
      · intro hh i hi
        rw [show ad + 1 + i = ad + (i + 1) by omega]; exact hh (i + 1) (by omega)
    · simp only [h, decide_false, cond_false, false_iff]
      intro hh
      exact absurd (hh 0 (by omega)) h
/-- Going on to the next page. -/
theorem spanF_next {P : Nat → PageV} {n rt x e : Nat} (hx : x < e) (h : faultP P n x rt = 0) : spanF P n x rt (e - x) = spanF P n ((x / 64 + 1) * 64) rt (e - (x / 64 + 1) * 64) := by
  have hp : ∀ i, x + i < (x / 64 + 1) * 64 → faultP P n (x + i) rt = 0 := fun i hi => by
    rw [faultP_page (b := x) (by omega)]; exact h
  by_cases hle : (x / 64 + 1) * 64 ≤ e
  · obtain ⟨j, hj⟩ : ∃ j, j = (x / 64 + 1) * 64 - x := ⟨_, rfl⟩
    have h1 : e - x = j + (e - (x / 64 + 1) * 64) := by omega
    rw [h1, spanF_skip j x _ (fun i hi => hp i (by omega))]
    congr 1
    omega
  · rw [show e - (x / 64 + 1) * 64 = 0 by omega, spanF]
    exact (spanF_zero _ _).2 (fun i hi => hp i (by omega))
/-- k bytes from an address on. -/
def outL (P : Nat → PageV) (ad k : Nat) : List (BitVec 8) := (List.range k).map fun i => (P ((ad + i) / 64)).data ((ad + i) % 64)
theorem outL_length (P : Nat → PageV) (ad k : Nat) : (outL P ad k).length = k := by simp [outL]
theorem outL_get (P : Nat → PageV) (ad k i : Nat) (h : i < k) : (outL P ad k).getD i 0#8 = (P ((ad + i) / 64)).data ((ad + i) % 64) := by
  simp [outL, List.getD_eq_getElem?_getD, h]
/-- A piece of one page. -/
def pieceL (p : PageV) (r k : Nat) : List (BitVec 8) := (List.range k).map fun i => p.data (r + i)
theorem outL_piece (P : Nat → PageV) (ad t q r p : Nat) (hq : (ad + t) / 64 = q) (hr : (ad + t) % 64 = r) (hp : r + p ≤ 64) : outL P ad (t + p) = outL P ad t ++ pieceL (P q) r p := by
  unfold outL pieceL
  rw [List.range_add, List.map_append, List.map_map]
  congr 1
  apply List.map_congr_left
  intro i hi
  have hi := List.mem_range.1 hi
  show (P ((ad + (t + i)) / 64)).data ((ad + (t + i)) % 64) = (P q).data (r + i)
  rw [show (ad + (t + i)) / 64 = q by omega, show (ad + (t + i)) % 64 = r + i by omega]
/-- Bytes as a string. -/
def mkS (l : List (BitVec 8)) : ByteArray := ⟨(l.map UInt8.ofBitVec).toArray⟩
theorem RdB.piece {w : World} {b o : Nat} {p : PageV} (h : w.rangeAt b o p.row) (r k c : Nat) (hk : r + k ≤ 64) (hc : k ≤ c) : RdB w (some ⟨b, o + 2 + r, none⟩) k c (pieceL p r k) :=
  ⟨by simp [pieceL], hc, by omega, (fun h => by cases h), fun _ => ⟨b, o + 2 + r, rfl, fun j hj => by
    have h1 := data_in h (r + j) _ (dataL_get _ _ (by omega))
    rw [show o + 2 + r + j = o + 2 + (r + j) by omega, h1]
    simp [pieceL, List.getD_eq_getElem?_getD, hj]⟩⟩
theorem conv_own {w : World} {B g n cap : Nat} {l : List (BitVec 8)} (h : w.ownsRow B 5 1 (.slice (some ⟨g, 0, none⟩) n cap) n (bv l)) :
    (convert 64 9 (.slice (some ⟨g, 0, none⟩) n cap)).run Tryz.prog w = .ok (.string (mkS l)) w := by
  have hl : l.length = n := by have := h.1; rw [bv_length] at this; omega
  have := run_convert_bytes_back (P := Tryz.prog) w 64 9 5 ⟨g, 0, none⟩ cap (l.map UInt8.ofBitVec) Tryz.underlying64 Tryz.underlying5 Tryz.underlying9 (fun j hj => by
    rw [List.length_map] at hj
    rw [Addr.add_mid, Nat.zero_add, World.ownsRow.cellAt h j (by omega), bv_get l j hj]
    simp [List.getD_eq_getElem?_getD, hj])
  rw [List.length_map, hl] at this
  exact this
theorem arrayLenData : Tryz.prog.arrayLen 45 = 64 := by kernel_rfl
theorem sizeU8 : (Tryz.prog.info? 5).map (·.size) = some 1 := by kernel_rfl
theorem slice_data (b o r : Nat) (hr : r < 64) (w : World) : (Instr.sliceAt 45 (.pointer (some ⟨b, o, none⟩)) (some (.int .i64 (r : Int))) none none).run Tryz.prog w = .ok (.slice (some ⟨b, o + r, none⟩) (64 - r) (64 - r)) w := by
  rw [run_sliceAt_array_l w 45 ⟨b, o, none⟩ (by kernel_rfl) .i64 (r : Int) (by omega) (by rw [arrayLenData]; omega)]
  have he : Tryz.prog.elem 45 = 5 := by kernel_rfl
  rw [he, arrayLenData]
  cases hi : Tryz.prog.info? 5 with
  | none => exact absurd sizeU8 (by rw [hi]; simp)
  | some i =>
    have hs : i.size = 1 := by have := sizeU8; rw [hi] at this; simpa using this
    have hne : ¬ 64 = r := by omega
    simp [sizeOf, typeInfo, hi, hs, slicedAt, hne, Addr.add]
end Go.Proofs.YtadikbmbadldpaaGreatDoor
