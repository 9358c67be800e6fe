/- Of the messages that come each one is put or reported; what ports out held is emitted: plain. -/
import Derived.Test.YtjlgnbjfgeppcaaDoorArrTwo
namespace Go.Proofs.YtjlgnbjfgeppcaaDoor
open Go Go.RowKit
set_option linter.unusedVariables false

/-- Is a message taken by a sampling port? -/
def isS (P : Nat → PortP) (n : Nat) (m : MsgV) : Bool := decide (0 ≤ m.port) && decide (m.port < (n : Int)) && decide ((P m.port.toNat).kind = 1) && decide ((m.data.size : Int) ≤ (P m.port.toNat).size)
def nS (P : Nat → PortP) (n : Nat) (C : Nat → MsgV) : Nat → Nat
  | 0 => 0
  | j + 1 => nS P n C j + (bif isS P n (C j) then 1 else 0)
/-- The messages in queues that come in. -/
def sumQ (P : Nat → PortP) (F : Nat → Nat) : Nat → Nat
  | 0 => 0
  | i + 1 => sumQ P F i + (bif decide ((P i).kind = 3) then F i else 0)
def sumA (F : Nat → Nat) : Nat → Nat
  | 0 => 0
  | i + 1 => sumA F i + F i
theorem sumQ_congr (P : Nat → PortP) {F F' : Nat → Nat} (n : Nat) (h : ∀ i, i < n → F i = F' i) : sumQ P F n = sumQ P F' n := by
  induction n with
  | zero => rfl
  | succ n ih => unfold sumQ; rw [ih (fun i hi => h i (by omega)), h n (by omega)]
theorem sumQ_upd (P : Nat → PortP) {F F' : Nat → Nat} {k : Nat} (n : Nat) (hk : k < n) (h : ∀ i, i ≠ k → F' i = F i) :
    sumQ P F' n + (bif decide ((P k).kind = 3) then F k else 0) = sumQ P F n + (bif decide ((P k).kind = 3) then F' k else 0) := by
  induction n with
  | zero => omega
  | succ n ih =>
    unfold sumQ
    by_cases e : k = n
    · subst e
      rw [sumQ_congr P (F := F') (F' := F) k (fun i hi => h i (by omega))]
      omega
    · rw [h n (by omega)]
      have := ih (by omega)
      omega
theorem sumA_congr {F F' : Nat → Nat} (n : Nat) (h : ∀ i, i < n → F i = F' i) : sumA F n = sumA F' n := by
  induction n with
  | zero => rfl
  | succ n ih => unfold sumA; rw [ih (fun i hi => h i (by omega)), h n (by omega)]
theorem goes_parts {P : Nat → PortP} {n : Nat} {S : Nat → PortS} {m : MsgV} (h : goes P n S m = true) : 0 ≤ m.port ∧ m.port < (n : Int) ∧ addC (P m.port.toNat) (S m.port.toNat).l (S m.port.toNat).g m.data (inK (P m.port.toNat).kind) = 0 := by
  unfold goes at h
  simp only [Bool.and_eq_true, decide_eq_true_eq] at h
  exact ⟨h.1.1, h.1.2, h.2⟩
theorem inK_or {k : Int} (h : inK k = true) : k = 1 ∨ k = 3 := by unfold inK at h; exact of_decide_eq_true h
theorem addC_sz {p : PortP} {l : List ByteArray} {g : Int} {D : ByteArray} {b : Bool} (h : addC p l g D b = 0) : (D.size : Int) ≤ p.size := by
  have hb := addC_in h
  have hp := addC_zero' h
  subst hb
  unfold addC at h
  rw [decide_eq_true hp] at h
  by_cases hs : p.size < (D.size : Int)
  · rw [decide_eq_true hs] at h; simp at h
  · omega
theorem addC_smp {p : PortP} {l : List ByteArray} {g : Int} {D : ByteArray} (hp : portC p l g = 0) (hk : p.kind = 1) (hs : (D.size : Int) ≤ p.size) : addC p l g D (inK p.kind) = 0 := by
  unfold addC
  rw [decide_eq_true hp, decide_eq_false (by omega : ¬ p.size < (D.size : Int)), decide_eq_true (by omega : p.kind ≤ 2)]
  have : inK p.kind = true := by unfold inK; exact decide_eq_true (.inl hk)
  rw [this]; rfl
theorem came_law {P : Nat → PortP} {V : Nat → PortV} {n : Nat} (h : AllGood P V n) (C : Nat → MsgV) (j : Nat) :
    sumQ P (fun i => (arrS P n (agedS P V) C j i).l.length) n + nS P n C j + (arrD P n (agedS P V) C j).length = sumQ P (fun i => (V i).l.length) n + j := by
  induction j with
  | zero => rfl
  | succ j ih =>
    have hgood := arr_good (C := C) (fun i hi => aged_good h i hi) j
    cases hg : goes P n (arrS P n (agedS P V) C j) (C j) with
    | false =>
      have hs : isS P n (C j) = false := by
        cases hi : isS P n (C j) with
        | false => rfl
        | true =>
          unfold isS at hi
          simp only [Bool.and_eq_true, decide_eq_true_eq] at hi
          obtain ⟨⟨⟨h0, h1⟩, h2⟩, h3⟩ := hi
          have h4 := hgood (C j).port.toNat (by omega)
          have h5 := addC_smp h4 h2 h3
          unfold goes at hg
          rw [decide_eq_true h0, decide_eq_true h1, h5] at hg
          simp at hg
      have hd : (arrD P n (agedS P V) C (j + 1)).length = (arrD P n (agedS P V) C j).length + 1 := by
        have := congrArg List.length (arr_drop hg).2
        simpa using this
      rw [(arr_drop hg).1, hd]
      show _ + (nS P n C j + (bif isS P n (C j) then 1 else 0)) + _ = _
      rw [hs]
      simp only [cond_false]
      omega
    | true =>
      obtain ⟨h0, h1, h2⟩ := goes_parts hg
      obtain ⟨q, hq⟩ : ∃ q : Nat, (C j).port = (q : Int) := ⟨(C j).port.toNat, by omega⟩
      have hqn : q < n := by omega
      rw [hq] at h2
      simp only [Int.toNat_natCast] at h2
      have hk := inK_or (addC_in h2)
      have hz := addC_sz h2
      have hpt := arr_put hg hq
      rw [hpt.2]
      have hupd := sumQ_upd P (F := fun i => (arrS P n (agedS P V) C j i).l.length) (F' := fun i => (arrS P n (agedS P V) C (j + 1) i).l.length) n hqn (fun i hi => by
        show (arrS P n (agedS P V) C (j + 1) i).l.length = _
        rw [hpt.1 i, decide_eq_false hi]; rfl)
      have hq1 : (arrS P n (agedS P V) C (j + 1) q).l = addL (P q) (arrS P n (agedS P V) C j q).l (arrS P n (agedS P V) C j q).g (C j).data (inK (P q).kind) := by
        rw [hpt.1 q, decide_eq_true rfl]; rfl
      show _ + (nS P n C j + (bif isS P n (C j) then 1 else 0)) + _ = _
      rcases hk with hk | hk
      · have hs : isS P n (C j) = true := by
          unfold isS
          rw [decide_eq_true h0, decide_eq_true h1, hq]
          simp only [Int.toNat_natCast]
          rw [decide_eq_true hk, decide_eq_true hz]; rfl
        rw [hs]
        rw [decide_eq_false (by omega : ¬ (P q).kind = 3)] at hupd
        simp only [cond_true, cond_false] at hupd ⊢
        omega
      · have hs : isS P n (C j) = false := by
          unfold isS
          rw [decide_eq_true h0, decide_eq_true h1, hq]
          simp only [Int.toNat_natCast]
          rw [decide_eq_false (by omega : ¬ (P q).kind = 1)]; rfl
        rw [hs]
        rw [decide_eq_true hk, hq1, addL_more h2 (by omega)] at hupd
        simp only [cond_true, cond_false, List.length_append, List.length_cons, List.length_nil] at hupd ⊢
        omega
theorem held_law (P : Nat → PortP) (V : Nat → PortV) (n : Nat) : sumA (fun i => (outS P V i).l.length) n + (outM P V n).length = sumA (fun i => (V i).l.length) n := by
  induction n with
  | zero => rfl
  | succ n ih =>
    show sumA (fun i => (outS P V i).l.length) n + (outS P V n).l.length + (outM P V n ++ (bif inK (P n).kind then [] else (V n).l.map fun s => (⟨(n : Int), s⟩ : MsgV))).length = sumA (fun i => (V i).l.length) n + (V n).l.length
    have e : (outS P V n).l.length + (bif inK (P n).kind then [] else (V n).l.map fun s => (⟨(n : Int), s⟩ : MsgV)).length = (V n).l.length := by
      unfold outS
      cases inK (P n).kind
      · simp
      · simp
    rw [List.length_append]
    omega
theorem outM_mono (P : Nat → PortP) (V : Nat → PortV) {i n : Nat} (h : i ≤ n) : (outM P V i).length ≤ (outM P V n).length := by
  induction n with
  | zero => have : i = 0 := by omega
            subst this; exact Nat.le_refl _
  | succ n ih =>
    rcases Nat.lt_or_ge i (n + 1) with e | e
    · have := ih (by omega)
      show _ ≤ (outM P V n ++ _).length
      rw [List.length_append]; omega
    · have : i = n + 1 := by omega
      subst this; exact Nat.le_refl _
theorem outM_len1 (P : Nat → PortP) (V : Nat → PortV) (i : Nat) (hk : inK (P i).kind = false) : (outM P V (i + 1)).length = (outM P V i).length + (V i).l.length := by
  show (outM P V i ++ (bif inK (P i).kind then [] else (V i).l.map fun s => (⟨(i : Int), s⟩ : MsgV))).length = _
  rw [hk, List.length_append]; simp
theorem outM_len0 (P : Nat → PortP) (V : Nat → PortV) (i : Nat) (hk : inK (P i).kind = true) : outM P V (i + 1) = outM P V i := by
  show outM P V i ++ (bif inK (P i).kind then [] else (V i).l.map fun s => (⟨(i : Int), s⟩ : MsgV)) = _
  rw [hk]; simp
theorem outM_at (P : Nat → PortP) (V : Nat → PortV) (n i k : Nat) (hi : i < n) (hk : inK (P i).kind = false) (hl : k < (V i).l.length) : (outM P V n).getD ((outM P V i).length + k) zMsg = ⟨(i : Int), (V i).l.getD k noS⟩ := by
  induction n with
  | zero => omega
  | succ n ih =>
    show (outM P V n ++ (bif inK (P n).kind then [] else (V n).l.map fun s => (⟨(n : Int), s⟩ : MsgV))).getD _ zMsg = _
    by_cases e : i = n
    · subst e
      rw [hk]
      simp only [cond_false]
      rw [List.getD_eq_getElem?_getD, List.getElem?_append_right (by omega), Nat.add_sub_cancel_left, List.getElem?_map, List.getElem?_eq_getElem hl, List.getD_eq_getElem?_getD, List.getElem?_eq_getElem hl]
      rfl
    · have h1 := outM_len1 P V i hk
      have h2 := outM_mono P V (show i + 1 ≤ n by omega)
      rw [List.getD_eq_getElem?_getD, List.getElem?_append_left (by omega), ← List.getD_eq_getElem?_getD]
      exact ih (by omega)
end Go.Proofs.YtjlgnbjfgeppcaaDoor
