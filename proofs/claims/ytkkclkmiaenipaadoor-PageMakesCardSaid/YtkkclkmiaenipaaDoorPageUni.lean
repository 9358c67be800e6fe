/- The calls on pages, one contract each for all arguments. -/
import Derived.Test.YtkkclkmiaenipaaDoorRefOut
namespace Go.Proofs.YtkkclkmiaenipaaDoor
open Go Go.RowKit
set_option linter.unusedVariables false

def szOk (s : Int) : Bool := decide (s = 1 ∨ s = 2 ∨ s = 4)
theorem szOk_yes {s : Int} (h : szOk s = true) : ∃ k : Nat, s = (k : Int) ∧ okSize k ∧ s.toNat = k := by
  have h := of_decide_eq_true h
  rcases h with rfl | rfl | rfl
  · exact ⟨1, rfl, .inl rfl, rfl⟩
  · exact ⟨2, rfl, .inr (.inl rfl), rfl⟩
  · exact ⟨4, rfl, .inr (.inr rfl), rfl⟩
theorem szOk_no {s : Int} (h : szOk s = false) : s ≠ 1 ∧ s ≠ 2 ∧ s ≠ 4 := by
  have h := of_decide_eq_false h
  exact ⟨fun e => h (.inl e), fun e => h (.inr (.inl e)), fun e => h (.inr (.inr e))⟩
/-- The code, the fault of an access; what Load tells; how many pages Store answers. -/
def stC (s : Int) : Nat := bif szOk s then 0 else 12
def stF (P : Nat → PageV) (n ad : Nat) (s : Int) (k : Nat) : Nat := bif szOk s then lookF P n ad s.toNat k else 0
def ldV (P : Nat → PageV) (n ad : Nat) (s : Int) (k : Nat) : Nat := bif szOk s then loadV P n ad s.toNat k else 0
def stOk (P : Nat → PageV) (n ad : Nat) (s : Int) : Bool := szOk s && decide (lookF P n ad s.toNat 1 = 0)
def stL (P : Nat → PageV) (n ad : Nat) (s : Int) : Nat := bif stOk P n ad s then n else 0
def stP (P : Nat → PageV) (ad : Nat) (s : Int) (x : Nat) : Nat → PageV := Pg.store P ad s.toNat x
def pkP (P : Nat → PageV) (n ad : Nat) (s : Int) (x : Nat) : Nat → PageV := bif stOk P n ad s then stP P ad s x else P
theorem stC_le (s : Int) : stC s ≤ 20 := by unfold stC; cases szOk s <;> decide
theorem stOk_iff (P : Nat → PageV) (n ad : Nat) (s : Int) : stOk P n ad s = true ↔ stF P n ad s 1 = 0 ∧ stC s = 0 := by
  unfold stOk stF stC
  cases szOk s <;> simp
variable (A : Nat → Addr) (a : Option Addr) (n cap : Nat) (P : Nat → PageV) (w : World)
theorem uni_load (h : RdP w a n cap P) (ad : Nat) (had : ad < 4294967296) (s : Int) (hE : Errs w [12] A) :
    Calls Tryd.prog 12 #[.slice a n cap, .int .u32 (ad : Int), .int .i64 s] w fun e w' => e = .returned (.tuple #[.int .u32 (ldV P n ad s 0 : Nat), .int .i64 (stF P n ad s 0 : Nat), errOf A (stC s)]) ∧ Below w.heap.size w w' := by
  unfold ldV stF stC
  cases hs : szOk s with
  | true =>
    obtain ⟨k, rfl, hk, _⟩ := szOk_yes hs
    exact (page_load a n cap P w h ad k had hk).mono fun e w' ⟨he, hw⟩ => ⟨he, hw ▸ Below.refl _ _⟩
  | false =>
    obtain ⟨h1, h2, h4⟩ := szOk_no hs
    exact (page_load_bad A a n cap w ad s h1 h2 h4 hE).mono fun e w' ⟨he, hw⟩ => ⟨he, hw.below⟩
theorem uni_ref_load (h : RdP w a n cap P) (ad : Nat) (had : ad < 4294967296) (s : Int) :
    Calls Tryd.prog 37 #[.slice a n cap, .int .u32 (ad : Int), .int .i64 s] w fun e w' => e = .returned (.tuple #[.int .u32 (ldV P n ad s 0 : Nat), .int .i64 (stF P n ad s 0 : Nat), .int .i64 (stC s : Nat)]) ∧ w' = w := by
  unfold ldV stF stC
  cases hs : szOk s with
  | true =>
    obtain ⟨k, rfl, hk, _⟩ := szOk_yes hs
    exact ref_load a n cap P w h ad k had hk
  | false =>
    obtain ⟨h1, h2, h4⟩ := szOk_no hs
    exact ref_load_bad a n cap w ad s h1 h2 h4
theorem uni_store (h : RdP w a n cap P) (ad : Nat) (had : ad < 4294967296) (s : Int) (x : Nat) (hx : x < 4294967296) (hE : Errs w [12] A) :
    Calls Tryd.prog 17 #[.slice a n cap, .int .u32 (ad : Int), .int .i64 s, .int .u32 (x : Int)] w fun e w' => ∃ v, e = .returned (.tuple #[v, .int .i64 (stF P n ad s 1 : Nat), errOf A (stC s)]) ∧ OwnP w' w.heap.size v (stL P n ad s) (stP P ad s x) ∧ Below w.heap.size w w' := by
  unfold stF stC stL stOk stP
  cases hs : szOk s with
  | true =>
    obtain ⟨k, rfl, hk, _⟩ := szOk_yes hs
    by_cases h0 : lookF P n ad k 1 = 0
    · simp only [cond_true, Bool.true_and, Int.toNat_natCast, h0, decide_true]
      exact page_store_yes a n cap P w h ad k x had hk hx h0
    · simp only [cond_true, Bool.true_and, Int.toNat_natCast, h0, decide_false, cond_false]
      exact (page_store_no a n cap P w h ad k x had hk h0).mono fun e w' ⟨he, hb⟩ => ⟨_, he, OwnP.nil _ _ _, hb⟩
  | false =>
    obtain ⟨h1, h2, h4⟩ := szOk_no hs
    exact (page_store_bad A a n cap P w h ad s x h1 h2 h4 hE).mono fun e w' ⟨he, hb⟩ => ⟨_, he, OwnP.nil _ _ _, hb⟩
theorem uni_ref_store (h : RdP w a n cap P) (ad : Nat) (had : ad < 4294967296) (s : Int) (x : Nat) (hx : x < 4294967296) :
    Calls Tryd.prog 34 #[.slice a n cap, .int .u32 (ad : Int), .int .i64 s, .int .u32 (x : Int)] w fun e w' => ∃ v, e = .returned (.tuple #[v, .int .i64 (stF P n ad s 1 : Nat), .int .i64 (stC s : Nat)]) ∧ OwnP w' w.heap.size v (stL P n ad s) (stP P ad s x) ∧ Below w.heap.size w w' := by
  unfold stF stC stL stOk stP
  cases hs : szOk s with
  | true =>
    obtain ⟨k, rfl, hk, _⟩ := szOk_yes hs
    by_cases h0 : lookF P n ad k 1 = 0
    · simp only [cond_true, Bool.true_and, Int.toNat_natCast, h0, decide_true]
      exact ref_store_yes a n cap P w h ad k x had hk hx h0
    · simp only [cond_true, Bool.true_and, Int.toNat_natCast, h0, decide_false, cond_false]
      exact (ref_store_no a n cap P w h ad k x had hk h0).mono fun e w' ⟨he, hw⟩ => ⟨_, he, OwnP.nil _ _ _, hw ▸ Below.refl _ _⟩
  | false =>
    obtain ⟨h1, h2, h4⟩ := szOk_no hs
    exact (ref_store_bad a n cap w ad s x h1 h2 h4).mono fun e w' ⟨he, hw⟩ => ⟨_, he, OwnP.nil _ _ _, hw ▸ Below.refl _ _⟩
/-- Poke of own pages: only their block is touched. -/
theorem uni_poke (B : Nat) (v : Value) (h : OwnP w B v n P) (hn : n ≤ 1759218604441) (ad : Nat) (had : ad < 4294967296) (s : Int) (x : Nat) (hx : x < 4294967296) (hE : Errs w [12] A) :
    Calls Tryd.prog 19 #[v, .int .u32 (ad : Int), .int .i64 s, .int .u32 (x : Int)] w fun e w' => e = .returned (.tuple #[.int .i64 (stF P n ad s 1 : Nat), errOf A (stC s)]) ∧ OwnP w' B v n (pkP P n ad s x) ∧ (∀ B', B' ≤ B → B' ≤ w.heap.size → Below B' w w') ∧ (∀ g, v.ownBlock = some g → Touch g w w') := by
  unfold stF stC pkP stOk stP
  obtain ⟨a, cap, rfl, hrd⟩ := h.rd hn
  cases hs : szOk s with
  | true =>
    obtain ⟨k, rfl, hk, _⟩ := szOk_yes hs
    by_cases h0 : lookF P n ad k 1 = 0
    · simp only [cond_true, Bool.true_and, Int.toNat_natCast, h0, decide_true]
      obtain ⟨_, z, _⟩ := lookF_zero.1 h0
      obtain ⟨g, cap', e, hg, _⟩ := h.shape (by omega)
      simp only [Value.slice.injEq, true_and] at e
      obtain ⟨rfl, rfl⟩ := e
      exact (page_poke_yes w B g n cap P h hn ad k x had hk hx h0).mono fun e w' ⟨he, ho, ht⟩ => ⟨he, ho, fun B' h1 h2 => ht.below B' (Nat.le_trans h1 hg) h2, fun g' hg' => by
        simp only [Value.ownBlock, Option.some.injEq] at hg'
        subst hg'
        exact ht⟩
    · simp only [cond_true, Bool.true_and, Int.toNat_natCast, h0, decide_false, cond_false]
      exact (page_poke_no a n cap P w hrd ad k x had hk h0).mono fun e w' ⟨he, hw⟩ => ⟨he, hw ▸ h, fun B' _ _ => hw ▸ Below.refl _ _, fun g _ => hw ▸ Touch.refl _ _⟩
  | false =>
    obtain ⟨h1, h2, h4⟩ := szOk_no hs
    exact (page_poke_bad A a n cap w ad s x h1 h2 h4 hE).mono fun e w' ⟨he, hd⟩ => ⟨he, h.later hd.below, fun B' _ h2 => hd.below.mono h2, fun g _ => Touch.of_below hd.below⟩
/-- Out. -/
def otS (P : Nat → PageV) (n ad : Nat) (k : Int) : ByteArray := bif decide (k < 0) then ⟨#[]⟩ else outS P n ad k.toNat
def otF (P : Nat → PageV) (n ad : Nat) (k : Int) : Nat := bif decide (k < 0) then 0 else spanF P n ad 0 k.toNat
def otC (k : Int) : Nat := bif decide (k < 0) then 12 else 0
theorem otC_le (k : Int) : otC k ≤ 20 := by unfold otC; cases decide (k < 0) <;> decide
theorem uni_out (h : RdP w a n cap P) (ad : Nat) (had : ad < 4294967296) (k : Int) (hk : k < 9223372036854775808) (hE : Errs w [12] A) :
    Calls Tryd.prog 14 #[.slice a n cap, .int .u32 (ad : Int), .int .i64 k] w fun e w' => e = .returned (.tuple #[.string (otS P n ad k), .int .i64 (otF P n ad k : Nat), errOf A (otC k)]) ∧ Below w.heap.size w w' := by
  unfold otS otF otC
  by_cases hk0 : k < 0
  · simp only [hk0, decide_true, cond_true]
    exact (page_out_bad A a n cap w ad k hk0 hE).mono fun e w' ⟨he, hd⟩ => ⟨he, hd.below⟩
  · obtain ⟨j, rfl⟩ : ∃ j : Nat, k = (j : Int) := ⟨k.toNat, by omega⟩
    simp only [hk0, decide_false, cond_false, Int.toNat_natCast]
    exact page_out a n cap P w h ad j had (by omega)
theorem uni_ref_out (h : RdP w a n cap P) (ad : Nat) (had : ad < 4294967296) (k : Int) (hk : k < 9223372036854775808) :
    Calls Tryd.prog 36 #[.slice a n cap, .int .u32 (ad : Int), .int .i64 k] w fun e w' => e = .returned (.tuple #[.string (otS P n ad k), .int .i64 (otF P n ad k : Nat), .int .i64 (otC k : Nat)]) ∧ Below w.heap.size w w' := by
  unfold otS otF otC
  by_cases hk0 : k < 0
  · simp only [hk0, decide_true, cond_true]
    exact (ref_out_bad a n cap w ad k hk0).mono fun e w' ⟨he, hw⟩ => ⟨he, hw ▸ Below.refl _ _⟩
  · obtain ⟨j, rfl⟩ : ∃ j : Nat, k = (j : Int) := ⟨k.toNat, by omega⟩
    simp only [hk0, decide_false, cond_false, Int.toNat_natCast]
    exact ref_out a n cap P w h ad j had (by omega)
/-- In. -/
def inF (P : Nat → PageV) (n ad : Nat) (s : ByteArray) : Nat := spanF P n ad 1 s.size
def inL (P : Nat → PageV) (n ad : Nat) (s : ByteArray) : Nat := bif decide (inF P n ad s = 0) then n else 0
def inQ (P : Nat → PageV) (ad : Nat) (s : ByteArray) : Nat → PageV := inP P ad (strF s) s.size
theorem uni_in (h : RdP w a n cap P) (ad : Nat) (had : ad < 4294967296) (s : ByteArray) (hk : s.size < 9223372036854775808) :
    Calls Tryd.prog 18 #[.slice a n cap, .int .u32 (ad : Int), .string s] w fun e w' => ∃ v, e = .returned (.tuple #[v, .int .i64 (inF P n ad s : Nat)]) ∧ OwnP w' w.heap.size v (inL P n ad s) (inQ P ad s) ∧ Below w.heap.size w w' := by
  unfold inL inF inQ
  by_cases h0 : spanF P n ad 1 s.size = 0
  · simp only [h0, decide_true, cond_true]
    exact page_in_yes a n cap P w h ad s had hk h0
  · simp only [h0, decide_false, cond_false]
    exact (page_in_no a n cap P w h ad s had hk h0).mono fun e w' ⟨he, hw⟩ => ⟨_, he, OwnP.nil _ _ _, hw ▸ Below.refl _ _⟩
theorem uni_ref_in (h : RdP w a n cap P) (ad : Nat) (had : ad < 4294967296) (s : ByteArray) (hk : s.size < 9223372036854775808) :
    Calls Tryd.prog 35 #[.slice a n cap, .int .u32 (ad : Int), .string s] w fun e w' => ∃ v, e = .returned (.tuple #[v, .int .i64 (inF P n ad s : Nat)]) ∧ OwnP w' w.heap.size v (inL P n ad s) (inQ P ad s) ∧ Below w.heap.size w w' := by
  unfold inL inF inQ
  by_cases h0 : spanF P n ad 1 s.size = 0
  · simp only [h0, decide_true, cond_true]
    exact ref_in_yes a n cap P w h ad s had hk h0
  · simp only [h0, decide_false, cond_false]
    exact (ref_in_no a n cap P w h ad s had hk h0).mono fun e w' ⟨he, hw⟩ => ⟨_, he, OwnP.nil _ _ _, hw ▸ Below.refl _ _⟩
/-- Same, of own pages. -/
theorem uni_same {B1 B2 : Nat} {v1 v2 : Value} {Q : Nat → PageV} (h1 : OwnP w B1 v1 n P) (h2 : OwnP w B2 v2 n Q) (hn : n ≤ 1759218604441) (h : ∀ i, i < n → (P i).row = (Q i).row) :
    Calls Tryd.prog 25 #[v1, v2] w fun e w' => e = .returned (.bool true) ∧ Drew w w' := by
  obtain ⟨a1, c1, rfl, r1⟩ := h1.rd hn
  obtain ⟨a2, c2, rfl, r2⟩ := h2.rd hn
  exact ref_same a1 a2 n c1 c2 P Q w r1 r2 h
end Go.Proofs.YtkkclkmiaenipaaDoor
