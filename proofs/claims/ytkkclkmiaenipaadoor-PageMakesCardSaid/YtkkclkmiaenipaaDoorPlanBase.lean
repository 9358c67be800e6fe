/- Plans of pages; what Make tells. -/
import Derived.Test.YtkkclkmiaenipaaDoorPageUni
import Derived.Test.YtkkclkmiaenipaaDoorPageAlike
import Derived.Test.YtkkclkmiaenipaaDoorAtHit
namespace Go.Proofs.YtkkclkmiaenipaaDoor
open Go Go.RowKit
set_option linter.unusedVariables false

structure PlanV where
  rights : Int
  init : ByteArray
def PlanV.row (p : PlanV) : List Value := [.int .i64 p.rights, .string p.init]
/-- A slice of plans that can be read. -/
structure RdK (w : World) (a : Option Addr) (n cap : Nat) (C : Nat → PlanV) : Prop where
  fitsCap : n ≤ cap
  bound : n ≤ 5864062014805
  nil : a = none → cap = 0
  fits : ∀ i, i < n → (C i).init.size < 9223372036854775808
  cells : 0 < n → ∃ b off, a = some ⟨b, off, none⟩ ∧ ∀ i, i < n → w.rangeAt b (off + i * 2) (C i).row
theorem RdK.later {w w1 : World} {a : Option Addr} {n cap : Nat} {C : Nat → PlanV} (h : RdK w a n cap C) (hb : Below w.heap.size w w1) : RdK w1 a n cap C :=
  ⟨h.fitsCap, h.bound, h.nil, h.fits, fun hn => by
    obtain ⟨b, off, e, hc⟩ := h.cells hn
    exact ⟨b, off, e, fun i hi => prange_later (hc i hi) hb⟩⟩
/-- What is wrong with a plan. -/
def badK (p : PlanV) : Nat := bif decide (p.rights < 0) then 4 else bif decide (7 < p.rights) then 4 else bif decide (64 < p.init.size) then 5 else 0
theorem badK_low {p : PlanV} (h : p.rights < 0) : badK p = 4 := by simp [badK, h]
theorem badK_high {p : PlanV} (h0 : ¬ p.rights < 0) (h : 7 < p.rights) : badK p = 4 := by simp [badK, h0, h]
theorem badK_long {p : PlanV} (h0 : ¬ p.rights < 0) (h1 : ¬ 7 < p.rights) (h : 64 < p.init.size) : badK p = 5 := by simp [badK, h0, h1, h]
theorem badK_ok {p : PlanV} (h0 : ¬ p.rights < 0) (h1 : ¬ 7 < p.rights) (h : ¬ 64 < p.init.size) : badK p = 0 := by simp [badK, h0, h1, h]
theorem badK_zero {p : PlanV} (h : badK p = 0) : ¬ p.rights < 0 ∧ ¬ 7 < p.rights ∧ ¬ 64 < p.init.size := by
  by_cases h0 : p.rights < 0
  · rw [badK_low h0] at h; cases h
  · by_cases h1 : 7 < p.rights
    · rw [badK_high h0 h1] at h; cases h
    · by_cases h2 : 64 < p.init.size
      · rw [badK_long h0 h1 h2] at h; cases h
      · exact ⟨h0, h1, h2⟩
/-- A plan's page. -/
def bareP (r : Int) : PageV := ⟨r, false, fun _ => 0#8⟩
def mkPg (p : PlanV) : PageV := pieceP (bareP p.rights) 0 p.init.size (strF p.init)
def mkP (C : Nat → PlanV) : Nat → PageV := fun i => mkPg (C i)
/-- What Make tells: how many pages, the code, the place. -/
inductive Made (C : Nat → PlanV) (n : Nat) : Nat → Nat → Int → Prop
  | many (h : 32 < n) : Made C n 0 11 (-1)
  | bad (k c : Nat) (h : n ≤ 32) (hk : k < n) (hc : badK (C k) = c) (h0 : c ≠ 0) (hb : ∀ i, i < k → badK (C i) = 0) : Made C n 0 c (k : Int)
  | good (h : n ≤ 32) (hb : ∀ i, i < n → badK (C i) = 0) : Made C n n 0 (-1)
theorem made (C : Nat → PlanV) (n : Nat) : ∃ L c pl, Made C n L c pl := by
  by_cases h : 32 < n
  · exact ⟨_, _, _, .many h⟩
  · by_cases hb : ∀ i, i < n → badK (C i) = 0
    · exact ⟨_, _, _, .good (by omega) hb⟩
    · have : ∃ k, k < n ∧ badK (C k) ≠ 0 ∧ ∀ i, i < k → badK (C i) = 0 := by
        have h1 : ∀ m, m ≤ n → (∀ i, i < m → badK (C i) = 0) ∨ ∃ k, k < n ∧ badK (C k) ≠ 0 ∧ ∀ i, i < k → badK (C i) = 0 := by
          intro m
          induction m with
          | zero => exact fun _ => .inl (fun i hi => by omega)
          | succ m ih =>
            intro hm
            rcases ih (by omega) with h2 | h2
            · by_cases h3 : badK (C m) = 0
              · refine .inl (fun i hi => ?_)
                rcases Nat.lt_or_ge i m with h4 | h4
                · exact h2 i h4
                · rw [show i = m by omega]; exact h3
              · exact .inr ⟨m, by omega, h3, h2⟩
            · exact .inr h2
        rcases h1 n (Nat.le_refl _) with h2 | h2
        · exact absurd h2 hb
        · exact h2
      obtain ⟨k, hk, h0, hbb⟩ := this
      exact ⟨_, _, _, .bad k _ (by omega) hk rfl h0 hbb⟩
/-- An error of a code and a place. -/
def ErrP (w : World) (A : Nat → Addr) (c : Nat) (pl : Int) (v : Value) : Prop :=
  (c = 0 ∧ pl = -1 ∧ v = .nilIface) ∨ (1 ≤ c ∧ c ≤ 20 ∧ pl = -1 ∧ v = errv (A c)) ∨ (1 ≤ c ∧ c ≤ 20 ∧ ∃ p, v = atv p ∧ AtAt w p pl (A c))
theorem ErrP.later {w w' : World} {A : Nat → Addr} {c : Nat} {pl : Int} {v : Value} (h : ErrP w A c pl v) (hb : Below w.heap.size w w') : ErrP w' A c pl v := by
  rcases h with h | h | ⟨h1, h2, p, e, h⟩
  · exact .inl h
  · exact .inr (.inl h)
  · exact .inr (.inr ⟨h1, h2, p, e, h.later hb⟩)
theorem ErrP.code {w : World} {A : Nat → Addr} {c : Nat} {pl : Int} {v : Value} (h : ErrP w A c pl v) (hE : Errs w allCodes A) :
    Calls Tryd.prog 26 #[v] w fun e w' => e = .returned (.int .i64 (c : Int)) ∧ w' = w := by
  rcases h with ⟨rfl, _, rfl⟩ | ⟨h1, h2, _, rfl⟩ | ⟨h1, h2, p, rfl, h⟩
  · exact api_code_nil w
  · exact api_code w hE c h1 h2
  · exact api_code_at w hE p pl c h h1 h2
theorem ErrP.place {w : World} {A : Nat → Addr} {c : Nat} {pl : Int} {v : Value} (h : ErrP w A c pl v) (hT : TypeVar w) :
    Calls Tryd.prog 27 #[v] w fun e w' => e = .returned (.int .i64 pl) ∧ Below w.heap.size w w' := by
  rcases h with ⟨_, rfl, rfl⟩ | ⟨_, _, rfl, rfl⟩ | ⟨_, _, p, rfl, h⟩
  · exact api_place_nil w
  · exact api_place (A c) w hT
  · exact api_place_at p pl (A c) w hT h
/-- A page in a variable of its own: as a row of one. -/
theorem own_var {w : World} {g : Nat} {p : PageV} (h : w.heap[g]? = some (.cells p.row.toArray 36 (0, 0))) : OwnP w g (.slice (some ⟨g, 0, none⟩) 1 1) 1 (fun _ => p) := by
  have e : rowsL (fun _ => p) 1 = p.row := rfl
  unfold OwnP
  rw [e]
  exact ⟨by rw [PageV.row_length], .inr ⟨g, 1, p.row.toArray, rfl, Nat.le_refl _, h, Nat.le_refl _, by unfold maxLen; omega, by simp [PageV.row_length], by rw [List.take_of_length_le (by simp [PageV.row_length])]⟩⟩
theorem OwnP.range1 {w : World} {B g : Nat} {P : Nat → PageV} (h : OwnP w B (.slice (some ⟨g, 0, none⟩) 1 1) 1 P) : w.rangeAt g 0 (P 0).row := by
  intro j u hu
  have hj : j < 66 := by
    have := (List.getElem?_eq_some_iff.1 hu).1
    rwa [PageV.row_length] at this
  have := h.cell 0 j (by decide) hj
  rw [Nat.zero_mul, Nat.zero_add] at this
  rw [Nat.zero_add, this]
  exact hu
end Go.Proofs.YtkkclkmiaenipaaDoor
