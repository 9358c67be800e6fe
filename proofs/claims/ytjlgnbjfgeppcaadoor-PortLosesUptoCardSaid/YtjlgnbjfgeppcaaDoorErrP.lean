/- An error of a code and a place. -/
import Derived.Test.YtjlgnbjfgeppcaaDoorAtHit
namespace Go.Proofs.YtjlgnbjfgeppcaaDoor
open Go Go.RowKit
set_option linter.unusedVariables false

/-- An error of a code and a place. -/
def ErrP (w : World) (A : Nat → Addr) (c : Nat) (pl : Int) (v : Value) : Prop :=
  (c = 0 ∧ pl = -1 ∧ v = .nilIface) ∨ (1 ≤ c ∧ c ≤ 20 ∧ pl = -1 ∧ v = errv (A c)) ∨ (1 ≤ c ∧ c ≤ 20 ∧ ∃ p, v = atv p ∧ AtAt w p pl (A c))
theorem ErrP.later {w w' : World} {A : Nat → Addr} {c : Nat} {pl : Int} {v : Value} (h : ErrP w A c pl v) (hb : Below w.heap.size w w') : ErrP w' A c pl v := by
  rcases h with h | h | ⟨h1, h2, p, e, h⟩
  · exact .inl h
  · exact .inr (.inl h)
  · exact .inr (.inr ⟨h1, h2, p, e, h.later hb⟩)
theorem ErrP.code {w : World} {A : Nat → Addr} {c : Nat} {pl : Int} {v : Value} (h : ErrP w A c pl v) (hE : Errs w allCodes A) :
    Calls Tryd.prog 49 #[v] w fun e w' => e = .returned (.int .i64 (c : Int)) ∧ w' = w := by
  rcases h with ⟨rfl, _, rfl⟩ | ⟨h1, h2, _, rfl⟩ | ⟨h1, h2, p, rfl, h⟩
  · exact api_code_nil w
  · exact api_code w hE c h1 h2
  · exact api_code_at w hE p pl c h h1 h2
theorem ErrP.place {w : World} {A : Nat → Addr} {c : Nat} {pl : Int} {v : Value} (h : ErrP w A c pl v) (hT : TypeVar w) :
    Calls Tryd.prog 58 #[v] w fun e w' => e = .returned (.int .i64 pl) ∧ Below w.heap.size w w' := by
  rcases h with ⟨_, rfl, rfl⟩ | ⟨_, _, rfl, rfl⟩ | ⟨_, _, p, rfl, h⟩
  · exact api_place_nil w
  · exact api_place (A c) w hT
  · exact api_place_at p pl (A c) w hT h
end Go.Proofs.YtjlgnbjfgeppcaaDoor
