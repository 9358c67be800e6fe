/- The statements' 'code': an error's number. -/
import Derived.Test.YtkkclkmiaenipaaDoorCodeWalk
import Derived.Test.YtkkclkmiaenipaaDoorAsWalk
import Derived.Test.YtkkclkmiaenipaaDoorPageSame
namespace Go.Proofs.YtkkclkmiaenipaaDoor
open Go Go.RowKit
set_option linter.unusedVariables false

set_option maxRecDepth 100000 in
theorem law_code (A : Nat → Addr) (c : Nat) (w : World) (hc : c ≤ 20) (hE : Errs w allCodes A) (hT : TypeVar w) :
    Calls Tryd.prog 31 #[errOf A c] w fun e w' => e = .returned (.int .i64 (c : Int)) ∧ Below w.heap.size w w' := by
  have HT := Kp.mk hT
  have HE := Kp.mk hE
  cases c with
  | zero =>
    clear hE hT
    show Calls Tryd.prog 31 #[.nilIface] w _
    go_enter Tryd.func31, Tryd.ntmps31
    go_wp2_with fail
    refine (api_place_nil _).mono ?_
    rintro e w1 ⟨rfl, hb⟩
    have HB := Kp.mk hb
    clear hb
    go_wp2_with fail
    refine (api_code_nil _).mono ?_
    rintro e w2 ⟨rfl, rfl⟩
    go_wp2
    go_ret
    exact ⟨rfl, HB.out⟩
  | succ c =>
    obtain ⟨d, hd⟩ : ∃ d, d = c + 1 := ⟨_, rfl⟩
    show Calls Tryd.prog 31 #[errv (A (c + 1))] w _
    rw [← hd]
    have K := Kp.mk (fun w' (hb : Below w.heap.size w w') => api_code w' (HE.out.later hb) d (by omega) (by omega))
    clear hE hT hd
    go_enter Tryd.func31, Tryd.ntmps31
    go_wp2_with fail
    refine (api_place _ _ HT.out).mono ?_
    rintro e w1 ⟨rfl, hb⟩
    have HB := Kp.mk hb
    clear hb
    go_wp2_with fail
    refine (K.out _ HB.out).mono ?_
    rintro e w2 ⟨rfl, rfl⟩
    go_wp2
    go_ret
    exact ⟨rfl, HB.out⟩
end Go.Proofs.YtkkclkmiaenipaaDoor
