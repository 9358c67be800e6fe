/- The statements' 'plain': an error's number, told by no place. -/
import Derived.Test.YtndninajnkejnaaDoorCodeWalk
import Derived.Test.YtndninajnkejnaaDoorAsWalk
namespace Go.Proofs.YtndninajnkejnaaDoor
open Go Go.RowKit
set_option linter.unusedVariables false

/-- An error as a code tells it: 0 is none. -/
def errOf (A : Nat → Addr) : Nat → Value
  | 0 => .nilIface
  | c + 1 => errv (A (c + 1))
set_option maxRecDepth 100000 in
theorem law_plain (A : Nat → Addr) (c : Nat) (k : Int) (w : World) (hc : c ≤ 20) (hE : Errs w allCodes A) (hT : TypeVar w) :
    Calls Tryd.prog 30 #[errOf A c, .int .i64 k] w fun e w' => e = .returned (.bool (decide ((c : Int) = k))) ∧ Below w.heap.size w w' := by
  have HT := Kp.mk hT
  cases c with
  | zero =>
    clear hE hT
    show Calls Tryd.prog 30 #[.nilIface, .int .i64 k] w _
    by_cases h : (0 : Int) = k
    · have hb : ((0 : Int) == k) = true := by simp [h]
      go_enter Tryd.func30, Tryd.ntmps30
      go_wp2_with fail
      refine (api_code_nil _).mono ?_
      rintro e w1 ⟨rfl, rfl⟩
      go_wp2_with fail
      refine (api_place_nil _).mono ?_
      rintro e w2 ⟨rfl, hb⟩
      have HB := Kp.mk hb
      clear hb
      go_wp2
      go_ret
      exact ⟨ret_bool (by simp_all), HB.out⟩
    · have hb : ((0 : Int) == k) = false := by simp [h]
      have H := Kp.mk h
      clear h
      go_enter Tryd.func30, Tryd.ntmps30
      go_wp2_with fail
      refine (api_code_nil _).mono ?_
      rintro e w1 ⟨rfl, rfl⟩
      go_wp2
      go_ret
      exact ⟨ret_bool (by have := H.out; simp_all), Below.refl _ _⟩
  | succ c =>
    obtain ⟨d, hd⟩ : ∃ d, d = c + 1 := ⟨_, rfl⟩
    show Calls Tryd.prog 30 #[errv (A (c + 1)), .int .i64 k] w _
    rw [← hd]
    have K := Kp.mk (api_code w hE d (by omega) (by omega))
    clear hE hT hd
    by_cases h : (d : Int) = k
    · have hb : ((d : Int) == k) = true := by simp [h]
      have H := Kp.mk h
      clear h
      go_enter Tryd.func30, Tryd.ntmps30
      go_wp2_with fail
      refine K.out.mono ?_
      rintro e w1 ⟨rfl, rfl⟩
      go_wp2_with fail
      refine (api_place _ _ HT.out).mono ?_
      rintro e w2 ⟨rfl, hb⟩
      have HB := Kp.mk hb
      clear hb
      go_wp2
      go_ret
      exact ⟨ret_bool (by have := H.out; simp_all), HB.out⟩
    · have hb : ((d : Int) == k) = false := by simp [h]
      have H := Kp.mk h
      clear h
      go_enter Tryd.func30, Tryd.ntmps30
      go_wp2_with fail
      refine K.out.mono ?_
      rintro e w1 ⟨rfl, rfl⟩
      go_wp2
      go_ret
      exact ⟨ret_bool (by have := H.out; simp_all), Below.refl _ _⟩
end Go.Proofs.YtndninajnkejnaaDoor
