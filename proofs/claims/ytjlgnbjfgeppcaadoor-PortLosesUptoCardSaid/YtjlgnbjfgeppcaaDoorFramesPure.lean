/- Arrive and Emit: what they come to: plain. -/
import Derived.Test.YtjlgnbjfgeppcaaDoorMsgOwn
import Derived.Test.YtjlgnbjfgeppcaaDoorPortCopies
namespace Go.Proofs.YtjlgnbjfgeppcaaDoor
open Go Go.RowKit
set_option linter.unusedVariables false

/-- A port's messages and age. -/
structure PortS where
  l : List ByteArray
  g : Int
/-- Behind Emit: the ports, the messages. -/
def outS (P : Nat → PortP) (V : Nat → PortV) (i : Nat) : PortS := bif inK (P i).kind then ⟨(V i).l, (V i).g⟩ else ⟨[], 0⟩
def outM (P : Nat → PortP) (V : Nat → PortV) : Nat → List MsgV
  | 0 => []
  | i + 1 => outM P V i ++ (bif inK (P i).kind then [] else (V i).l.map fun s => ⟨(i : Int), s⟩)
def rowsM (L : List MsgV) : List (List Value) := L.map MsgV.row
theorem rowsM_append (L K : List MsgV) : rowsM (L ++ K) = rowsM L ++ rowsM K := by simp [rowsM]
/-- All ports are in form. -/
def AllGood (P : Nat → PortP) (V : Nat → PortV) (n : Nat) : Prop := ∀ i, i < n → portC (P i) (V i).l (V i).g = 0
theorem allE_cases {P : Nat → PortP} {V : Nat → PortV} {n m c : Nat} {pl : Int} (h : AllE P V n m c pl) : (c ≠ 0 ∧ c ≤ 20) ∨ (c = 0 ∧ pl = -1 ∧ n = m ∧ AllGood P V n) := by
  cases h with
  | len _ => exact .inl (by decide)
  | plan k _ _ _ _ => exact .inl (by decide)
  | state k _ _ _ _ _ => exact .inl (by decide)
  | good h1 h2 h3 => exact .inr ⟨rfl, rfl, h1, fun i hi => portC_fit (h2 i hi) (h3 i hi)⟩
/-- Does a message go to its port? -/
def goes (P : Nat → PortP) (n : Nat) (S : Nat → PortS) (m : MsgV) : Bool :=
  decide (0 ≤ m.port) && decide (m.port < (n : Int)) && decide (addC (P m.port.toNat) (S m.port.toNat).l (S m.port.toNat).g m.data (inK (P m.port.toNat).kind) = 0)
def stepS (P : Nat → PortP) (n : Nat) (S : Nat → PortS) (m : MsgV) : Nat → PortS :=
  bif goes P n S m then fun i => bif decide (i = m.port.toNat) then ⟨addL (P i) (S i).l (S i).g m.data (inK (P i).kind), 0⟩ else S i else S
def dropOf (m : MsgV) : RepV := ⟨3, -1, BitVec.ofInt 32 m.port, 0#32⟩
def agedS (P : Nat → PortP) (V : Nat → PortV) (i : Nat) : PortS := ⟨(V i).l, ageG (P i) (V i).l (V i).g⟩
/-- Behind so many messages: the ports, the reports. -/
def arrS (P : Nat → PortP) (n : Nat) (S : Nat → PortS) (C : Nat → MsgV) : Nat → Nat → PortS
  | 0 => S
  | j + 1 => stepS P n (arrS P n S C j) (C j)
def arrD (P : Nat → PortP) (n : Nat) (S : Nat → PortS) (C : Nat → MsgV) : Nat → List RepV
  | 0 => []
  | j + 1 => bif goes P n (arrS P n S C j) (C j) then arrD P n S C j else arrD P n S C j ++ [dropOf (C j)]
theorem aged_good {P : Nat → PortP} {V : Nat → PortV} {n : Nat} (h : AllGood P V n) (i : Nat) (hi : i < n) : portC (P i) (agedS P V i).l (agedS P V i).g = 0 := by
  have h1 := age_good (h i hi)
  have e2 : ageL (P i) (V i).l (V i).g = (V i).l := by unfold ageL; rw [decide_eq_true (h i hi)]; rfl
  rw [e2] at h1
  exact h1
theorem addC_in {p : PortP} {l : List ByteArray} {g : Int} {D : ByteArray} {b : Bool} (h : addC p l g D b = 0) : b = true := by
  cases b with
  | true => rfl
  | false => have := addC_kind (D := D) (addC_zero' h); rw [this] at h; omega
theorem arr_good {P : Nat → PortP} {n : Nat} {S : Nat → PortS} {C : Nat → MsgV} (h : ∀ i, i < n → portC (P i) (S i).l (S i).g = 0) (j : Nat) : ∀ i, i < n → portC (P i) (arrS P n S C j i).l (arrS P n S C j i).g = 0 := by
  induction j with
  | zero => exact h
  | succ j ih =>
    intro i hi
    show portC (P i) (stepS P n (arrS P n S C j) (C j) i).l (stepS P n (arrS P n S C j) (C j) i).g = 0
    unfold stepS
    cases hg : goes P n (arrS P n S C j) (C j) with
    | false => exact ih i hi
    | true =>
      show portC (P i) (bif decide (i = (C j).port.toNat) then (⟨addL (P i) (arrS P n S C j i).l (arrS P n S C j i).g (C j).data (inK (P i).kind), 0⟩ : PortS) else arrS P n S C j i).l (bif decide (i = (C j).port.toNat) then (⟨addL (P i) (arrS P n S C j i).l (arrS P n S C j i).g (C j).data (inK (P i).kind), 0⟩ : PortS) else arrS P n S C j i).g = 0
      by_cases he : i = (C j).port.toNat
      · rw [decide_eq_true he]
        unfold goes at hg
        simp only [Bool.and_eq_true, decide_eq_true_eq] at hg
        have ha := hg.2
        rw [← he] at ha
        have hin := addC_in ha
        show portC (P i) (addL (P i) (arrS P n S C j i).l (arrS P n S C j i).g (C j).data (inK (P i).kind)) 0 = 0
        rw [hin] at ha ⊢
        exact add_good ha
      · rw [decide_eq_false he]
        exact ih i hi
end Go.Proofs.YtjlgnbjfgeppcaaDoor
