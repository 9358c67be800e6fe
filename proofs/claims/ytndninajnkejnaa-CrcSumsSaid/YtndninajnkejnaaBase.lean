/- Small lemmas on slices of whole numbers that are read, and on worlds. -/
import Derived.WalkKit
import Derived.WalkLawsBesides
import Derived.WalkSpells
import Derived.Below
import Derived.Lib.Hide
namespace Go.Proofs.Ytndninajnkejnaa
open Go Go.RowKit
set_option linter.unusedVariables false

theorem ret_int {k : IntKind} {a b : Int} (h : a = b) : Ending.returned (.int k a) = .returned (.int k b) := by rw [h]
theorem ret_bool {a b : Bool} (h : a = b) : Ending.returned (.bool a) = .returned (.bool b) := by rw [h]

/-- A fact that the walk does not look into. -/
structure Kp (p : Prop) : Prop where mk :: (out : p)
theorem Kp.lt {a b : Int} (h : a < b) : decide (a < b) = true := decide_eq_true h
/-- A slice of bytes that can be read: its elements. -/
def RdB (w : World) (a : Option Addr) (n : Nat) (l : List (BitVec 8)) : Prop :=
  l.length = n ∧ n ≤ 140737488355328 ∧ (0 < n → ∃ b off, a = some ⟨b, off, none⟩ ∧ ∀ j, j < n → w.cell? ⟨b, off + j, none⟩ = some (.int .u8 ((l.getD j 0#8).toNat : Int)))
theorem RdB.below {w w1 : World} {B : Nat} {a : Option Addr} {n : Nat} {l : List (BitVec 8)} (h : RdB w a n l) (hb : Below B w w1) (hB : ∀ x, a = some x → x.block < B) : RdB w1 a n l :=
  ⟨h.1, h.2.1, fun hn => by
    obtain ⟨b, off, e, hc⟩ := h.2.2 hn
    exact ⟨b, off, e, fun j hj => (hb.cell (p := ⟨b, off + j, none⟩) (show b < B from hB _ e)).trans (hc j hj)⟩⟩
theorem RdB.lt {w : World} {a : Option Addr} {n : Nat} {l : List (BitVec 8)} (h : RdB w a n l) (hn : 0 < n) : ∃ b off, a = some ⟨b, off, none⟩ ∧ b < w.heap.size := by
  obtain ⟨b, off, e, hc⟩ := h.2.2 hn
  exact ⟨b, off, e, World.block_lt_of_cell? w ⟨b, off + 0, none⟩ (hc 0 hn)⟩
/-- It reads so in a later world. -/
theorem RdB.later {w w1 : World} {a : Option Addr} {n : Nat} {l : List (BitVec 8)} (h : RdB w a n l) (hb : Below w.heap.size w w1) : RdB w1 a n l :=
  ⟨h.1, h.2.1, fun hn => by
    obtain ⟨b, off, e, hc⟩ := h.2.2 hn
    exact ⟨b, off, e, fun j hj => (hb.cell (p := ⟨b, off + j, none⟩) (World.block_lt_of_cell? w ⟨b, off + j, none⟩ (hc j hj))).trans (hc j hj)⟩⟩
end Go.Proofs.Ytndninajnkejnaa
