
/- Small lemmas on slices of whole numbers that are read, and on worlds. -/
import Derived.WalkKit
import Derived.WalkLawsBesides
import Derived.WalkSpells
import Derived.Below
import Derived.Lib.Hide
namespace Go.Proofs.YtadikbmbadldpaaGreatDoor
open Go Go.RowKit
set_option linter.unusedVariables false

theorem ret_int {k : IntKind} {a b : Int} (h : a = b) : Ending.returned (.int k a) = .returned (.int k b) := by rw [h]
theorem ret_bool {a b : Bool} (h : a = b) : Ending.returned (.bool a) = .returned (.bool b) := by rw [h]

/-- A fact that the walk does not look into. -/
structure Kp (p : Prop) : Prop where mk :: (out : p)
theorem Kp.lt {a b : Int} (h : a < b) : decide (a < b) = true := decide_eq_true h
/-- A slice of bytes that can be read: its elements. -/
structure RdB (w : World) (a : Option Addr) (n cap : Nat) (l : List (BitVec 8)) : Prop where
  len : l.length = n
  fits : n ≤ cap
  bound : n ≤ 140737488355328
  nil : a = none → cap = 0
  cells : 0 < n → ∃ b off, a = some ⟨b, off, none⟩ ∧ ∀ j, j < n → w.cell? ⟨b, off + j, none⟩ = some (.int .u8 ((l.getD j 0#8).toNat : Int))
theorem RdB.le {w : World} {a : Option Addr} {n cap : Nat} {l : List (BitVec 8)} (h : RdB w a n cap l) : n ≤ 140737488355328 := h.bound
/-- It reads so in a later world. -/
theorem RdB.later {w w1 : World} {a : Option Addr} {n cap : Nat} {l : List (BitVec 8)} (h : RdB w a n cap l) (hb : Below w.heap.size w w1) : RdB w1 a n cap l :=
  ⟨h.len, h.fits, h.bound, h.nil, fun hn => by
    obtain ⟨b, off, e, hc⟩ := h.cells hn
    exact ⟨b, off, e, fun j hj => (hb.cell (p := ⟨b, off + j, none⟩) (World.block_lt_of_cell? w ⟨b, off + j, none⟩ (hc j hj))).trans (hc j hj)⟩⟩
/-- The bytes as cells. -/
def bv (l : List (BitVec 8)) : List Value := l.map fun c => .int .u8 (c.toNat : Int)
theorem bv_length (l : List (BitVec 8)) : (bv l).length = l.length := by simp [bv]
theorem bv_append (l m : List (BitVec 8)) : bv (l ++ m) = bv l ++ bv m := by simp [bv]
theorem bv_get (l : List (BitVec 8)) (j : Nat) (h : j < l.length) : (bv l)[j]? = some (.int .u8 ((l.getD j 0#8).toNat : Int)) := by
  simp [bv, List.getD_eq_getElem?_getD, h]
theorem bv_one (l : List (BitVec 8)) : ∀ u ∈ bv l, u.oneCell' = true := by
  intro u hu
  simp only [bv, List.mem_map] at hu
  obtain ⟨c, _, rfl⟩ := hu
  rfl
theorem bv_set (l : List (BitVec 8)) (j : Nat) (c : BitVec 8) : (bv l).set j (.int .u8 (c.toNat : Int)) = bv (l.set j c) := by simp [bv, List.map_set]
/-- A row of bytes of the call's own can be read. -/
theorem RdB.own {w : World} {B : Nat} {E : TypeId} {a : Option Addr} {n cap : Nat} {l : List (BitVec 8)} (h : w.ownsRow B E 1 (.slice a n cap) n (bv l)) (hcap : n ≤ 140737488355328) : RdB w a n cap l := by
  have hl : l.length = n := by have := h.1; rw [bv_length] at this; omega
  rcases h.2 with ⟨hv, h0⟩ | ⟨g, cap', cur, hv, hb, hh, hf, hm, hcs, ht⟩
  · simp only [Value.slice.injEq] at hv
    obtain ⟨rfl, rfl, rfl⟩ := hv
    exact ⟨hl, by omega, by omega, fun _ => rfl, fun hn => by omega⟩
  · simp only [Value.slice.injEq] at hv
    obtain ⟨rfl, _, rfl⟩ := hv
    refine ⟨hl, hf, hcap, (fun h => by cases h), fun hn => ⟨g, 0, rfl, fun j hj => ?_⟩⟩
    have hc := World.ownsRow.cellAt h j (by omega)
    rw [Nat.zero_add, hc, bv_get l j (by omega)]
end Go.Proofs.YtadikbmbadldpaaGreatDoor
