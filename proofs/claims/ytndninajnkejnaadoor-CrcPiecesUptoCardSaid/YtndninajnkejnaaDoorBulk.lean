/- What the second form's bound says of a slice of bytes. -/
import Derived.Test.YtndninajnkejnaaDoorFrameB
namespace Go.Proofs.YtndninajnkejnaaDoor
open Go Go.RowKit Go.ChangeShapes Go.WideShapes Go.ChangeAt
set_option linter.unusedVariables false
namespace bulks
theorem bound {H : Type} {l : List (DataW H)} (hk : Rows.uptoSmall H l = true) : Rows.uptoBulkAll l ≤ 1048576 := of_decide_eq_true hk
theorem lits_bulk {H : Type} (k : IntKind) (zs : List Int) : Rows.uptoBulkAll (lits k zs : List (DataW H)) = zs.length := by
  induction zs with
  | nil => simp [lits, Rows.uptoBulkAll]
  | cons z zs ih =>
    have e : (lits k (z :: zs) : List (DataW H)) = .lit (.int k z) :: lits k zs := rfl
    have e1 : Rows.uptoBulk (.lit (.int k z) : DataW H) = 1 := by simp [Rows.uptoBulk]
    rw [e, Rows.uptoBulkAll, ih, e1, List.length_cons]
    omega
end bulks
/-- A slice of bytes is no longer than its bulk. -/
theorem bytes_bulk {H : Type} {enc : TypeId × Value → H} {W : World} {held : Bool} {a : Option Addr} {n cap : Nat} {d : DataW H} {p : List MemPlace}
    (hr : ∃ fuel, DataW.trod enc Tryd.prog W 0 (fun _ => true) held fuel 22 (Value.slice a n cap).cells.toList = some (d, p)) : n ≤ Rows.uptoBulk d := by
  obtain ⟨fuel, hf⟩ := hr
  rcases open_ints Tryd.underlying22 Tryd.underlying5 cellsU8 hf with ⟨hcs, hx⟩ | ⟨x, len', cap', zs, hcs, _, hl, hm, hz, hx, hcell, hwz⟩
  · simp [Value.cells] at hcs
    omega
  · simp [Value.cells] at hcs
    obtain ⟨rfl, rfl, rfl⟩ := hcs
    have hz' : zs.length = cap := by simpa using hz
    simp only [Prod.mk.injEq] at hx
    rw [hx.1, Rows.uptoBulk, bulks.lits_bulk, bulks.lits_bulk]
    simp
    omega
end Go.Proofs.YtndninajnkejnaaDoor
