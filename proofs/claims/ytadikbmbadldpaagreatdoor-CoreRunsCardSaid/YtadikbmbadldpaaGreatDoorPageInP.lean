
/- Bytes put into pages; copying a string into a page's bytes. -/
import Derived.Test.YtadikbmbadldpaaGreatDoorPageRead
import Derived.Lib.LazyBuf
namespace Go.Proofs.YtadikbmbadldpaaGreatDoor
open Go Go.RowKit
set_option linter.unusedVariables false

/-- A byte put. -/
def putPg (p : PageV) (r : Nat) (c : BitVec 8) : PageV := { p with dirty := true, data := fun x => if x = r then c else p.data x }
def putB (P : Nat → PageV) (y : Nat) (c : BitVec 8) : Nat → PageV := upd P (y / 64) (putPg (P (y / 64)) (y % 64) c)
/-- Bytes put from an address on. -/
def inP (P : Nat → PageV) (ad : Nat) (f : Nat → BitVec 8) : Nat → Nat → PageV
  | 0 => P
  | k + 1 => putB (inP P ad f k) (ad + k) (f k)
/-- Bytes put into one page. -/
def pieceP (p : PageV) (r k : Nat) (g : Nat → BitVec 8) : PageV := { p with data := fun x => if r ≤ x ∧ x < r + k then g (x - r) else p.data x }
theorem inP_piece (P : Nat → PageV) (ad t q r : Nat) (f : Nat → BitVec 8) (hq : (ad + t) / 64 = q) (hr : (ad + t) % 64 = r) : ∀ k, r + (k + 1) ≤ 64 → inP P ad f (t + (k + 1)) = upd (inP P ad f t) q { pieceP (inP P ad f t q) r (k + 1) (fun i => f (t + i)) with dirty := true }
  | 0, _ => by
    show putB (inP P ad f t) (ad + t) (f t) = _
    unfold putB
    rw [hq, hr]
    congr 1
    unfold putPg pieceP
    congr 1
    funext x
    by_cases e : x = r
    · subst e
      have : x ≤ x ∧ x < x + (0 + 1) := by omega
      simp [this]
    · have : ¬ (r ≤ x ∧ x < r + (0 + 1)) := by omega
      simp [e, this]
  | k + 1, hk => by
    have ih := inP_piece P ad t q r f hq hr k (by omega)
    have e1 : inP P ad f (t + (k + 1 + 1)) = putB (inP P ad f (t + (k + 1))) (ad + (t + (k + 1))) (f (t + (k + 1))) := rfl
    rw [e1, ih]
    unfold putB
    rw [show (ad + (t + (k + 1))) / 64 = q by omega, show (ad + (t + (k + 1))) % 64 = r + (k + 1) by omega, upd_upd, upd_at]
    congr 1
    unfold putPg pieceP
    congr 1
    funext x
    by_cases e : x = r + (k + 1)
    · subst e
      have : r ≤ r + (k + 1) ∧ r + (k + 1) < r + (k + 1 + 1) := by omega
      simp [this]
    · have : (r ≤ x ∧ x < r + (k + 1 + 1)) ↔ (r ≤ x ∧ x < r + (k + 1)) := by omega
      simp [e, this]
/-- What lies where, behind it. -/
theorem inP_rights (P : Nat → PageV) (ad : Nat) (f : Nat → BitVec 8) (i : Nat) : ∀ k, (inP P ad f k i).rights = (P i).rights
  | 0 => rfl
  | k + 1 => by
    show (putB (inP P ad f k) (ad + k) (f k) i).rights = _
    unfold putB
    by_cases e : i = (ad + k) / 64
    · subst e; rw [upd_at]; exact inP_rights P ad f _ k
    · rw [upd_other _ _ _ _ e]; exact inP_rights P ad f i k
theorem inP_in (P : Nat → PageV) (ad : Nat) (f : Nat → BitVec 8) : ∀ k j, j < k → (inP P ad f k ((ad + j) / 64)).data ((ad + j) % 64) = f j ∧ (inP P ad f k ((ad + j) / 64)).dirty = true
  | k + 1, j, hj => by
    show (putB (inP P ad f k) (ad + k) (f k) ((ad + j) / 64)).data _ = _ ∧ (putB (inP P ad f k) (ad + k) (f k) ((ad + j) / 64)).dirty = _
    unfold putB
    by_cases e : (ad + j) / 64 = (ad + k) / 64
    · rw [e, upd_at]
      refine ⟨?_, rfl⟩
      unfold putPg
      by_cases e2 : (ad + j) % 64 = (ad + k) % 64
      · have : j = k := by omega
        subst this
        simp
      · simp only [e2, if_false]
        have := (inP_in P ad f k j (by omega)).1
        rw [e] at this
        exact this
    · rw [upd_other _ _ _ _ e]
      exact inP_in P ad f k j (by
        rcases Nat.lt_or_ge j k with h | h
        · exact h
        · have : j = k := by omega
          subst this; exact absurd rfl e)
theorem inP_out (P : Nat → PageV) (ad : Nat) (f : Nat → BitVec 8) (i x : Nat) (hx : x < 64) : ∀ k, (64 * i + x < ad ∨ ad + k ≤ 64 * i + x) → (inP P ad f k i).data x = (P i).data x
  | 0, _ => rfl
  | k + 1, h => by
    have ih := inP_out P ad f i x hx k (by omega)
    show (putB (inP P ad f k) (ad + k) (f k) i).data x = _
    unfold putB
    by_cases e : i = (ad + k) / 64
    · subst e; rw [upd_at]
      unfold putPg
      have : ¬ x = (ad + k) % 64 := by omega
      simp only [this, if_false]
      exact ih
    · rw [upd_other _ _ _ _ e]; exact ih
theorem inP_page (P : Nat → PageV) (ad : Nat) (f : Nat → BitVec 8) (i : Nat) : ∀ k, (∀ j, j < k → (ad + j) / 64 ≠ i) → inP P ad f k i = P i
  | 0, _ => rfl
  | k + 1, h => by
    show putB (inP P ad f k) (ad + k) (f k) i = _
    unfold putB
    rw [upd_other _ _ _ _ (fun e => h k (by omega) e.symm)]
    exact inP_page P ad f i k (fun j hj => h j (by omega))
theorem pieceP_more (p : PageV) (r k : Nat) (g : Nat → BitVec 8) : (pieceP p r (k + 1) g).row = (pieceP p r k g).row.set (r + k + 2) (.int .u8 ((g k).toNat : Int)) := by
  rw [← row_set_data]
  congr 1
  unfold pieceP
  congr 1
  funext x
  by_cases e : x = r + k
  · subst e
    have : r ≤ r + k ∧ r + k < r + (k + 1) := by omega
    simp [this]
  · have : (r ≤ x ∧ x < r + (k + 1)) ↔ (r ≤ x ∧ x < r + k) := by omega
    simp [e, this]
theorem pieceP_zero (p : PageV) (r : Nat) (g : Nat → BitVec 8) : pieceP p r 0 g = p := by
  have h : (fun x => if r ≤ x ∧ x < r + 0 then g (x - r) else p.data x) = p.data := by
    funext x
    have : ¬ (r ≤ x ∧ x < r + 0) := by omega
    simp only [this, if_false]
  unfold pieceP
  rw [h]
/-- Bytes as cells. -/
def cellsB (g : Nat → BitVec 8) (k : Nat) : List Value := (List.range k).map fun i => Value.int .u8 ((g i).toNat : Int)
theorem cellsB_length (g : Nat → BitVec 8) (k : Nat) : (cellsB g k).length = k := by simp [cellsB]
theorem setCells_snoc (b : Nat) (v : Value) : ∀ (l : List Value) (o : Nat) (w : World), w.setCells b o (l ++ [v]) = (w.setCells b o l).setCell ⟨b, o + l.length, none⟩ v
  | [], o, w => rfl
  | u :: r, o, w => by
    rw [List.cons_append, World.setCells, World.setCells, setCells_snoc b v r (o + 1), List.length_cons]
    congr 2
    omega
theorem cellsB_snoc (g : Nat → BitVec 8) (k : Nat) : cellsB g (k + 1) = cellsB g k ++ [Value.int .u8 ((g k).toNat : Int)] := by
  simp [cellsB, List.range_succ]
theorem OwnP.pieces {w : World} {B b n cap : Nat} {P : Nat → PageV} (h : OwnP w B (.slice (some ⟨b, 0, none⟩) n cap) n P) (q r : Nat) (g : Nat → BitVec 8) (hq : q < n) : ∀ k, r + k ≤ 64 →
    OwnP (w.setCells b (q * 66 + 2 + r) (cellsB g k)) B (.slice (some ⟨b, 0, none⟩) n cap) n (upd P q (pieceP (P q) r k g)) ∧ Touch b w (w.setCells b (q * 66 + 2 + r) (cellsB g k))
  | 0, _ => by
    rw [pieceP_zero, upd_same]
    exact ⟨h, Touch.refl _ _⟩
  | k + 1, hk => by
    obtain ⟨h1, h2⟩ := OwnP.pieces h q r g hq k (by omega)
    rw [cellsB_snoc, setCells_snoc, cellsB_length]
    refine ⟨?_, h2.trans (Touch.setCell _ _ _ _)⟩
    have := OwnP.upd_stored q _ (pieceP (P q) r (k + 1) g) (.int .u8 ((g k).toNat : Int)) (r + k + 2) h1 hq (by omega) (pieceP_more _ _ _ _)
    rw [show q * 66 + (r + k + 2) = q * 66 + 2 + r + k by omega] at this
    exact this
theorem run_copy_str {P : Program} (w : World) (dT sT ty elem : TypeId) (b o dLen dCap : Nat) (t : ByteArray) (n : Nat) (cs : List Value)
    (hu : P.underlying dT = some (.slice elem)) (hz : ∀ w, (Go.sizeOf elem).run P w = .ok 1 w) (hn : Nat.min t.size dLen = n) (hcs : (t.data.toList.map fun x => Value.int .u8 (x.toNat : Int)).take n = cs) (hl : cs.length = n)
    (hc : ∀ j, j < n → (w.cell? ⟨b, o + j, none⟩).isSome = true) (hf : ∀ j, j < n → w.frozen? ⟨b, o + j, none⟩ = false) :
    (Builtin.copy_ #[dT, sT] ty #[.slice (some ⟨b, o, none⟩) dLen dCap, .string t]).run P w = .ok (goInt n) (w.setCells b o cs) := by
  have hst := run_storeCells_cells (P := P) b o cs 0 w (by rw [hl]; simpa using hc) (by rw [hl]; simpa using hf) (by
    intro v hv
    rw [← hcs] at hv
    obtain ⟨x, _, rfl⟩ := List.mem_map.1 (List.mem_of_mem_take hv)
    rfl)
  simp [Builtin.copy_, run_underlying hu, Builtin.lenOf, Builtin.firstCells, hz, hn]
  rw [hcs, hst]
  rfl
end Go.Proofs.YtadikbmbadldpaaGreatDoor
