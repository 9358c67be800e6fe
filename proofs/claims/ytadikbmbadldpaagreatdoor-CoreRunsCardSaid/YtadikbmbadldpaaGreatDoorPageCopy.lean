
/- The document's Copy of pages, walked; equality of pages and of their bytes. -/
import Derived.Test.YtadikbmbadldpaaGreatDoorPageBase
import Derived.Great.BuildSlice
import Derived.Great.FillDense
namespace Go.Proofs.YtadikbmbadldpaaGreatDoor
open Go Go.RowKit
set_option linter.unusedVariables false

/-- One page as a slice literal. -/
theorem build_page {ops : Array Oper} {rest : List Oper} {o : Oper} {a : Act} {w : World} {Q : Exit → Act → World → Prop} (hg : o.guard = none) (x : Operand) (ho : o.op = .buildSlice 22 1 #[(0, x)])
    (cs : Array Value) (hx : a.eval x = .agg cs) (hs : cs.size = 66)
    (h : wpList Tryz.prog ops Q rest (a.put o.dst (.slice (some ⟨w.heap.size, 0, none⟩) 1 1)) (w.alloc (.cells cs 47))) : wpList Tryz.prog ops Q (o :: rest) a w := by
  obtain ⟨i, hi, hz0, hz1, hz2⟩ := info_parts infoPage
  refine wpList_buildSlice hg 22 47 1 #[(0, x)] ho cs i _ Tryz.underlying22 hi hz0 (by rw [hz1]; decide) (by rw [hz1]; decide) ?_ h
  rw [hz1]
  have e : ∀ Z : Array Value, 1 * 66 = Z.size → Instr.fill (fun i => some (i * 66, 66)) Z [(0, Value.agg cs)] = some cs := fun Z hZ => by
    have e := Great.fill_whole (s := 66) (by decide) [Value.agg cs] Z (fun v hv => by simp at hv; subst hv; exact hs) hZ
    simpa [Value.cells] using e
  have e2 := e ((Array.range (1 * 66)).map ((Value.agg (PageV.row ⟨0, false, fun _ => 0#8⟩).toArray).cells[· % (Value.agg (PageV.row ⟨0, false, fun _ => 0#8⟩).toArray).cells.size]!)) (by rw [Array.size_map, Array.size_range])
  rw [← hx] at e2
  have e3 : (Array.map (fun x => match x with | (i, x) => (i, a.eval x)) #[(0, x)]).toList = [(0, a.eval x)] := by simp
  rw [e3]
  exact e2
/-- Pages can be read one by one. -/
theorem RdP.page {w : World} {a : Option Addr} {n cap : Nat} {P : Nat → PageV} (h : RdP w a n cap P) {b off : Nat} (ha : a = some ⟨b, off, none⟩) (k : Nat) (hk : k < n) : w.rangeAt b (off + k * 66) (P k).row := by
  obtain ⟨b', off', e, hc⟩ := h.cells (by omega)
  rw [ha] at e
  simp only [Option.some.injEq, Addr.mk.injEq, and_true] at e
  obtain ⟨rfl, rfl⟩ := e
  exact hc k hk
theorem own_base66 {w : World} {B : Nat} {E : TypeId} {s : Nat} {v : Value} {n : Nat} {xs : List Value} (h : w.ownsRow B E s v n xs) {j : Nat} (hj : v.ownBlock = some j) : B ≤ j := by
  rcases h.2 with ⟨h', _⟩ | ⟨g, cap, cur, h', hb, _⟩
  · subst h'; simp [Value.ownBlock] at hj
  · subst h'; simp [Value.ownBlock] at hj; omega
set_option maxRecDepth 100000 in
set_option maxHeartbeats 4000000 in
theorem ref_copy (a : Option Addr) (n cap : Nat) (P : Nat → PageV) (w : World) (h : RdP w a n cap P) :
    Calls Tryz.prog 21 #[.slice a n cap] w fun e w' => ∃ v, e = .returned v ∧ OwnP w' w.heap.size v n P ∧ Below w.heap.size w w' := by
  have H0 := Kp.mk h
  have hn := h.bound
  clear h
  go_enter Tryz.func21, Tryz.ntmps21
  go_wp2
  go_loopw [3, 4] (fun v i wr => ∃ k : Nat, k ≤ n ∧ i = .int .i64 k ∧ Kp (OwnP wr w.heap.size v k P) ∧ Kp (Below w.heap.size w wr)) (fun _ i _ => n - (intOf i).toNat)
  case atStart => exact ⟨0, by omega, rfl, ⟨OwnP.nil _ _ _⟩, ⟨Below.refl _ _⟩⟩
  case round =>
    obtain ⟨k, hk, rfl, HO, HB⟩ := hrel
    by_cases hlt : k < n
    · have hb : decide ((k : Int) < n) = true := decide_eq_true (by omega)
      obtain ⟨b, off, ha, _⟩ := H0.out.cells (by omega)
      have HC := Kp.mk (prange_later (H0.out.page ha k hlt) HB.out)
      subst ha
      obtain ⟨p, hp⟩ : ∃ p, p = P k := ⟨_, rfl⟩
      have HP := Kp.mk hp
      rw [← hp] at HC
      clear hp
      obtain ⟨w2, hw2⟩ : ∃ w2, w2 = wr.alloc (.cells p.row.toArray 47) := ⟨_, rfl⟩
      have HA : Kp (Below wr.heap.size wr w2) := ⟨by rw [hw2]; exact (Below.refl _ _).alloc (Nat.le_refl _) _⟩
      have HX : Kp (∀ j u, p.row[j]? = some u → w2.cell? ((⟨wr.heap.size, 0, none⟩ : Addr).add j) = some u) := ⟨fun j u hu => by
        rw [Addr.add_mid, Nat.zero_add, hw2, World.cell?_alloc_new]
        simpa using hu⟩
      have HW := Kp.mk hw2
      clear hw2
      go_wp2_with (first
        | (refine wpList_load_mid rfl 47 _ rfl b (off + k * 66) rfl p.row _ HC.out Tryz.underlying47 rfl (by rw [PageV.row_length]; rfl) ?_)
        | (refine build_page rfl _ rfl p.row.toArray rfl (by simp [PageV.row_length]) ?_; rw [← HW.out])
        | (refine append_pages rfl _ _ rfl w.heap.size _ k _ rfl (HO.out.later HA.out) ⟨wr.heap.size, 0, none⟩ 1 1 p.row rfl (by rw [PageV.row_length]) HX.out (PageV.row_one p) (by omega) (Nat.le_trans HB.out.size HA.out.size) ?_; rintro v' w3 ho3 hg3 _))
      have HB3 := Kp.mk (HB.out.trans (HA.out.mono HB.out.size))
      have HG := Kp.mk (HB3.out.grown hg3 HB3.out.size (fun j hj => own_base66 HO.out hj))
      have HO3 : Kp (OwnP w3 w.heap.size v' (k + 1) P) := ⟨by rw [HP.out] at ho3; exact ho3⟩
      clear ho3 hg3
      go_roundw
      case rel => exact ⟨k + 1, by omega, by go_num, HO3, HG⟩
      case measure => simp [intOf]; omega
    · have : k = n := by omega
      subst this
      have hb : decide ((k : Int) < k) = false := by simp
      go_wp2
      go_ret
      exact ⟨_, rfl, HO.out, HB.out⟩
end Go.Proofs.YtadikbmbadldpaaGreatDoor
