
/- The program's Poke, Copy, Store of pages, walked. -/
import Derived.Test.YtadikbmbadldpaaGreatDoorPageLook
namespace Go.Proofs.YtadikbmbadldpaaGreatDoor
open Go Go.RowKit
set_option linter.unusedVariables false

/-- Only one block is touched; more may have been added. -/
structure Touch (g : Nat) (w w' : World) : Prop where
  below : ∀ B, B ≤ g → B ≤ w.heap.size → Below B w w'
  other : ∀ k, k < w.heap.size → k ≠ g → w'.heap[k]? = w.heap[k]?
  size : w.heap.size ≤ w'.heap.size
theorem Touch.refl (g : Nat) (w : World) : Touch g w w := ⟨fun _ _ _ => Below.refl _ _, fun _ _ _ => rfl, Nat.le_refl _⟩
theorem Touch.trans {g : Nat} {a b c : World} (h : Touch g a b) (k : Touch g b c) : Touch g a c :=
  ⟨fun B h1 h2 => (h.below B h1 h2).trans (k.below B h1 (Nat.le_trans h2 h.size)), fun j h1 h2 => (k.other j (Nat.lt_of_lt_of_le h1 h.size) h2).trans (h.other j h1 h2), Nat.le_trans h.size k.size⟩
theorem Touch.of_below {g : Nat} {w w' : World} (h : Below w.heap.size w w') : Touch g w w' :=
  ⟨fun B _ h2 => h.mono h2, fun k h1 _ => h.block k h1, h.size⟩
theorem Touch.setCell (g j : Nat) (w : World) (v : Value) : Touch g w (w.setCell ⟨g, j, none⟩ v) :=
  ⟨fun B h1 _ => (Below.refl B w).setCell (p := ⟨g, j, none⟩) h1 v, fun k h1 h2 => by
    exact Below.heap_setCell w ⟨g, j, none⟩ v k h2, by
    have := ((Below.refl 0 w).setCell (p := ⟨g, j, none⟩) (Nat.zero_le _) v).size
    exact this⟩
theorem OwnP.touch {g : Nat} {w w1 : World} {B : Nat} {v : Value} {n : Nat} {P : Nat → PageV} (h : OwnP w B v n P) (hb : Touch g w w1) (hg : v.ownBlock ≠ some g) : OwnP w1 B v n P := by
  refine ⟨h.1, ?_⟩
  rcases h.2 with h' | ⟨g', cap, cur, hv, hg', hh, r⟩
  · exact .inl h'
  · refine .inr ⟨g', cap, cur, hv, hg', (hb.other _ (Array.getElem?_eq_some_iff.1 hh).1 ?_).trans hh, r⟩
    intro e
    apply hg
    rw [hv]
    simp [Value.ownBlock, e]
/-- One page of them replaced, twice. -/
theorem upd_upd (P : Nat → PageV) (k : Nat) (p q : PageV) : upd (upd P k p) k q = upd P k q := by
  funext i; unfold upd; split <;> rfl
theorem upd_same (P : Nat → PageV) (k : Nat) : upd P k (P k) = P := by
  funext i; unfold upd; split
  · rename_i h; rw [h]
  · rfl
theorem upd_at (P : Nat → PageV) (k : Nat) (p : PageV) : upd P k p k = p := by simp [upd]
theorem upd_other (P : Nat → PageV) (k i : Nat) (p : PageV) (h : i ≠ k) : upd P k p i = P i := by simp [upd, h]
/-- A page with the last bytes of a number put. -/
def putD (p : PageV) (r s t x : Nat) : PageV := { p with data := fun y => if r + t ≤ y ∧ y < r + s then BitVec.ofNat 8 (x / 256 ^ (r + s - 1 - y)) else p.data y }
theorem putD_all (p : PageV) (r s x : Nat) : putD p r s s x = p := by
  have : ∀ y, ¬ (r + s ≤ y ∧ y < r + s) := fun y => by omega
  cases p
  simp [putD, this]
theorem putD_at (p : PageV) (r s t x y : Nat) (ht : t < s) : (putD p r s t x).data y = if y = r + t then BitVec.ofNat 8 (x / 256 ^ (s - 1 - t)) else (putD p r s (t + 1) x).data y := by
  by_cases e : y = r + t
  · subst e
    have h1 : r + t ≤ r + t ∧ r + t < r + s := by omega
    have h2 : r + s - 1 - (r + t) = s - 1 - t := by omega
    simp only [putD, h1, and_self, if_true, h2]
  · simp only [putD, e, if_false]
    have : (r + t ≤ y ∧ y < r + s) ↔ (r + (t + 1) ≤ y ∧ y < r + s) := by omega
    simp only [this]
theorem putD_row (p : PageV) (r s t x : Nat) (ht : t < s) : (putD p r s t x).row = (putD p r s (t + 1) x).row.set (r + t + 2) (.int .u8 ((BitVec.ofNat 8 (x / 256 ^ (s - 1 - t))).toNat : Int)) := by
  rw [← row_set_data]
  have hd : (putD p r s t x).data = fun i => if i = r + t then BitVec.ofNat 8 (x / 256 ^ (s - 1 - t)) else (putD p r s (t + 1) x).data i := by
    funext y
    exact putD_at p r s t x y ht
  have he : putD p r s t x = { putD p r s (t + 1) x with data := (putD p r s t x).data } := rfl
  rw [he, hd]
theorem putD_cell (p : PageV) (r s t x : Nat) (ht : r + t < 64) : (putD p r s (t + 1) x).row[r + t + 2]? = some (.int .u8 ((p.data (r + t)).toNat : Int)) := by
  rw [PageV.row_data _ (r + t) ht]
  have : ¬ (r + (t + 1) ≤ r + t ∧ r + t < r + s) := by omega
  simp only [putD, this, if_false]
theorem store_eq (P : Nat → PageV) (ad s x : Nat) : Pg.store P ad s x = upd P (ad / 64) { putD (P (ad / 64)) (ad % 64) s 0 x with dirty := true } := by
  unfold Pg.store putD
  simp only [Nat.add_zero]
theorem OwnP.upd_stored {w : World} {B g n cap : Nat} {P : Nat → PageV} (q : Nat) (p p' : PageV) (v : Value) (j : Nat) (h : OwnP w B (.slice (some ⟨g, 0, none⟩) n cap) n (upd P q p)) (hq : q < n) (hj : j < 66) (hp : p'.row = p.row.set j v) :
    OwnP (w.setCell ⟨g, q * 66 + j, none⟩ v) B (.slice (some ⟨g, 0, none⟩) n cap) n (upd P q p') := by
  have := OwnP.stored h q j hq hj p' v (by rw [upd_at]; exact hp)
  rwa [upd_upd] at this
/-- What Poke leaves. -/
def pokeP (P : Nat → PageV) (n ad s x : Nat) : Nat → PageV := bif decide (lookF P n ad s 1 = 0) then Pg.store P ad s x else P
theorem OwnP.shape {w : World} {B n : Nat} {v : Value} {P : Nat → PageV} (h : OwnP w B v n P) (hn : 0 < n) : ∃ g cap, v = .slice (some ⟨g, 0, none⟩) n cap ∧ B ≤ g ∧ g < w.heap.size := by
  rcases h.2 with ⟨_, h0⟩ | ⟨g, cap, cur, hv, hb, hh, _⟩
  · omega
  · exact ⟨g, cap, hv, hb, (Array.getElem?_eq_some_iff.1 hh).1⟩
set_option maxRecDepth 100000 in
set_option maxHeartbeats 4000000 in
theorem page_poke_yes (w : World) (B g n cap : Nat) (P : Nat → PageV) (h : OwnP w B (.slice (some ⟨g, 0, none⟩) n cap) n P) (hn : n ≤ 1759218604441) (ad s x : Nat) (had : ad < 4294967296) (hs : okSize s) (hx : x < 4294967296) (h0 : lookF P n ad s 1 = 0) :
    Calls Tryz.prog 48 #[.slice (some ⟨g, 0, none⟩) n cap, .int .u32 (ad : Int), .int .i64 (s : Int), .int .u32 (x : Int)] w fun e w' => e = .returned (.tuple #[.int .i64 0, .nilIface]) ∧ OwnP w' B (.slice (some ⟨g, 0, none⟩) n cap) n (Pg.store P ad s x) ∧ Touch g w w' := by
  obtain ⟨aa, cc, e1, hrd⟩ := h.rd hn
  simp only [Value.slice.injEq, true_and] at e1
  obtain ⟨rfl, rfl⟩ := e1
  have K := Kp.mk (page_look _ n cap P w hrd ad s 1 had hs (by decide) 2 5 (by decide) (by decide))
  obtain ⟨z1, z2, z3⟩ := lookF_zero.1 h0
  rw [h0] at K
  have hr := hs.room z1
  have hs1 := hs.le
  have HST : Kp (Pg.store P ad s x = upd P (ad / 64) { putD (P (ad / 64)) (ad % 64) s 0 x with dirty := true }) := ⟨store_eq P ad s x⟩
  obtain ⟨S, hS⟩ : ∃ S, S = Pg.store P ad s x := ⟨_, rfl⟩
  rw [← hS] at HST ⊢
  obtain ⟨q, hqq⟩ : ∃ q, q = ad / 64 := ⟨_, rfl⟩
  obtain ⟨r, hrr⟩ : ∃ r, r = ad % 64 := ⟨_, rfl⟩
  rw [← hqq] at HST z2
  rw [← hrr] at HST hr
  have hq1 : (ad : Int) / 64 = (q : Int) := by omega
  have hr1 : (ad : Int) % 64 = (r : Int) := by omega
  have HO : Kp (OwnP w B (.slice (some ⟨g, 0, none⟩) n cap) n (upd P q (putD (P q) r s s x))) := ⟨by rw [putD_all, upd_same]; exact h⟩
  clear hqq hrr hS h h0 z1 z3 hs hrd
  go_enter Tryz.func48, Tryz.ntmps48
  go_wp2_with (refine K.out.mono ?_; rintro e w' ⟨rfl, hw⟩; obtain rfl := hw.symm)
  go_loopw [3, 14] (fun v i wr => ∃ t y : Nat, t ≤ s ∧ i = .int .i64 ((t : Int) - 1) ∧ v = .int .u32 (y : Int) ∧ Kp (y = x / 256 ^ (s - t)) ∧ y < 4294967296 ∧ Kp (OwnP wr B (.slice (some ⟨g, 0, none⟩) n cap) n (upd P q (putD (P q) r s t x))) ∧ Kp (Touch g w wr)) (fun _ i _ => (intOf i + 1).toNat)
  case atStart => exact ⟨s, x, by omega, by go_num, rfl, ⟨by simp⟩, hx, HO, ⟨Touch.refl _ _⟩⟩
  case round =>
    obtain ⟨t, y, ht, rfl, rfl, HY, hy, HO, HT⟩ := hrel
    rcases t with _ | t
    · have k1 : wr.cell? ⟨g, q * 66 + 1, none⟩ = some (.bool (P q).dirty) := by
        rw [HO.out.cell q 1 z2 (by decide), upd_at]; rfl
      have k2 : wr.frozen? ⟨g, q * 66 + 1, none⟩ = false := HO.out.frozen _
      have HO2 : Kp (OwnP (wr.setCell ⟨g, q * 66 + 1, none⟩ (.bool true)) B (.slice (some ⟨g, 0, none⟩) n cap) n S) := ⟨by
        rw [HST.out]
        exact OwnP.upd_stored q _ _ _ 1 HO.out z2 (by decide) (row_set_dirty _ true)⟩
      have HT2 := Kp.mk (HT.out.trans (Touch.setCell g (q * 66 + 1) wr (.bool true)))
      go_wp2
      go_ret2
      exact ⟨rfl, HO2.out, HT2.out⟩
    · have e : ((t + 1 : Nat) : Int) - 1 = (t : Int) := by omega
      rw [e]
      have hrt : r + t < 64 := by omega
      have k1 : wr.cell? ⟨g, q * 66 + 2 + (r + t), none⟩ = some (.int .u8 (((P q).data (r + t)).toNat : Int)) := by
        have := HO.out.cell q (r + t + 2) z2 (by omega)
        rw [upd_at, putD_cell _ _ _ _ _ hrt] at this
        rw [← this]
        congr 2
        omega
      have k2 : wr.frozen? ⟨g, q * 66 + 2 + (r + t), none⟩ = false := HO.out.frozen _
      obtain ⟨c, hc⟩ : ∃ c, c = BitVec.ofNat 8 y := ⟨_, rfl⟩
      have hc8 : (y : Int) % 256 = (c.toNat : Int) := by rw [hc, BitVec.toNat_ofNat]; omega
      obtain ⟨z, hz⟩ : ∃ z, z = y / 256 := ⟨_, rfl⟩
      have hz1 : (y : Int) / 256 = (z : Int) := by rw [hz]; omega
      have HZ : Kp (z = x / 256 ^ (s - t)) := ⟨by
        have e2 : s - t = (s - (t + 1)) + 1 := by omega
        rw [hz, HY.out, e2, Nat.pow_succ, Nat.div_div_eq_div_mul]⟩
      have hz2 : z < 4294967296 := by rw [hz]; omega
      have HO2 : Kp (OwnP (wr.setCell ⟨g, q * 66 + 2 + (r + t), none⟩ (.int .u8 (c.toNat : Int))) B (.slice (some ⟨g, 0, none⟩) n cap) n (upd P q (putD (P q) r s t x))) := ⟨by
        have := OwnP.upd_stored q _ (putD (P q) r s t x) (.int .u8 (c.toNat : Int)) (r + t + 2) HO.out z2 (by omega) (by rw [putD_row _ _ _ _ _ (by omega), hc, HY.out, show s - 1 - t = s - (t + 1) by omega])
        have e3 : q * 66 + (r + t + 2) = q * 66 + 2 + (r + t) := by omega
        rw [e3] at this
        exact this⟩
      have HT2 := Kp.mk (HT.out.trans (Touch.setCell g (q * 66 + 2 + (r + t)) wr (.int .u8 (c.toNat : Int))))
      clear hc hz
      go_wp2
      go_roundw
      case rel => exact ⟨t, z, by omega, rfl, rfl, HZ, hz2, HO2, HT2⟩
      case measure => simp [intOf]
end Go.Proofs.YtadikbmbadldpaaGreatDoor
