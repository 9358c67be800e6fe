/- The document's put, Store, In, Clean, Written, walked; the program's Clean, Written. -/
import Derived.Test.YtkkclkmiaenipaaDoorRefLook
import Derived.Test.YtkkclkmiaenipaaDoorPageIn
namespace Go.Proofs.YtkkclkmiaenipaaDoor
open Go Go.RowKit
set_option linter.unusedVariables false

theorem row_put (p : PageV) (r : Nat) (c : BitVec 8) : (putPg p r c).row = (PageV.row { p with data := fun x => if x = r then c else p.data x }).set 1 (.bool true) := rfl
set_option maxRecDepth 100000 in
set_option maxHeartbeats 4000000 in
theorem ref_put (w : World) (B g n cap : Nat) (P : Nat → PageV) (h : OwnP w B (.slice (some ⟨g, 0, none⟩) n cap) n P) (hn : n ≤ 1759218604441) (y : Nat) (c : BitVec 8) (hq : y / 64 < n) :
    Calls Tryd.prog 54 #[.slice (some ⟨g, 0, none⟩) n cap, .int .i64 (y : Int), .int .u8 (c.toNat : Int)] w fun e w' => e = .returned (.tuple #[]) ∧ OwnP w' B (.slice (some ⟨g, 0, none⟩) n cap) n (putB P y c) ∧ Touch g w w' := by
  obtain ⟨Q, hQ⟩ : ∃ Q, Q = putB P y c := ⟨_, rfl⟩
  obtain ⟨q, hqq⟩ : ∃ q, q = y / 64 := ⟨_, rfl⟩
  obtain ⟨r, hrr⟩ : ∃ r, r = y % 64 := ⟨_, rfl⟩
  have hQ2 : Q = upd P q (putPg (P q) r c) := by rw [hQ, hqq, hrr]; rfl
  rw [← hQ]
  rw [← hqq] at hq
  have hr : r < 64 := by omega
  have hq1 : (y : Int) / 64 = (q : Int) := by omega
  have hr1 : (y : Int) % 64 = (r : Int) := by omega
  have k1 : w.cell? ⟨g, q * 66 + 2 + r, none⟩ = some (.int .u8 (((P q).data r).toNat : Int)) := by
    have := h.cell q (r + 2) hq (by omega)
    rw [PageV.row_data _ _ hr] at this
    rw [← this]
    congr 2
    omega
  have k2 : w.frozen? ⟨g, q * 66 + 2 + r, none⟩ = false := h.frozen _
  have h1 : OwnP (w.setCell ⟨g, q * 66 + 2 + r, none⟩ (.int .u8 (c.toNat : Int))) B (.slice (some ⟨g, 0, none⟩) n cap) n (upd P q { P q with data := fun x => if x = r then c else (P q).data x }) := by
    have := OwnP.stored h q (r + 2) hq (by omega) _ _ (row_set_data (P q) r c)
    rw [show q * 66 + (r + 2) = q * 66 + 2 + r by omega] at this
    exact this
  have ht1 := Touch.setCell g (q * 66 + 2 + r) w (.int .u8 (c.toNat : Int))
  obtain ⟨w1, hw1⟩ : ∃ w1, w1 = w.setCell ⟨g, q * 66 + 2 + r, none⟩ (.int .u8 (c.toNat : Int)) := ⟨_, rfl⟩
  have HW1 := Kp.mk hw1
  rw [← hw1] at h1 ht1
  have k3 : w1.cell? ⟨g, q * 66 + 1, none⟩ = some (.bool (P q).dirty) := by
    have := h1.cell q 1 hq (by decide)
    rw [upd_at] at this
    rw [this]; rfl
  have k4 : w1.frozen? ⟨g, q * 66 + 1, none⟩ = false := h1.frozen _
  have h2 : OwnP (w1.setCell ⟨g, q * 66 + 1, none⟩ (.bool true)) B (.slice (some ⟨g, 0, none⟩) n cap) n Q := by
    rw [hQ2]
    exact OwnP.upd_stored q _ _ _ 1 h1 hq (by decide) (row_put (P q) r c)
  have H2 := Kp.mk (And.intro h2 (ht1.trans (Touch.setCell g (q * 66 + 1) w1 (.bool true))))
  obtain ⟨d, hd⟩ : ∃ d, d = (P q).dirty := ⟨_, rfl⟩
  obtain ⟨e, he⟩ : ∃ e : Int, e = (((P q).data r).toNat : Int) := ⟨_, rfl⟩
  rw [← hd] at k3
  rw [← he] at k1
  clear hqq hrr hQ hQ2 h h1 h2 ht1 hw1 hd he
  go_enter Tryd.func54, Tryd.ntmps54
  go_wp2_with (rw [← HW1.out])
  go_end0
  exact ⟨rfl, H2.out.1, H2.out.2⟩
/-- The document's Store, on the way: the last bytes put. -/
def storeQ (P : Nat → PageV) (ad s x t : Nat) : Nat → PageV := bif decide (t < s) then upd P (ad / 64) { putD (P (ad / 64)) (ad % 64) s t x with dirty := true } else P
theorem storeQ_all (P : Nat → PageV) (ad s x : Nat) : storeQ P ad s x s = P := by simp [storeQ]
theorem storeQ_zero (P : Nat → PageV) (ad s x : Nat) (h : 0 < s) : storeQ P ad s x 0 = Pg.store P ad s x := by
  rw [store_eq]; simp [storeQ, h]
theorem storeQ_step (P : Nat → PageV) (ad s x t : Nat) (ht : t < s) (hr : ad % 64 + s ≤ 64) : putB (storeQ P ad s x (t + 1)) (ad + t) (BitVec.ofNat 8 (x / 256 ^ (s - 1 - t))) = storeQ P ad s x t := by
  have e1 : (ad + t) / 64 = ad / 64 := by omega
  have e2 : (ad + t) % 64 = ad % 64 + t := by omega
  unfold putB
  rw [e1, e2]
  unfold storeQ
  simp only [ht, decide_true, cond_true]
  by_cases h : t + 1 < s
  · simp only [h, decide_true, cond_true]
    rw [upd_upd, upd_at]
    congr 1
    unfold putPg
    have hd : (fun y => if y = ad % 64 + t then BitVec.ofNat 8 (x / 256 ^ (s - 1 - t)) else (putD (P (ad / 64)) (ad % 64) s (t + 1) x).data y) = (putD (P (ad / 64)) (ad % 64) s t x).data := by
      funext y
      exact (putD_at _ _ _ _ _ y ht).symm
    show PageV.mk _ true (fun y => if y = ad % 64 + t then BitVec.ofNat 8 (x / 256 ^ (s - 1 - t)) else (putD (P (ad / 64)) (ad % 64) s (t + 1) x).data y) = _
    rw [hd]
    rfl
  · have hs : s = t + 1 := by omega
    subst hs
    simp only [Nat.lt_irrefl, decide_false, cond_false]
    congr 1
    unfold putPg
    have hd : (fun y => if y = ad % 64 + t then BitVec.ofNat 8 (x / 256 ^ (t + 1 - 1 - t)) else (P (ad / 64)).data y) = (putD (P (ad / 64)) (ad % 64) (t + 1) t x).data := by
      funext y
      rw [putD_at _ _ _ _ _ y (by omega), putD_all]
    rw [hd]
    rfl
set_option maxRecDepth 100000 in
set_option maxHeartbeats 4000000 in
theorem ref_store_yes (a : Option Addr) (n cap : Nat) (P : Nat → PageV) (w : World) (h : RdP w a n cap P) (ad s x : Nat) (had : ad < 4294967296) (hs : okSize s) (hx : x < 4294967296) (h0 : lookF P n ad s 1 = 0) :
    Calls Tryd.prog 34 #[.slice a n cap, .int .u32 (ad : Int), .int .i64 (s : Int), .int .u32 (x : Int)] w fun e w' => ∃ v, e = .returned (.tuple #[v, .int .i64 0, .int .i64 0]) ∧ OwnP w' w.heap.size v n (Pg.store P ad s x) ∧ Below w.heap.size w w' := by
  have hn := h.bound
  obtain ⟨z1, z2, z3⟩ := lookF_zero.1 h0
  have hf0 : faultP P n ad 1 = 0 := faultP_zero.2 ⟨z2, z3⟩
  have K := Kp.mk (ref_byte a n cap P w h ad 1 (by omega) (by decide))
  rw [hf0] at K
  have KC := Kp.mk (ref_copy a n cap P w h)
  have hr := hs.room z1
  have hs1 := hs.le
  have HS : Kp (∀ t, t < s → putB (storeQ P ad s x (t + 1)) (ad + t) (BitVec.ofNat 8 (x / 256 ^ (s - 1 - t))) = storeQ P ad s x t) := ⟨fun t ht => storeQ_step P ad s x t ht hr⟩
  have HQ0 : Kp (storeQ P ad s x s = P) := ⟨storeQ_all _ _ _ _⟩
  have HQ1 : Kp (storeQ P ad s x 0 = Pg.store P ad s x) := ⟨storeQ_zero _ _ _ _ (by omega)⟩
  have HIN : Kp (∀ t, t < s → (ad + t) / 64 < n) := ⟨fun t ht => by omega⟩
  have hm1 : (ad : Int) % (s : Int) = 0 := by omega
  have H0n : Kp (0 < n) := ⟨by omega⟩
  obtain ⟨Q, hQ⟩ : ∃ Q, Q = storeQ P ad s x := ⟨_, rfl⟩
  rw [← hQ] at HS HQ0 HQ1
  obtain ⟨S, hS⟩ : ∃ S, S = Pg.store P ad s x := ⟨_, rfl⟩
  rw [← hS] at HQ1 ⊢
  have hcase : (((s : Int) != 1) = false) ∨ (((s : Int) != 1) = true ∧ ((s : Int) != 2) = false) ∨ (((s : Int) != 1) = true ∧ ((s : Int) != 2) = true ∧ ((s : Int) != 4) = false) := by
    rcases hs with rfl | rfl | rfl
    · exact .inl (by decide)
    · exact .inr (.inl ⟨by decide, by decide⟩)
    · exact .inr (.inr ⟨by decide, by decide, by decide⟩)
  have HIN1 := Kp.mk hs1
  clear h h0 hf0 z1 z2 z3 hQ hS hr hs
  rcases hcase with n1 | ⟨n1, n2⟩ | ⟨n1, n2, n4⟩
  all_goals (
    go_enter Tryd.func34, Tryd.ntmps34
    go_wp2_with (refine K.out.mono ?_; rintro e w' ⟨rfl, hw⟩; obtain rfl := hw.symm)
    refine KC.out.mono ?_
    rintro e w1 ⟨v, rfl, ho, hb⟩
    obtain ⟨g, cap2, rfl, hg, _⟩ := ho.shape H0n.out
    have HO : Kp (OwnP w1 w.heap.size (.slice (some ⟨g, 0, none⟩) n cap2) n (Q s)) := ⟨by rw [HQ0.out]; exact ho⟩
    have HB := Kp.mk hb
    have HG := Kp.mk hg
    clear ho hb hg
    go_wp2
    go_loopw [13, 14] (fun v i wr => ∃ t y : Nat, t ≤ s ∧ i = .int .i64 ((t : Int) - 1) ∧ v = .int .i64 (y : Int) ∧ Kp (y = x / 256 ^ (s - t)) ∧ y < 4294967296 ∧ Kp (OwnP wr w.heap.size (.slice (some ⟨g, 0, none⟩) n cap2) n (Q t)) ∧ Kp (Below w.heap.size w wr)) (fun _ i _ => (intOf i + 1).toNat)
    case atStart => exact ⟨s, x, by omega, by go_num, rfl, ⟨by simp⟩, hx, HO, HB⟩
    case round =>
      obtain ⟨t, y, ht, rfl, rfl, HY, hy, HO, HB⟩ := hrel
      rcases t with _ | t
      · have HO1 : Kp (OwnP wr w.heap.size (.slice (some ⟨g, 0, none⟩) n cap2) n S) := ⟨by rw [← HQ1.out]; exact HO.out⟩
        go_wp2
        go_ret3
        exact ⟨_, rfl, HO1.out, HB.out⟩
      · have e : ((t + 1 : Nat) : Int) - 1 = (t : Int) := by omega
        rw [e]
        obtain ⟨c, hc⟩ : ∃ c, c = BitVec.ofNat 8 y := ⟨_, rfl⟩
        have hc8 : (y : Int) % 256 = (c.toNat : Int) := by rw [hc, BitVec.toNat_ofNat]; omega
        have hc9 : (c.toNat : Int) % 256 = (c.toNat : Int) := by have := c.isLt; omega
        obtain ⟨z, hz⟩ : ∃ z, z = y / 256 := ⟨_, rfl⟩
        have hz1 : (y : Int) / 256 = (z : Int) := by rw [hz]; omega
        have HZ : Kp (z = x / 256 ^ (s - t)) := ⟨by
          have e2 : s - t = (s - (t + 1)) + 1 := by omega
          rw [hz, HY.out, e2, Nat.pow_succ, Nat.div_div_eq_div_mul]⟩
        have hz2 : z < 4294967296 := by rw [hz]; omega
        obtain ⟨y2, hy2⟩ : ∃ y2, y2 = ad + t := ⟨_, rfl⟩
        have hy3 : (ad : Int) + (t : Int) = (y2 : Int) := by omega
        have KP := Kp.mk (ref_put wr w.heap.size g n cap2 (Q (t + 1)) HO.out hn y2 c (by rw [hy2]; exact HIN.out t (by omega)))
        have HQt : Kp (putB (Q (t + 1)) y2 c = Q t) := ⟨by
          have := HS.out t (by omega)
          rw [← hy2] at this
          rw [← this, hc, HY.out, show s - 1 - t = s - (t + 1) by omega]⟩
        have hb0 : decide ((t : Int) ≥ 0) = true := decide_eq_true (by omega)
        have hts : t < s := by omega
        clear hc hz hy2 ht
        go_wp2_with fail
        refine KP.out.mono ?_
        rintro e w2 ⟨rfl, ho, htt⟩
        have HO2 : Kp (OwnP w2 w.heap.size (.slice (some ⟨g, 0, none⟩) n cap2) n (Q t)) := ⟨by rw [← HQt.out]; exact ho⟩
        have HB2 := Kp.mk (HB.out.trans (htt.below _ HG.out HB.out.size))
        clear ho htt
        go_wp2_with fail
        go_roundw
        case rel => exact ⟨t, z, by omega, rfl, rfl, HZ, hz2, HO2, HB2⟩
        case measure => simp [intOf])
set_option maxRecDepth 100000 in
set_option maxHeartbeats 4000000 in
theorem ref_store_no (a : Option Addr) (n cap : Nat) (P : Nat → PageV) (w : World) (h : RdP w a n cap P) (ad s x : Nat) (had : ad < 4294967296) (hs : okSize s) (h0 : lookF P n ad s 1 ≠ 0) :
    Calls Tryd.prog 34 #[.slice a n cap, .int .u32 (ad : Int), .int .i64 (s : Int), .int .u32 (x : Int)] w fun e w' => e = .returned (.tuple #[.slice none 0 0, .int .i64 (lookF P n ad s 1 : Nat), .int .i64 0]) ∧ w' = w := by
  have K := Kp.mk (ref_byte a n cap P w h ad 1 (by omega) (by decide))
  obtain ⟨m, hm⟩ : ∃ m, m = ad % s := ⟨_, rfl⟩
  have hm1 : (ad : Int) % (s : Int) = (m : Int) := by rw [hm]; omega
  obtain ⟨f, hf⟩ : ∃ f : Nat, f = lookF P n ad s 1 := ⟨_, rfl⟩
  rw [← hf]
  rw [← hf] at h0
  unfold lookF at hf
  rw [← hm] at hf
  by_cases hm0 : m = 0
  · subst hm0
    have hff : f = faultP P n ad 1 := by rw [hf]; simp
    rw [← hff] at K
    have hne : ((f : Int) != 0) = true := by simp; omega
    clear hf hff h0 h hm
    rcases hs with rfl | rfl | rfl <;>
    · go_enter Tryd.func34, Tryd.ntmps34
      go_wp2_with (refine K.out.mono ?_; rintro e w' ⟨rfl, hw⟩; obtain rfl := hw.symm)
      go_ret3
      exact ⟨rfl, rfl⟩
  · have hff : f = 2 := by rw [hf]; simp [hm0]
    subst hff
    have hmz : ((m : Int) != 0) = true := by simp; omega
    clear hf h0 h hm K
    rcases hs with rfl | rfl | rfl <;>
    · go_enter Tryd.func34, Tryd.ntmps34
      go_wp2
      all_goals (go_ret3; exact ⟨rfl, rfl⟩)
set_option maxRecDepth 100000 in
set_option maxHeartbeats 4000000 in
theorem ref_store_bad (a : Option Addr) (n cap : Nat) (w : World) (ad : Nat) (s : Int) (x : Nat) (h1 : s ≠ 1) (h2 : s ≠ 2) (h4 : s ≠ 4) :
    Calls Tryd.prog 34 #[.slice a n cap, .int .u32 (ad : Int), .int .i64 s, .int .u32 (x : Int)] w fun e w' => e = .returned (.tuple #[.slice none 0 0, .int .i64 0, .int .i64 12]) ∧ w' = w := by
  have n1 : (s != 1) = true := by simpa using h1
  have n2 : (s != 2) = true := by simpa using h2
  have n4 : (s != 4) = true := by simpa using h4
  clear h1 h2 h4
  go_enter Tryd.func34, Tryd.ntmps34
  go_wp2
  go_ret3
  exact ⟨rfl, rfl⟩
end Go.Proofs.YtkkclkmiaenipaaDoor
