
/- The program's fault, look, number, walked. -/
import Derived.Test.YtadikbmbadldpaaGreatDoorPageSame
import Derived.Test.YtadikbmbadldpaaGreatDoorPagePure
namespace Go.Proofs.YtadikbmbadldpaaGreatDoor
open Go Go.RowKit
set_option linter.unusedVariables false

/-- Bit k of the rights. -/
def rb (r : Int) (k : Nat) : Bool := (BitVec.ofInt 64 r).getLsbD k
theorem bits_pow (r : Int) (k : Nat) (hk : k < 3) : bits .and .i64 r (2 ^ k) = bif rb r k then 2 ^ k else 0 := by
  have e : BitVec.ofInt 64 ((2 : Int) ^ k) = BitVec.twoPow 64 k := by
    match k, hk with
    | 0, _ => decide
    | 1, _ => decide
    | 2, _ => decide
  have h : BitVec.ofInt 64 r &&& BitVec.ofInt 64 ((2 : Int) ^ k) = if (BitVec.ofInt 64 r).getLsbD k then BitVec.twoPow 64 k else 0#64 := by
    rw [e, BitVec.and_twoPow]
  show IntKind.i64.wrap ((BitVec.ofInt 64 r &&& BitVec.ofInt 64 ((2 : Int) ^ k)).toNat : Int) = _
  rw [h]
  unfold rb
  cases (BitVec.ofInt 64 r).getLsbD k with
  | true =>
    match k, hk with
    | 0, _ => decide
    | 1, _ => decide
    | 2, _ => decide
  | false =>
    show IntKind.i64.wrap ((0#64).toNat : Int) = 0
    decide
/-- The fault of the byte at an address, for a right. -/
def faultP (P : Nat → PageV) (n ad k : Nat) : Nat := bif decide (n ≤ ad / 64) then 3 else bif rb (P (ad / 64)).rights k then 0 else 4 + k
theorem faultP_out {P : Nat → PageV} {n ad k : Nat} (h : n ≤ ad / 64) : faultP P n ad k = 3 := by simp [faultP, h]
theorem faultP_in {P : Nat → PageV} {n ad k : Nat} (h : ad / 64 < n) : faultP P n ad k = bif rb (P (ad / 64)).rights k then 0 else 4 + k := by
  have : ¬ n ≤ ad / 64 := by omega
  simp [faultP, this]
theorem faultP_zero {P : Nat → PageV} {n ad k : Nat} : faultP P n ad k = 0 ↔ ad / 64 < n ∧ rb (P (ad / 64)).rights k = true := by
  by_cases h : n ≤ ad / 64
  · rw [faultP_out h]; constructor
    · intro e; cases e
    · rintro ⟨h', _⟩; omega
  · rw [faultP_in (by omega)]
    cases rb (P (ad / 64)).rights k <;> simp <;> omega
set_option maxRecDepth 100000 in
set_option maxHeartbeats 4000000 in
theorem page_fault (a : Option Addr) (n cap : Nat) (P : Nat → PageV) (w : World) (h : RdP w a n cap P) (ad k : Nat) (had : ad < 18446744073709551616) (hk : k < 3) (right bad : Int) (hr : right = 2 ^ k) (hbad : bad = 4 + (k : Int)) :
    Calls Tryz.prog 86 #[.slice a n cap, .int .u64 (ad : Int), .int .i64 right, .int .i64 bad] w fun e w' => e = .returned (.int .i64 (faultP P n ad k : Nat)) ∧ w' = w := by
  obtain ⟨q, hq⟩ : ∃ q, q = ad / 64 := ⟨_, rfl⟩
  have H0 := Kp.mk h
  have hn := h.bound
  have HQ := Kp.mk hq
  have hq1 : (ad : Int) / 64 = (q : Int) := by omega
  have hq2 : q < 288230376151711744 := by omega
  clear h
  by_cases hin : n ≤ q
  · have hf : faultP P n ad k = 3 := faultP_out (by rw [← hq]; exact hin)
    rw [hf]
    clear hf hq
    have hb : decide ((q : Int) ≥ (n : Int)) = true := decide_eq_true (by omega)
    go_enter Tryz.func86, Tryz.ntmps86
    go_wp2
    go_ret
    exact ⟨rfl, rfl⟩
  · have hlt : q < n := by omega
    obtain ⟨f, hf⟩ : ∃ f : Nat, f = faultP P n ad k := ⟨_, rfl⟩
    have hf' := hf
    rw [faultP_in (by rw [← hq]; exact hlt), ← hq] at hf'
    obtain ⟨b, o, ha, _⟩ := H0.out.cells (by omega)
    have hc : w.cell? ⟨b, o + q * 66, none⟩ = some (.int .i64 (P q).rights) := H0.out.page ha q hlt 0 _ rfl
    subst ha
    have hand := bits_pow (P q).rights k hk
    rw [← hf]
    clear hf hq
    obtain ⟨x, hx⟩ : ∃ x, x = (P q).rights := ⟨_, rfl⟩
    rw [← hx] at hf' hc hand
    clear hx
    have hb : decide ((q : Int) ≥ (n : Int)) = false := decide_eq_false (by omega)
    rw [← hr] at hand
    obtain ⟨t, ht⟩ : ∃ t, t = rb x k := ⟨_, rfl⟩
    rw [← ht] at hf' hand
    have hr0 : right ≠ 0 := by
      rw [hr]
      match k, hk with
      | 0, _ => decide
      | 1, _ => decide
      | 2, _ => decide
    cases t
    · have hz : (bits .and .i64 x right == 0) = true := by rw [hand]; rfl
      have HFB : Kp ((f : Int) = bad) := ⟨by rw [hf', hbad]; simp⟩
      clear hand hf' ht hr hbad
      go_enter Tryz.func86, Tryz.ntmps86
      go_wp2
      go_ret
      exact ⟨by rw [HFB.out]; rfl, rfl⟩
    · have hz : (bits .and .i64 x right == 0) = false := by rw [hand]; simpa using hr0
      have hfb : f = 0 := by rw [hf']; rfl
      clear hand hf' ht hr hbad
      subst hfb
      go_enter Tryz.func86, Tryz.ntmps86
      go_wp2
      go_ret
      exact ⟨rfl, rfl⟩
set_option maxRecDepth 100000 in
set_option maxHeartbeats 4000000 in
theorem page_number (a : Option Addr) (n cap : Nat) (P : Nat → PageV) (w : World) (h : RdP w a n cap P) (ad k : Nat) (had : ad < 4294967296) (hk : k ≤ 4) (hq : ad / 64 < n) (hr : ad % 64 + k ≤ 64) :
    Calls Tryz.prog 70 #[.slice a n cap, .int .u32 (ad : Int), .int .i64 (k : Int)] w fun e w' => e = .returned (.int .u32 (Pg.num P ad k : Nat)) ∧ w' = w := by
  obtain ⟨b, o, ha, _⟩ := h.cells (by omega)
  have HC := Kp.mk (h.page ha (ad / 64) hq)
  subst ha
  have hn := h.bound
  clear h
  have HD : Kp (∀ j, j < k → w.cell? ⟨b, o + ad / 64 * 66 + 2 + (ad % 64 + j), none⟩ = some (.int .u8 (Pg.byte P (ad + j) : Nat))) := ⟨fun j hj => by
    have h1 := data_in HC.out (ad % 64 + j) _ (dataL_get _ _ (by omega))
    rw [h1]
    have e1 : (ad + j) / 64 = ad / 64 := by omega
    have e2 : (ad + j) % 64 = ad % 64 + j := by omega
    rw [Pg.byte, e1, e2]⟩
  have HN : Kp (∀ j, Pg.num P ad (j + 1) = Pg.num P ad j * 256 + Pg.byte P (ad + j)) := ⟨fun _ => rfl⟩
  have HL : Kp (∀ j, j < 4 → Pg.num P ad j * 256 + Pg.byte P (ad + j) < 4294967296) := ⟨fun j hj => Pg.num_lt4 P ad j hj⟩
  have HBy : Kp (∀ j, Pg.byte P (ad + j) < 256) := ⟨fun j => Pg.byte_lt P _⟩
  obtain ⟨N, hN⟩ : ∃ N, N = Pg.num P ad := ⟨_, rfl⟩
  have hN0 : N 0 = 0 := by rw [hN]; rfl
  rw [← hN] at HN HL ⊢
  clear hN
  obtain ⟨q, hqq⟩ : ∃ q, q = ad / 64 := ⟨_, rfl⟩
  obtain ⟨r, hrr⟩ : ∃ r, r = ad % 64 := ⟨_, rfl⟩
  rw [← hqq] at HD HC hq
  rw [← hrr] at HD hr
  have hq1 : (ad : Int) / 64 = (q : Int) := by omega
  have hr1 : (ad : Int) % 64 = (r : Int) := by omega
  clear hqq hrr HC
  go_enter Tryz.func70, Tryz.ntmps70
  go_wp2
  go_loopw [9, 20] (fun v i wr => ∃ j : Nat, j ≤ k ∧ i = .int .u32 j ∧ v = .int .u32 (N j : Nat) ∧ wr = w) (fun _ i _ => k - (intOf i).toNat)
  case atStart => exact ⟨0, by omega, rfl, by rw [hN0]; rfl, rfl⟩
  case round =>
    obtain ⟨j, hj, rfl, rfl, rfl⟩ := hrel
    by_cases hlt : j < k
    · have hb : decide ((j : Int) < k) = true := decide_eq_true (by omega)
      have hc := HD.out j hlt
      have h1 := HL.out j (by omega)
      have h2 := HBy.out j
      have h3 := HN.out j
      obtain ⟨c, hcc⟩ : ∃ c, c = Pg.byte P (ad + j) := ⟨_, rfl⟩
      obtain ⟨x, hx⟩ : ∃ x, x = N j := ⟨_, rfl⟩
      obtain ⟨y, hy⟩ : ∃ y, y = N (j + 1) := ⟨_, rfl⟩
      have hor := Pg.or_byte (N j) (Pg.byte P (ad + j)) h1 h2
      rw [← h3] at hor
      rw [← hcc] at hc h1 h2 h3 hor
      rw [← hx] at h1 h3 hor ⊢
      rw [← hy] at h3 hor
      have HY := Kp.mk hy
      have HXY : Kp ((x : Int) * 256 + (c : Int) = (N (j + 1) : Nat)) := ⟨by rw [← hy, h3]; omega⟩
      clear hcc hx hy
      go_wp2
      go_roundw
      case rel => exact ⟨j + 1, by omega, by go_num, by rw [HXY.out], by first | rfl | trivial⟩
      case measure => simp [intOf]; omega
    · have : j = k := by omega
      subst this
      have hb : decide ((j : Int) < j) = false := by simp
      go_wp2
      go_ret
      exact ⟨rfl, rfl⟩
/-- The sizes of a load and a store. -/
def okSize (s : Nat) : Prop := s = 1 ∨ s = 2 ∨ s = 4
theorem okSize.le {s : Nat} (h : okSize s) : 1 ≤ s ∧ s ≤ 4 := by rcases h with rfl | rfl | rfl <;> omega
theorem okSize.room {s ad : Nat} (h : okSize s) (hm : ad % s = 0) : ad % 64 + s ≤ 64 := by rcases h with rfl | rfl | rfl <;> omega
/-- The faults of an access. -/
def lookF (P : Nat → PageV) (n ad s k : Nat) : Nat := bif decide (ad % s = 0) then faultP P n ad k else 2
theorem lookF_zero {P : Nat → PageV} {n ad s k : Nat} : lookF P n ad s k = 0 ↔ ad % s = 0 ∧ ad / 64 < n ∧ rb (P (ad / 64)).rights k = true := by
  unfold lookF
  by_cases h : ad % s = 0
  · simp only [h, decide_true, cond_true, true_and]; exact faultP_zero
  · simp [h]
set_option maxRecDepth 100000 in
set_option maxHeartbeats 4000000 in
theorem page_look (a : Option Addr) (n cap : Nat) (P : Nat → PageV) (w : World) (h : RdP w a n cap P) (ad s k : Nat) (had : ad < 4294967296) (hs : okSize s) (hk : k < 3) (right bad : Int) (hr : right = 2 ^ k) (hbad : bad = 4 + (k : Int)) :
    Calls Tryz.prog 69 #[.slice a n cap, .int .u32 (ad : Int), .int .i64 (s : Int), .int .i64 right, .int .i64 bad] w fun e w' => e = .returned (.tuple #[.int .i64 (lookF P n ad s k : Nat), .nilIface]) ∧ w' = w := by
  have K := Kp.mk (page_fault a n cap P w h ad k (by omega) hk right bad hr hbad)
  obtain ⟨f, hf⟩ : ∃ f : Nat, f = lookF P n ad s k := ⟨_, rfl⟩
  rw [← hf]
  obtain ⟨m, hm⟩ : ∃ m, m = ad % s := ⟨_, rfl⟩
  have hm1 : (ad : Int) % (s : Int) = (m : Int) := by rw [hm]; omega
  unfold lookF at hf
  rw [← hm] at hf
  clear hm h hr hbad hk
  by_cases hz : m = 0
  · subst hz
    have hff : f = faultP P n ad k := by rw [hf]; simp
    rw [← hff] at K
    clear hff hf
    rcases hs with rfl | rfl | rfl <;>
    · go_enter Tryz.func69, Tryz.ntmps69
      go_wp2_with (refine K.out.mono ?_; rintro e w' ⟨rfl, hw⟩; obtain rfl := hw.symm)
      go_ret2
      exact ⟨rfl, rfl⟩
  · have hff : f = 2 := by rw [hf]; simp [hz]
    subst hff
    clear hf K
    have hmz : ((m : Int) != 0) = true := by simp; omega
    rcases hs with rfl | rfl | rfl <;>
    · go_enter Tryz.func69, Tryz.ntmps69
      go_wp2
      all_goals (go_ret2; exact ⟨rfl, rfl⟩)
set_option maxRecDepth 100000 in
set_option maxHeartbeats 4000000 in
theorem page_look_bad (A : Nat → Addr) (a : Option Addr) (n cap : Nat) (w : World) (ad : Nat) (s right bad : Int) (h1 : s ≠ 1) (h2 : s ≠ 2) (h4 : s ≠ 4) (hE : Errs w [12] A) :
    Calls Tryz.prog 69 #[.slice a n cap, .int .u32 (ad : Int), .int .i64 s, .int .i64 right, .int .i64 bad] w fun e w' => e = .returned (.tuple #[.int .i64 0, errv (A 12)]) ∧ Drew w w' := by
  have hc : w.cell? ⟨0, 0, none⟩ = some (errv (A 12)) := hE.cell 12 (by decide)
  clear hE
  have n1 : (s != 1) = true := by simpa using h1
  have n2 : (s != 2) = true := by simpa using h2
  have n4 : (s != 4) = true := by simpa using h4
  clear h1 h2 h4
  go_enter Tryz.func69, Tryz.ntmps69
  go_wp2
  go_quiet (fail)
  go_wp2
  go_ret2
  exact ⟨rfl, ⟨nq, rfl⟩⟩
/-- What Load tells. -/
def loadV (P : Nat → PageV) (n ad s k : Nat) : Nat := bif decide (lookF P n ad s k = 0) then Pg.num P ad s else 0
set_option maxRecDepth 100000 in
set_option maxHeartbeats 4000000 in
theorem page_load (a : Option Addr) (n cap : Nat) (P : Nat → PageV) (w : World) (h : RdP w a n cap P) (ad s : Nat) (had : ad < 4294967296) (hs : okSize s) :
    Calls Tryz.prog 50 #[.slice a n cap, .int .u32 (ad : Int), .int .i64 (s : Int)] w fun e w' => e = .returned (.tuple #[.int .u32 (loadV P n ad s 0 : Nat), .int .i64 (lookF P n ad s 0 : Nat), .nilIface]) ∧ w' = w := by
  have K := Kp.mk (page_look a n cap P w h ad s 0 had hs (by decide) 1 4 (by decide) (by decide))
  have hz := lookF_zero (P := P) (n := n) (ad := ad) (s := s) (k := 0)
  by_cases h0 : lookF P n ad s 0 = 0
  · obtain ⟨z1, z2, z3⟩ := hz.1 h0
    have hv : loadV P n ad s 0 = Pg.num P ad s := by simp [loadV, h0]
    have K2 := Kp.mk (page_number a n cap P w h ad s had hs.le.2 z2 (hs.room z1))
    rw [hv, h0]
    rw [h0] at K
    obtain ⟨x, hx⟩ : ∃ x : Nat, x = Pg.num P ad s := ⟨_, rfl⟩
    rw [← hx] at K2 ⊢
    clear hx hv hz z1 z2 z3 h0 h hs
    go_enter Tryz.func50, Tryz.ntmps50
    go_wp2_with (first
      | (refine K.out.mono ?_; rintro e w' ⟨rfl, hw⟩; obtain rfl := hw.symm)
      | (refine K2.out.mono ?_; rintro e w' ⟨rfl, hw⟩; obtain rfl := hw.symm))
    go_ret3
    exact ⟨rfl, rfl⟩
  · have hv : loadV P n ad s 0 = 0 := by simp [loadV, h0]
    obtain ⟨f, hf⟩ : ∃ f : Nat, f = lookF P n ad s 0 := ⟨_, rfl⟩
    rw [hv, ← hf]
    rw [← hf] at K h0
    have hne : ((f : Int) != 0) = true := by simp; omega
    clear hv hz hf h0 h hs
    go_enter Tryz.func50, Tryz.ntmps50
    go_wp2_with (refine K.out.mono ?_; rintro e w' ⟨rfl, hw⟩; obtain rfl := hw.symm)
    go_ret3
    exact ⟨rfl, rfl⟩
set_option maxRecDepth 100000 in
set_option maxHeartbeats 4000000 in
theorem page_load_bad (A : Nat → Addr) (a : Option Addr) (n cap : Nat) (w : World) (ad : Nat) (s : Int) (h1 : s ≠ 1) (h2 : s ≠ 2) (h4 : s ≠ 4) (hE : Errs w [12] A) :
    Calls Tryz.prog 50 #[.slice a n cap, .int .u32 (ad : Int), .int .i64 s] w fun e w' => e = .returned (.tuple #[.int .u32 0, .int .i64 0, errv (A 12)]) ∧ Drew w w' := by
  have K := Kp.mk (page_look_bad A a n cap w ad s 1 4 h1 h2 h4 hE)
  clear h1 h2 h4 hE
  go_enter Tryz.func50, Tryz.ntmps50
  go_wp2_with (refine K.out.mono ?_; rintro e w' ⟨rfl, hd⟩)
  go_ret3
  exact ⟨rfl, hd⟩
set_option maxRecDepth 100000 in
set_option maxHeartbeats 4000000 in
theorem page_fetch (a : Option Addr) (n cap : Nat) (P : Nat → PageV) (w : World) (h : RdP w a n cap P) (ad : Nat) (had : ad < 4294967296) :
    Calls Tryz.prog 44 #[.slice a n cap, .int .u32 (ad : Int)] w fun e w' => e = .returned (.tuple #[.int .u32 (loadV P n ad 4 2 : Nat), .int .i64 (lookF P n ad 4 2 : Nat)]) ∧ w' = w := by
  have hs : okSize 4 := .inr (.inr rfl)
  have K := Kp.mk (page_look a n cap P w h ad 4 2 had hs (by decide) 4 6 (by decide) (by decide))
  have hz := lookF_zero (P := P) (n := n) (ad := ad) (s := 4) (k := 2)
  by_cases h0 : lookF P n ad 4 2 = 0
  · obtain ⟨z1, z2, z3⟩ := hz.1 h0
    have hv : loadV P n ad 4 2 = Pg.num P ad 4 := by simp [loadV, h0]
    have K2 := Kp.mk (page_number a n cap P w h ad 4 had hs.le.2 z2 (hs.room z1))
    rw [hv, h0]
    rw [h0] at K
    obtain ⟨x, hx⟩ : ∃ x : Nat, x = Pg.num P ad 4 := ⟨_, rfl⟩
    rw [← hx] at K2 ⊢
    clear hx hv hz z1 z2 z3 h0 h hs
    go_enter Tryz.func44, Tryz.ntmps44
    go_wp2_with (first
      | (refine K.out.mono ?_; rintro e w' ⟨rfl, hw⟩; obtain rfl := hw.symm)
      | (refine K2.out.mono ?_; rintro e w' ⟨rfl, hw⟩; obtain rfl := hw.symm))
    go_ret2
    exact ⟨rfl, rfl⟩
  · have hv : loadV P n ad 4 2 = 0 := by simp [loadV, h0]
    obtain ⟨f, hf⟩ : ∃ f : Nat, f = lookF P n ad 4 2 := ⟨_, rfl⟩
    rw [hv, ← hf]
    rw [← hf] at K h0
    have hne : ((f : Int) != 0) = true := by simp; omega
    clear hv hz hf h0 h hs
    go_enter Tryz.func44, Tryz.ntmps44
    go_wp2_with (refine K.out.mono ?_; rintro e w' ⟨rfl, hw⟩; obtain rfl := hw.symm)
    go_ret2
    exact ⟨rfl, rfl⟩
end Go.Proofs.YtadikbmbadldpaaGreatDoor
