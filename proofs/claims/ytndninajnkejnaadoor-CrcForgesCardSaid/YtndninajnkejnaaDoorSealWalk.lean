/- Package crc's laid, Seal, Open and bytes.Clone, walked. -/
import Derived.Test.YtndninajnkejnaaDoorBytesWalk
import Derived.Test.YtndninajnkejnaaDoorCrcWalk3
import Derived.Test.YtndninajnkejnaaDoorLaid
import Derived.RegionTactic
import Derived.ChangeAlike
import Derived.Deep.RegionWith
namespace Go.Proofs.YtndninajnkejnaaDoor
open Go Go.RowKit
set_option linter.unusedVariables false

/-- The sum's four bytes, the lowest first. -/
def laidB (s : BitVec 32) : List (BitVec 8) := [s.setWidth 8, (s >>> 8).setWidth 8, (s >>> 16).setWidth 8, (s >>> 24).setWidth 8]
set_option maxRecDepth 100000 in
theorem crc_laid (s : BitVec 32) (w : World) :
    Calls Tryd.prog 41 #[.int .u32 (s.toNat : Int)] w fun e w' => e = .returned (.slice (some ⟨w.heap.size, 0, none⟩) 4 4) ∧ Below w.heap.size w w' ∧ RdB w' (some ⟨w.heap.size, 0, none⟩) 4 4 (laidB s) := by
  have s0 : 0 ≤ (s.toNat : Int) := by omega
  have s1 : (s.toNat : Int) < 4294967296 := by have := s.isLt; omega
  go_enter Tryd.func41, Tryd.ntmps41
  go_wp2
  go_ret
  have hl : (bv (laidB s)).toArray = #[.int .u8 ((s.toNat : Int) % 256), .int .u8 ((s.toNat : Int) / 256 % 256), .int .u8 ((s.toNat : Int) / 65536 % 256), .int .u8 ((s.toNat : Int) / 16777216)] := by
    have e := fun k => Crc.shr32 s k
    simp only [bv, laidB, List.map_cons, List.map_nil, BitVec.toNat_setWidth, BitVec.toNat_ushiftRight, Nat.shiftRight_eq_div_pow, Int.natCast_emod, Int.natCast_ediv]
    have e1 : (s.toNat : Int) / 16777216 = (s.toNat : Int) / 16777216 % 256 := by omega
    rw [e1]
    rfl
  rw [← hl]
  exact ⟨rfl, (Below.refl _ _).alloc (Nat.le_refl _) _, RdB.own (World.ownsRow_lit w (bv (laidB s)).toArray 4 (base := w.heap.size) (e := 5) (size := 1) (Nat.le_refl _) (by decide) rfl) (by omega)⟩
/-- bytes.Clone of a slice that isn't nil. -/
theorem bytes_clone (x : Addr) (n cap : Nat) (l : List (BitVec 8)) (w : World) (h : RdB w (some x) n cap l) :
    Calls Tryd.prog 40 #[.slice (some x) n cap] w fun e w' => ∃ g c', e = .returned (.slice (some ⟨g, 0, none⟩) n c') ∧ w'.ownsRow w.heap.size 5 1 (.slice (some ⟨g, 0, none⟩) n c') n (bv l) ∧ Below w.heap.size w w' ∧ w.heap.size ≤ g := by
  have HR := Kp.mk h
  clear h
  have hnn := Lib.run_eql_slice_nil (P := Tryd.prog)
  go_enter Tryd.func40, Tryd.ntmps40
  go_wp2_with (at_builtin; refine append_fresh rfl _ _ rfl rfl _ _ _ _ rfl HR.out ?_; intro g c' w1 HO HB hBg hgl hnc)
  go_ret
  exact ⟨g, c', rfl, HO.out, HB.out, hBg⟩
/-- A row of one's own, later. -/
theorem own_later {w w1 : World} {B : Nat} {E : TypeId} {v : Value} {n : Nat} {xs : List Value} (h : w.ownsRow B E 1 v n xs) (hb : Below w.heap.size w w1) : w1.ownsRow B E 1 v n xs := by
  refine ⟨h.1, ?_⟩
  rcases h.2 with h' | ⟨g, cap, cur, hv, hg, hh, r⟩
  · exact .inl h'
  · exact .inr ⟨g, cap, cur, hv, hg, (hb.block _ (Array.getElem?_eq_some_iff.1 hh).1).trans hh, r⟩
set_option maxRecDepth 100000 in
/-- bytes.Clone. -/
theorem bytes_clone_all (a : Option Addr) (n cap : Nat) (l : List (BitVec 8)) (w : World) (h : RdB w a n cap l) :
    Calls Tryd.prog 40 #[.slice a n cap] w fun e w' => ∃ v, e = .returned v ∧ w'.ownsRow w.heap.size 5 1 v n (bv l) ∧ Below w.heap.size w w' := by
  cases a with
  | none =>
    have hc := h.nil rfl
    have hn : n = 0 := by have := h.fits; omega
    have hl : l = [] := List.eq_nil_of_length_eq_zero (by rw [h.len]; exact hn)
    subst hc; subst hn; subst hl
    clear h
    go_enter Tryd.func40, Tryd.ntmps40
    have hnn : ∀ w, (binOp .eql 22 (.slice none 0 0) (.slice none 0 0)).run Tryd.prog w = .ok (.bool true) w := fun w => by rw [Lib.run_eql_slice_nil (P := Tryd.prog) (h := Tryd.underlying22)]; rfl
    go_wp2
    go_ret
    exact ⟨_, rfl, World.ownsRow_nil .., Below.refl _ _⟩
  | some x =>
    refine (bytes_clone x n cap l w h).mono ?_
    rintro e w' ⟨g, c', rfl, ho, hb, _⟩
    exact ⟨_, rfl, ho, hb⟩
set_option maxRecDepth 100000 in
theorem crc_seal (a : Option Addr) (n cap : Nat) (l : List (BitVec 8)) (w : World) (h : RdB w a n cap l) (hn : n + 4 ≤ 140737488355328) :
    Calls Tryd.prog 16 #[.slice a n cap] w fun e w' => ∃ g c', e = .returned (.slice (some ⟨g, 0, none⟩) (n + 4) c') ∧ w'.ownsRow w.heap.size 5 1 (.slice (some ⟨g, 0, none⟩) (n + 4) c') (n + 4) (bv (l ++ laidB (Crc.sum l))) ∧ Below w.heap.size w w' := by
  have HR := Kp.mk h
  clear h
  go_enter Tryd.func16, Tryd.ntmps16
  go_wp2_with fail
  refine (bytes_clone_all _ _ _ l _ HR.out).mono ?_
  rintro e w1 ⟨v, rfl, ho, hb⟩
  have HO := Kp.mk ho
  have HB := Kp.mk hb
  have HR1 := Kp.mk (HR.out.later hb)
  clear ho hb
  go_wp2_with fail
  refine (crc_sum _ _ _ l _ HR1.out).mono ?_
  rintro e w2 ⟨rfl, hb⟩
  have HO2 := Kp.mk (own_later HO.out hb)
  have HB2 := Kp.mk (HB.out.trans (hb.mono HB.out.size))
  clear hb
  go_wp2_with fail
  refine (crc_laid _ _).mono ?_
  rintro e w3 ⟨rfl, hb, hr⟩
  have HO3 := Kp.mk (own_later HO2.out hb)
  have HB3 := Kp.mk (HB2.out.trans (hb.mono HB2.out.size))
  have HR3 := Kp.mk hr
  clear hb hr
  go_wp2_with (at_builtin; refine append_bytes rfl _ _ rfl w.heap.size v n (bv l) rfl HO3.out _ 4 4 (laidB (Crc.sum l)) rfl HR3.out (by omega) HB3.out.size ?_; intro v' w4 hown hg hne)
  obtain ⟨g, c', rfl, hBg, hgl, hnc, _⟩ := own_shape hown (by rintro rfl; rcases hown.2 with h | ⟨_, _, _, h, _⟩ <;> simp at h)
  go_wp2
  go_ret
  rw [← bv_append] at hown
  exact ⟨g, c', rfl, hown, HB3.out.grown hg HB3.out.size (fun k hk => (HO3.out.lt k hk).1)⟩
theorem own_mono {w : World} {B B' : Nat} {E : TypeId} {v : Value} {n : Nat} {xs : List Value} (h : w.ownsRow B E 1 v n xs) (hB : B' ≤ B) : w.ownsRow B' E 1 v n xs := by
  refine ⟨h.1, ?_⟩
  rcases h.2 with h' | ⟨g, cap, cur, hv, hg, r⟩
  · exact .inl h'
  · exact .inr ⟨g, cap, cur, hv, by omega, r⟩
/-- A row of one's own, as a slice that can be read. -/
theorem own_rd {w : World} {B : Nat} {E : TypeId} {v : Value} {n : Nat} {l : List (BitVec 8)} (h : w.ownsRow B E 1 v n (bv l)) (hn : n ≤ 140737488355328) : ∃ x cx, v = .slice x n cx ∧ RdB w x n cx l := by
  rcases h.2 with ⟨hv, h0⟩ | ⟨g, cap', cur, hv, _⟩
  · subst hv
    subst h0
    exact ⟨none, 0, rfl, RdB.own h hn⟩
  · subst hv
    exact ⟨_, _, rfl, RdB.own h hn⟩
/-- A part of a row. -/
theorem RdB.sub {w : World} {b off n cap : Nat} {l : List (BitVec 8)} (h : RdB w (some ⟨b, off, none⟩) n cap l) (i k : Nat) (hik : i + k ≤ n) : RdB w (some ⟨b, off + i, none⟩) k (cap - i) ((l.drop i).take k) := by
  have hf := h.fits
  have hb := h.bound
  refine ⟨by rw [List.length_take, List.length_drop, h.len]; omega, by omega, by omega, (fun e => by cases e), fun hk => ⟨b, off + i, rfl, fun j hj => ?_⟩⟩
  obtain ⟨b', off', e, hc⟩ := h.cells (by omega)
  cases e
  rw [Nat.add_assoc, hc (i + j) (by omega)]
  simp [List.getD_eq_getElem?_getD, hj, List.getElem?_drop]
set_option maxRecDepth 100000 in
set_option maxHeartbeats 4000000 in
theorem crc_open (A : Nat → Addr) (a : Option Addr) (n cap : Nat) (l : List (BitVec 8)) (w : World) (hE : Errs w [1, 6] A) (h : RdB w a n cap l) :
    Calls Tryd.prog 17 #[.slice a n cap] w fun e w' => Below w.heap.size w w' ∧
      ((n < 4 ∧ e = .returned (.tuple #[.slice none 0 0, errv (A 1)])) ∨
       (4 ≤ n ∧ laidB (Crc.sum (l.take (n - 4))) ≠ l.drop (n - 4) ∧ e = .returned (.tuple #[.slice none 0 0, errv (A 6)])) ∨
       (4 ≤ n ∧ laidB (Crc.sum (l.take (n - 4))) = l.drop (n - 4) ∧ ∃ v, e = .returned (.tuple #[v, .nilIface]) ∧ w'.ownsRow w.heap.size 5 1 v (n - 4) (bv (l.take (n - 4))))) := by
  have HR := Kp.mk h
  have HE := Kp.mk hE
  have E1 := hE.cell 1 (by simp)
  have E6 := hE.cell 6 (by simp)
  simp only [errVar] at E1 E6
  have hnb := h.bound
  clear h hE
  by_cases hn : n < 4
  · have hb : decide ((n : Int) < 4) = true := decide_eq_true (by omega)
    have HN := Kp.mk hn
    clear hn
    go_enter Tryd.func17, Tryd.ntmps17
    go_wp2
    go_region
    all_goals (go_wp2; go_ret2; exact ⟨(Drew.once _).below, .inl ⟨HN.out, rfl⟩⟩)
  · obtain ⟨m, rfl⟩ : ∃ m, n = m + 4 := ⟨n - 4, by omega⟩
    obtain ⟨b, off, rfl, _⟩ := HR.out.cells (by omega)
    have HI := Kp.mk (HR.out.sub 0 m (by omega))
    have HT := Kp.mk (HR.out.sub m 4 (by omega))
    have hb : decide ((m : Int) + 4 < 4) = false := decide_eq_false (by omega)
    have hmc : m ≤ cap := by have := HR.out.fits; omega
    have hcm : ¬ cap = m := by have := HR.out.fits; omega
    have hm4 : m ≤ m + 4 := by omega
    have hmi : (m : Int) ≤ (m : Int) + 4 := by omega
    have h0i : (0 : Int) ≤ m := by omega
    clear hn
    go_enter Tryd.func17, Tryd.ntmps17
    obtain ⟨s, hs⟩ : ∃ s, s = Crc.sum (l.take m) := ⟨_, rfl⟩
    have CS := fun w h => crc_sum (some ⟨b, off, none⟩) m cap (l.take m) w h
    rw [← hs] at CS
    have HS := Kp.mk hs
    have HCS := Kp.mk CS
    obtain ⟨t, ht⟩ : ∃ t, t = decide (laidB s = l.drop m) := ⟨_, rfl⟩
    have CE := fun a c cap w h1 h2 => bytes_equal a (some ⟨b, off + m, none⟩) 4 c 4 cap (laidB s) (l.drop m) w h1 h2
    rw [← ht] at CE
    have HTT := Kp.mk ht
    have HCE := Kp.mk CE
    clear hs CS ht CE
    have HI' : Kp (RdB w (some ⟨b, off, none⟩) m cap (l.take m)) := ⟨by simpa using HI.out⟩
    have HT' : Kp (RdB w (some ⟨b, off + m, none⟩) 4 (cap - m) (l.drop m)) := ⟨by
      have e : List.take 4 (List.drop m l) = l.drop m := List.take_of_length_le (by rw [List.length_drop, HR.out.len]; omega)
      simpa [e] using HT.out⟩
    have HD : Kp (Below w.heap.size w w.drew) := ⟨(Below.refl _ _).drew⟩
    have hsz : Kp (w.drew.heap.size = w.heap.size) := ⟨rfl⟩
    clear HI HT HR
    go_wp2
    go_region_with (first
      | (go_at_call 19; refine (HCS.out _ ?_).mono ?_; exact HI'.out.later HD.out; rintro e w1 ⟨rfl, hb1⟩; have HB1 := Kp.mk hb1; clear hb1)
      | (go_at_call 41; refine (crc_laid _ _).mono ?_; rintro e w2 ⟨rfl, hb2, hr2⟩; have HB2 := Kp.mk (HD.out.trans ((HB1.out.mono (Nat.le_of_eq hsz.out.symm)).trans (hb2.mono (Nat.le_trans (Nat.le_of_eq hsz.out.symm) HB1.out.size)))); have HR2 := Kp.mk hr2; clear hb2 hr2 HB1)
      | (go_at_call 42; refine (HCE.out _ _ _ _ ?_ ?_).mono ?_; exact HR2.out; exact HT'.out.later HB2.out; rintro e w3 ⟨rfl, rfl⟩))
    cases t with
    | true =>
      go_wp2_with fail
      refine (bytes_clone_all _ _ _ (l.take m) _ (HI'.out.later HB2.out)).mono ?_
      rintro e w4 ⟨v, rfl, ho, hb⟩
      have HO := Kp.mk ho
      have HB := Kp.mk hb
      clear ho hb
      go_wp2
      go_ret2
      refine ⟨HB2.out.trans (HB.out.mono HB2.out.size), .inr (.inr ⟨by omega, ?_, v, rfl, own_mono HO.out HB2.out.size⟩)⟩
      have := of_decide_eq_true HTT.out.symm
      rw [HS.out] at this
      exact this
    | false =>
      have E6' : w3.cell? ⟨errVar 6, 0, none⟩ = some (errv (A 6)) := (HE.out.later HB2.out).cell 6 (by simp)
      simp only [errVar] at E6'
      go_wp2
      go_region
      all_goals (go_wp2; go_ret2; refine ⟨HB2.out.drew, .inr (.inl ⟨by omega, ?_, rfl⟩)⟩; have := of_decide_eq_false HTT.out.symm; rw [HS.out] at this; exact this)
end Go.Proofs.YtndninajnkejnaaDoor
