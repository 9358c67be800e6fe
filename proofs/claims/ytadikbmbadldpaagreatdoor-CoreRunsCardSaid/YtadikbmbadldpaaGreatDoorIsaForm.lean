
/- isa.ofOp, Form, walked: the table asked. -/
import Derived.Test.YtadikbmbadldpaaGreatDoorIsaTable
namespace Go.Proofs.YtadikbmbadldpaaGreatDoor
open Go Go.RowKit
set_option linter.unusedVariables false

abbrev askF (b : Nat) : Value := .func (.func 92) #[] #[.pointer (some ⟨b, 0, none⟩)]
set_option maxRecDepth 100000 in
theorem isa_ask (b : Nat) (o x f : Int) (nm : ByteArray) (w : World) (hb : Blk w b #[.int .i64 o] 3) :
    Calls Tryz.prog 92 #[.agg #[.int .i64 x, .string nm, .int .i64 f], .pointer (some ⟨b, 0, none⟩)] w fun e w' => e = .returned (.bool (x == o)) ∧ Below w.heap.size w w' := by
  have c0 := hb.cell 0 _ rfl
  have hlt := hb.lt
  have hne : ¬ w.heap.size = b := by omega
  have hne2 : ¬ b = w.heap.size := by omega
  clear hb
  go_enter Tryz.func92, Tryz.ntmps92
  go_wp2
  go_ret
  exact ⟨rfl, below_alloc _ _⟩
theorem rowLen (x f : Int) (nm : ByteArray) : (Tryz.prog.info? 164).map (·.size) = some ([Value.int .i64 x, .string nm, .int .i64 f]).length := by kernel_rfl
/-- The number of a row of the table. -/
def opT (i : Nat) : Int := (rowsT.getD i (0, 0)).1
def fmT (i : Nat) : Int := ((rowsT.getD i (0, 0)).2 : Nat)
/-- The table read. -/
structure TabR (w : World) (a : Option Addr) (cap : Nat) : Prop where
  at_ : ∃ b off, a = some ⟨b, off, none⟩ ∧ ∀ i, i < 35 → ∃ nm : ByteArray, w.rangeAt b (off + i * 3) [.int .i64 (opT i), .string nm, .int .i64 (fmT i)]
  fits : 35 ≤ cap
theorem TabR.of {w : World} {B : Nat} {v : Value} (h : OwnR w 164 3 B v tabL) : ∃ a cap, v = .slice a 35 cap ∧ TabR w a cap := by
  obtain ⟨a, c, m, hm, rfl⟩ := h.shape
  have hm := hm.out
  rw [tabL_len] at hm
  subst hm
  have hr := h.rd (by decide)
  obtain ⟨b, off, e, hc⟩ := hr.cells (by decide)
  refine ⟨a, c, rfl, ⟨⟨b, off, e, fun i hi => ?_⟩, hr.fits⟩⟩
  obtain ⟨nm, hn⟩ := tabL_at i hi
  refine ⟨nm, ?_⟩
  have := hc i hi
  rw [hn] at this
  exact this
theorem TabR.later {w w1 : World} {a : Option Addr} {cap : Nat} (h : TabR w a cap) (hb : Below w.heap.size w w1) : TabR w1 a cap := by
  obtain ⟨b, off, e, hc⟩ := h.at_
  refine ⟨⟨b, off, e, fun i hi => ?_⟩, h.fits⟩
  obtain ⟨nm, hn⟩ := hc i hi
  exact ⟨nm, srange_later hn hb⟩
set_option maxRecDepth 100000 in
set_option maxHeartbeats 4000000 in
theorem isa_index (a : Option Addr) (cap b : Nat) (o : Int) (m : Nat) (r : Int) (w : World) (h : TabR w a cap) (hb : Blk w b #[.int .i64 o] 3)
    (hr : (m < 35 ∧ r = (m : Int) ∧ opT m = o) ∨ (m = 35 ∧ r = -1)) (hlo : ∀ i, i < m → opT i ≠ o) :
    Calls Tryz.prog 97 #[.slice a 35 cap, askF b] w fun e w' => e = .returned (.int .i64 r) ∧ Below w.heap.size w w' := by
  obtain ⟨bb, off, ha, hcells⟩ := h.at_
  subst ha
  have HC := Kp.mk (fun i hi wr (hw : Below w.heap.size w wr) => (⟨(hcells i hi).choose, srange_later (hcells i hi).choose_spec hw⟩ : ∃ nm : ByteArray, wr.rangeAt bb (off + i * 3) [.int .i64 (opT i), .string nm, .int .i64 (fmT i)]))
  have HB := Kp.mk (fun wr (hw : Below w.heap.size w wr) => hb.later hw)
  have HF := Kp.mk h.fits
  have HL := Kp.mk hlo
  have HR := Kp.mk hr
  have hm35 : m ≤ 35 := by omega
  obtain ⟨B, hB⟩ : ∃ B, B = w.heap.size := ⟨_, rfl⟩
  rw [← hB] at HC HB ⊢
  have H0 : Kp (Below B w w) := ⟨Below.refl _ _⟩
  have HBw : Kp (B = w.heap.size) := ⟨hB⟩
  clear h hb hcells hlo hr hB
  go_enter Tryz.func97, Tryz.ntmps97
  go_wp2
  go_loopw [5, 8] (fun _ iv wr => ∃ k : Nat, k ≤ m ∧ iv = .int .i64 (k : Int) ∧ Kp (Below B w wr)) (fun _ iv _ => 35 - (intOf iv).toNat)
  case atStart => exact ⟨0, by omega, rfl, H0⟩
  case round =>
    obtain ⟨k, hk, rfl, HW⟩ := hrel
    by_cases hlt : k < 35
    · have t1 : decide ((k : Int) < 35) = true := decide_eq_true (by omega)
      obtain ⟨nm, hrow⟩ := HC.out k hlt _ HW.out
      have HROW := Kp.mk hrow
      clear hrow
      have KA := Kp.mk (isa_ask b o (opT k) (fmT k) nm _ (HB.out _ HW.out))
      obtain ⟨x, hx⟩ : ∃ x, x = opT k := ⟨_, rfl⟩
      obtain ⟨f, hf⟩ : ∃ f, f = fmT k := ⟨_, rfl⟩
      rw [← hx, ← hf] at KA HROW
      by_cases he : x = o
      · have hkm : k = m := by
          rcases Nat.lt_or_ge k m with h1 | h1
          · exact absurd (hx.symm.trans he) (HL.out k h1)
          · omega
        have HX : Kp ((x == o) = true) := ⟨by rw [he]; simp⟩
        have hr : r = (k : Int) := by rcases HR.out with h1 | h1 <;> omega
        subst hr
        clear hx hf he hkm
        go_wp2_with (first
          | (refine wpList_load_mid rfl 164 _ rfl bb (off + k * 3) rfl [.int .i64 x, .string nm, .int .i64 f] _ HROW.out Tryz.underlying164 rfl (rowLen x f nm) ?_)
          | (with_reducible refine KA.out.mono ?_; rintro e w1 ⟨rfl, hw1⟩; have HW1 := Kp.mk hw1; clear hw1; rw [HX.out]))
        go_ret
        exact ⟨rfl, HW.out.trans (HW1.out.mono (by have := HW.out.size; have := HBw.out; omega))⟩
      · have hkm : k < m := by
          rcases HR.out with h1 | h1
          · rcases Nat.lt_or_ge k m with h2 | h2
            · exact h2
            · have : k = m := by omega
              subst this
              exact absurd (hx.trans h1.2.2) he
          · omega
        have HX : Kp ((x == o) = false) := ⟨by simpa using he⟩
        clear hx hf he
        go_wp2_with (first
          | (refine wpList_load_mid rfl 164 _ rfl bb (off + k * 3) rfl [.int .i64 x, .string nm, .int .i64 f] _ HROW.out Tryz.underlying164 rfl (rowLen x f nm) ?_)
          | (with_reducible refine KA.out.mono ?_; rintro e w1 ⟨rfl, hw1⟩; have HW1 := Kp.mk hw1; clear hw1; rw [HX.out]))
        go_roundw
        case rel => exact ⟨k + 1, by omega, by go_num, ⟨HW.out.trans (HW1.out.mono (by have := HW.out.size; have := HBw.out; omega))⟩⟩
        case measure => simp [intOf]; omega
    · have hk35 : k = 35 := by omega
      have t1 : decide ((k : Int) < 35) = false := decide_eq_false (by omega)
      have hr : r = -1 := by rcases HR.out with h1 | h1 <;> omega
      subst hr
      clear hk35
      go_wp2
      go_ret
      exact ⟨rfl, HW.out⟩
theorem below_set3 {B : Nat} {w w' : World} (hb : Below B w w') (g : Nat) (v0 v1 v2 : Value) (hg : B ≤ g) : Below B w (((w'.setCell ⟨g, 0, none⟩ v0).setCell ⟨g, 1, none⟩ v1).setCell ⟨g, 2, none⟩ v2) :=
  ((hb.setCell (p := ⟨g, 0, none⟩) hg v0).setCell (p := ⟨g, 1, none⟩) hg v1).setCell (p := ⟨g, 2, none⟩) hg v2
theorem opT_find (o : Int) : ∃ m : Nat, ((m < 35 ∧ opT m = o) ∨ m = 35) ∧ ∀ i, i < m → opT i ≠ o := by
  have h : ∀ n : Nat, ∃ m : Nat, ((m < n ∧ opT m = o) ∨ m = n) ∧ ∀ i, i < m → opT i ≠ o := by
    intro n
    induction n with
    | zero => exact ⟨0, .inr rfl, fun i hi => by omega⟩
    | succ n ih =>
      obtain ⟨m, h1, h2⟩ := ih
      rcases h1 with ⟨h3, h4⟩ | rfl
      · exact ⟨m, .inl ⟨by omega, h4⟩, h2⟩
      · by_cases e : opT m = o
        · exact ⟨m, .inl ⟨by omega, e⟩, h2⟩
        · refine ⟨m + 1, .inr rfl, fun i hi => ?_⟩
          rcases Nat.lt_or_ge i m with h5 | h5
          · exact h2 i h5
          · have : i = m := by omega
            rw [this]; exact e
  exact h 35
abbrev rowA (x f : Int) (nm : ByteArray) : Array Value := #[.int .i64 x, .string nm, .int .i64 f]
theorem rowSize (x f : Int) (nm : ByteArray) : (Tryz.prog.info? 164).map (·.size) = some (rowA x f nm).size := by kernel_rfl
set_option maxRecDepth 100000 in
set_option maxHeartbeats 4000000 in
theorem isa_find (b : Nat) (o : Int) (w : World) (ht : BlankT w) (hb : Blk w b #[.int .i64 o] 3) :
    Calls Tryz.prog 91 #[askF b] w fun e w' => ∃ x nm t, e = .returned (.tuple #[.agg (rowA x (formAt o : Nat) nm), .bool t]) ∧ Below w.heap.size w w' := by
  obtain ⟨B, hB⟩ : ∃ B, B = w.heap.size := ⟨_, rfl⟩
  obtain ⟨w1, e1⟩ : ∃ w1, w1 = w.alloc (.cells (rowA 0 0 ⟨#[]⟩) 164) := ⟨_, rfl⟩
  have b1 : Below B w w1 := by rw [e1, hB]; exact below_alloc _ _
  have V1 : Kp (Blk w1 B (rowA 0 0 ⟨#[]⟩) 164) := ⟨by rw [e1, hB]; exact Blk.new _ _ _⟩
  have s1 : w1.heap.size = B + 1 := by rw [e1, hB]; simp
  have HB1 : Kp (Below B w w1) := ⟨b1⟩
  have HBK : Kp (Blk w1 b #[.int .i64 o] 3) := ⟨hb.later (hB ▸ b1)⟩
  have KR := Kp.mk (isa_rows w1 (ht.later (hB ▸ b1)))
  obtain ⟨m, hm, hlo⟩ := opT_find o
  have HM := Kp.mk hm
  have HLO := Kp.mk hlo
  have E1 := Kp.mk e1
  have S1 := Kp.mk s1
  have HBq := Kp.mk hB
  obtain ⟨fo, hfo⟩ : ∃ x : Int, x = (formAt o : Nat) := ⟨_, rfl⟩
  rw [← hfo]
  have HFO := Kp.mk hfo
  clear ht hb b1 e1 s1 hm hlo hfo hB
  go_enter Tryz.func91, Tryz.ntmps91
  go_wp2_with fail
  rw [← HBq.out, ← E1.out]
  refine KR.out.mono ?_
  rintro e w2 ⟨v, rfl, ho, hw2⟩
  obtain ⟨a, cap, rfl, hR⟩ := TabR.of ho
  have HW2 := Kp.mk hw2
  have HR2 := Kp.mk hR
  have V2 := Kp.mk (V1.out.later hw2)
  have B2 := Kp.mk (HBK.out.later hw2)
  clear ho hw2 hR V1 HBK KR
  rcases HM.out with ⟨h35, hop⟩ | hmiss
  · have K := Kp.mk (isa_index a cap b o m (m : Int) w2 HR2.out B2.out (.inl ⟨h35, rfl, hop⟩) HLO.out)
    have hfm : fmT m = fo := by
      rw [HFO.out, ← hop]
      unfold opT fmT
      rw [tab_hit m h35]
    go_wp2_with fail
    refine K.out.mono ?_
    rintro e w3 ⟨rfl, hw3⟩
    obtain ⟨bb, off, ha, hcells⟩ := (HR2.out.later hw3).at_
    obtain ⟨nm, hrow⟩ := hcells m h35
    subst ha
    have HROW := Kp.mk hrow
    have V3 := Kp.mk (V2.out.later hw3)
    have HW3 := Kp.mk hw3
    have hfit := HR2.out.fits
    obtain ⟨x, hx⟩ : ∃ x, x = opT m := ⟨_, rfl⟩
    rw [← hx, hfm] at HROW
    have t0 : decide ((m : Int) < 0) = false := decide_eq_false (by omega)
    have t1 : (0 : Int) ≤ (m : Int) := by omega
    have t2 : (m : Int) < 35 := by omega
    clear hw3 hcells hrow V2 B2 K hop hx hfm hfit
    have c0 := V3.out.cell 0 _ rfl
    have c1 := V3.out.cell 1 _ rfl
    have c2 := V3.out.cell 2 _ rfl
    have f0 := V3.out.free 0
    have f1 := V3.out.free 1
    have f2 := V3.out.free 2
    have V4 : Kp (Blk (((w3.setCell ⟨B, 0, none⟩ (.int .i64 x)).setCell ⟨B, 1, none⟩ (.string nm)).setCell ⟨B, 2, none⟩ (.int .i64 fo)) B (rowA x fo nm) 164) := ⟨((V3.out.set 0 (.int .i64 x)).set 1 (.string nm)).set 2 (.int .i64 fo)⟩
    go_wp2_with (refine wpList_load_mid rfl 164 _ rfl bb (off + m * 3) rfl [.int .i64 x, .string nm, .int .i64 fo] _ HROW.out Tryz.underlying164 rfl (rowLen x fo nm) ?_)
    refine bodyPost_ret (res2 rfl _ rfl V4.out _ Tryz.underlying164 (rowSize x fo nm)) rfl ⟨x, nm, true, rfl, ?_⟩
    have s1 := HW2.out.size
    have s2 := S1.out
    have s3 := HBq.out
    exact below_set3 ((HB1.out.mono (by omega)).trans ((HW2.out.mono (by omega)).trans (HW3.out.mono (by omega)))) B _ _ _ (by omega)
  · subst hmiss
    have K := Kp.mk (isa_index a cap b o 35 (-1) w2 HR2.out B2.out (.inr ⟨rfl, rfl⟩) HLO.out)
    have hfm : fo = 0 := by
      rw [HFO.out, tab_miss (op := o) (fun i hi => HLO.out i hi)]
      rfl
    subst hfm
    go_wp2_with fail
    refine K.out.mono ?_
    rintro e w3 ⟨rfl, hw3⟩
    have V3 := Kp.mk (V2.out.later hw3)
    have HW3 := Kp.mk hw3
    have c0 := V3.out.cell 0 _ rfl
    have c1 := V3.out.cell 1 _ rfl
    have c2 := V3.out.cell 2 _ rfl
    have f0 := V3.out.free 0
    have f1 := V3.out.free 1
    have f2 := V3.out.free 2
    have V4 : Kp (Blk (((w3.setCell ⟨B, 0, none⟩ (.int .i64 0)).setCell ⟨B, 1, none⟩ (.string ⟨#[]⟩)).setCell ⟨B, 2, none⟩ (.int .i64 0)) B (rowA 0 0 ⟨#[]⟩) 164) := ⟨((V3.out.set 0 (.int .i64 0)).set 1 (.string ⟨#[]⟩)).set 2 (.int .i64 0)⟩
    clear hw3 V2 B2 K
    go_wp2_with fail
    refine bodyPost_ret (res2 rfl _ rfl V4.out _ Tryz.underlying164 (rowSize 0 0 ⟨#[]⟩)) rfl ⟨0, ⟨#[]⟩, false, rfl, ?_⟩
    have s1 := HW2.out.size
    have s2 := S1.out
    have s3 := HBq.out
    exact below_set3 ((HB1.out.mono (by omega)).trans ((HW2.out.mono (by omega)).trans (HW3.out.mono (by omega)))) B _ _ _ (by omega)
set_option maxRecDepth 100000 in
set_option maxHeartbeats 4000000 in
theorem isa_ofOp (o : Int) (w : World) (ht : BlankT w) :
    Calls Tryz.prog 87 #[.int .i64 o] w fun e w' => ∃ x nm t, e = .returned (.tuple #[.agg (rowA x (formAt o : Nat) nm), .bool t]) ∧ Below w.heap.size w w' := by
  obtain ⟨w1, e1⟩ : ∃ w1, w1 = w.alloc (.cells #[.int .i64 o] 3) := ⟨_, rfl⟩
  obtain ⟨w2, e2⟩ : ∃ w2, w2 = w1.alloc (.cells (rowA 0 0 ⟨#[]⟩) 164) := ⟨_, rfl⟩
  obtain ⟨B, hB⟩ : ∃ B, B = w.heap.size := ⟨_, rfl⟩
  have b1 : Below B w w1 := by rw [e1, hB]; exact below_alloc _ _
  have s1 : w1.heap.size = B + 1 := by rw [e1, hB]; simp
  have s2 : w2.heap.size = B + 2 := by rw [e2]; simp [s1]
  have b2 : Below w1.heap.size w1 w2 := by rw [e2]; exact below_alloc _ _
  have HBX : Kp (Below B w w2) := ⟨b1.trans (b2.mono (by omega))⟩
  have HBK : Kp (Blk w2 B #[.int .i64 o] 3) := ⟨Blk.later (by rw [e1, hB]; exact Blk.new _ _ _) b2⟩
  have V2 : Kp (Blk w2 (B + 1) (rowA 0 0 ⟨#[]⟩) 164) := ⟨by rw [e2, ← s1]; exact Blk.new _ _ _⟩
  have KF := Kp.mk (isa_find B o w2 (ht.later (hB ▸ HBX.out)) HBK.out)
  obtain ⟨fo, hfo⟩ : ∃ x : Int, x = (formAt o : Nat) := ⟨_, rfl⟩
  rw [← hfo] at KF ⊢
  have E1 := Kp.mk e1
  have E2 := Kp.mk e2
  have S1 := Kp.mk s1
  have S2 := Kp.mk s2
  have HBq := Kp.mk hB
  clear ht e1 e2 b1 b2 s1 s2 hB hfo
  go_enter Tryz.func87, Tryz.ntmps87
  go_wp2_with fail
  rw [← HBq.out, ← E1.out, ← E2.out]
  refine KF.out.mono ?_
  rintro e w3 ⟨x, nm, t, rfl, hw3⟩
  have V3 := Kp.mk (V2.out.later hw3)
  have HW3 := Kp.mk hw3
  have c0 := V3.out.cell 0 _ rfl
  have c1 := V3.out.cell 1 _ rfl
  have c2 := V3.out.cell 2 _ rfl
  have f0 := V3.out.free 0
  have f1 := V3.out.free 1
  have f2 := V3.out.free 2
  have V4 : Kp (Blk (((w3.setCell ⟨B + 1, 0, none⟩ (.int .i64 x)).setCell ⟨B + 1, 1, none⟩ (.string nm)).setCell ⟨B + 1, 2, none⟩ (.int .i64 fo)) (B + 1) (rowA x fo nm) 164) := ⟨((V3.out.set 0 (.int .i64 x)).set 1 (.string nm)).set 2 (.int .i64 fo)⟩
  clear hw3 V2 HBK KF
  go_wp2_with fail
  refine bodyPost_ret (res2 rfl _ rfl V4.out _ Tryz.underlying164 (rowSize x fo nm)) rfl ⟨x, nm, t, rfl, ?_⟩
  have s2 := S2.out
  have s3 := HBq.out
  exact below_set3 ((HBX.out.mono (by omega)).trans (HW3.out.mono (by omega))) (B + 1) _ _ _ (by omega)
set_option maxRecDepth 100000 in
set_option maxHeartbeats 4000000 in
theorem isa_Form (o : Int) (w : World) (ht : BlankT w) :
    Calls Tryz.prog 71 #[.int .i64 o] w fun e w' => e = .returned (.int .i64 (formAt o : Nat)) ∧ Below w.heap.size w w' := by
  have KF := Kp.mk (isa_ofOp o w ht)
  obtain ⟨fo, hfo⟩ : ∃ x : Int, x = (formAt o : Nat) := ⟨_, rfl⟩
  rw [← hfo] at KF ⊢
  clear ht hfo
  go_enter Tryz.func71, Tryz.ntmps71
  go_wp2_with fail
  refine KF.out.mono ?_
  rintro e w3 ⟨x, nm, t, rfl, hw3⟩
  have HW3 := Kp.mk hw3
  clear hw3 KF
  go_wp2_with fail
  go_ret
  refine ⟨rfl, ?_⟩
  have s3 := HW3.out.size
  exact HW3.out.trans ((below_alloc _ _).mono s3)
end Go.Proofs.YtadikbmbadldpaaGreatDoor
