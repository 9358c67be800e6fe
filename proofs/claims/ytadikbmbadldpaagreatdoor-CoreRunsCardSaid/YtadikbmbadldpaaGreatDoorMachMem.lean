
/- The program's machine: loads and stores, walked. -/
import Derived.Test.YtadikbmbadldpaaGreatDoorMachJmp
import Derived.Deep.RegionHeld3
namespace Go.Proofs.YtadikbmbadldpaaGreatDoor
open Go Go.RowKit
set_option linter.unusedVariables false

theorem width_ok (op : Int) : okSize (widthN op) := by
  unfold widthN
  split
  · exact .inr (.inr rfl)
  · split
    · exact .inr (.inl rfl)
    · exact .inl rfl
theorem MachAt.touch {w w' : World} {b g : Nat} {v : Value} {q : ProcV} (h : MachAt w b v q) (ht : Touch g w w') (hg : b ≠ g) : MachAt w' b v q := (ht.other b h.lt hg).trans h
/-- A store in place, on the machine's pages. -/
theorem St.poke {W0 : BaseW} {w : World} {b : Nat} {v : Value} {n : Nat} {P : Nat → PageV} {q : ProcV} (h : St W0 w b v n P q) (hn : n ≤ 1759218604441) (ad s : Nat) (had : ad < 4294967296) (hs : okSize s) (x : BitVec 32) :
    Calls Tryz.prog 48 #[v, .int .u32 (ad : Int), .int .i64 (s : Int), .int .u32 (x.toNat : Int)] w fun e w' => e = .returned (.tuple #[.int .i64 (lookF P n ad s 1 : Nat), .nilIface]) ∧ St W0 w' b v n (if lookF P n ad s 1 = 0 then Pg.store P ad s x.toNat else P) q ∧ (∀ g cs T, Blk w g cs T → v.ownBlock ≠ some g → Blk w' g cs T) := by
  by_cases h0 : lookF P n ad s 1 = 0
  · rw [if_pos h0, h0]
    obtain ⟨_, z, _⟩ := lookF_zero.1 h0
    obtain ⟨g, cap, rfl, hg, _⟩ := h.own.shape (by omega)
    have KB : ∀ w', Touch g w w' → ∀ g' cs T, Blk w g' cs T → (Value.slice (some ⟨g, 0, none⟩) n cap).ownBlock ≠ some g' → Blk w' g' cs T := fun w' ht g' cs T hb hne => (ht.other g' hb.lt fun e => hne (by rw [e]; rfl)).trans hb
    refine (page_poke_yes w _ g n cap P h.own hn ad s x.toNat had hs x.isLt h0).mono fun e w' ⟨he, ho, ht⟩ => ⟨he, ⟨?_, ho, h.far, h.base, h.below.trans (ht.below _ hg h.below.size), fun c hc => ⟨KB w' ht _ _ _ (h.keep c hc).1 (h.keep c hc).2.2, (h.keep c hc).2⟩⟩, fun g' cs T hb hne => ?_⟩
    · refine h.mach.touch ht fun e => h.far ?_
      rw [e]; rfl
    · refine (ht.other g' hb.lt fun e => hne ?_).trans hb
      rw [e]; rfl
  · rw [if_neg h0]
    obtain ⟨a, cap, rfl, hrd⟩ := h.own.rd hn
    exact (page_poke_no a n cap P w hrd ad s x.toNat had hs h0).mono fun e w' ⟨he, hw⟩ => ⟨he, hw ▸ h, fun _ _ _ hb _ => hw ▸ hb⟩
theorem St.load {W0 : BaseW} {w : World} {b : Nat} {v : Value} {n : Nat} {P : Nat → PageV} {q : ProcV} (h : St W0 w b v n P q) (hn : n ≤ 1759218604441) (ad s : Nat) (had : ad < 4294967296) (hs : okSize s) :
    Calls Tryz.prog 50 #[v, .int .u32 (ad : Int), .int .i64 (s : Int)] w fun e w' => e = .returned (.tuple #[.int .u32 (loadV P n ad s 0 : Nat), .int .i64 (lookF P n ad s 0 : Nat), .nilIface]) ∧ w' = w := by
  obtain ⟨a, cap, rfl, hrd⟩ := h.own.rd hn
  exact page_load a n cap P w hrd ad s had hs
theorem load_lt {P : Nat → PageV} {n ad s k : Nat} (hs : okSize s) : loadV P n ad s k < 4294967296 := by
  unfold loadV
  cases decide (lookF P n ad s k = 0)
  · rw [cond_false]; decide
  · have h1 := Pg.num_lt P ad s
    have h2 : 256 ^ s ≤ 256 ^ 4 := Nat.pow_le_pow_right (by decide) hs.le.2
    rw [cond_true]
    exact Nat.lt_of_lt_of_le h1 h2
theorem ownP_far {w : World} {B : Nat} {v : Value} {n : Nat} {P : Nat → PageV} (h : OwnP w B v n P) : v.ownBlock ≠ some w.heap.size := by
  intro e
  rcases h.2 with ⟨hv, _⟩ | ⟨g, cap, cur, hv, _, hh, _⟩
  · rw [hv] at e; simp [Value.ownBlock] at e
  · rw [hv] at e
    simp only [Value.ownBlock, Option.some.injEq] at e
    subst e
    exact absurd (Array.getElem?_eq_some_iff.1 hh).1 (Nat.lt_irrefl _)
/-- What the store's reads see. -/
theorem mem_sees {w : World} {b g : Nat} {v : Value} {q : ProcV} {op : Int} {a d c : Nat} {imm : Int} {ya : BitVec 32} (h : MachAt w b v q) (hi : Blk w g (insA op a d c imm) 67) (ha : a < 16) (hy : ya = q.r a) :
    w.cell? ⟨b, 0, none⟩ = some v ∧ w.cell? ⟨g, 0, none⟩ = some (.int .i64 op) ∧ w.cell? ⟨g, 1, none⟩ = some (.int .i64 (a : Int)) ∧ w.cell? ⟨b, 1 + a, none⟩ = some (.int .u32 (ya.toNat : Int)) :=
  ⟨h.pages, hi.cell 0 _ rfl, hi.cell 1 _ rfl, by rw [hy]; exact h.reg a ha⟩
set_option maxRecDepth 100000 in
set_option maxHeartbeats 8000000 in
theorem core_memory {W0 : BaseW} {w : World} {b : Nat} {v : Value} {n : Nat} {P : Nat → PageV} {q : ProcV} (h : St W0 w b v n P q) (hn : n ≤ 1759218604441) (op : Int) (h1 : 32 ≤ op) (h37 : op ≤ 37) (a d c : Nat) (ha : a < 16) (hd : d < 16) (hc : c < 16) (imm : Int) :
    Calls Tryz.prog 26 #[.pointer (some ⟨b, 0, none⟩), .agg (insA op a d c imm)] w fun e w' => e = .returned (.int .i64 ((memV P n q (insP op a d c imm)).1 : Nat)) ∧ St W0 w' b v n (memV P n q (insP op a d c imm)).2.1 (memV P n q (insP op a d c imm)).2.2 := by
  obtain ⟨x, hx⟩ : ∃ x, x = BitVec.ofInt 32 imm := ⟨_, rfl⟩
  have px : imm % (4294967296 : Int) = (x.toNat : Int) := by rw [hx]; exact u32_of_imm imm
  obtain ⟨w1, ew1⟩ : ∃ w1, w1 = w.alloc (.cells (insA op a d c imm) 67) := ⟨_, rfl⟩
  obtain ⟨g, hg⟩ : ∃ g, g = w.heap.size := ⟨_, rfl⟩
  have HN : Kp (St W0 w1 b v n P q) := ⟨by rw [ew1]; exact h.later (below_alloc _ _)⟩
  have VI : Kp (Blk w1 g (insA op a d c imm) 67) := ⟨by rw [ew1, hg]; exact Blk.new _ _ _⟩
  have HFG : Kp (v.ownBlock ≠ some g) := ⟨by rw [hg]; exact ownP_far h.own⟩
  have cv := HN.out.mach.pages
  have ca := HN.out.mach.reg a ha
  have cd := HN.out.mach.reg d hd
  have i0 := VI.out.cell 0 _ rfl
  have i1 := VI.out.cell 1 _ rfl
  have i2 := VI.out.cell 2 _ rfl
  have i4 := VI.out.cell 4 _ rfl
  obtain ⟨ya, hya⟩ : ∃ y, y = q.r a := ⟨_, rfl⟩
  obtain ⟨yd, hyd⟩ : ∃ y, y = q.r d := ⟨_, rfl⟩
  rw [← hyd] at cd
  rw [← hya] at ca
  obtain ⟨s, hs⟩ : ∃ s, s = yd + x := ⟨_, rfl⟩
  have ps : ((yd.toNat : Int) + x.toNat) % (4294967296 : Int) = (s.toNat : Int) := by rw [hs]; exact u32_add yd x
  have t1 : (d : Int) < 16 := by omega
  have t2 : (0 : Int) ≤ (d : Int) := by omega
  have t3 : (a : Int) < 16 := by omega
  have t4 : (0 : Int) ≤ (a : Int) := by omega
  have KW := Kp.mk (fun v' => core_width op h1 h37 v')
  obtain ⟨k, hk⟩ : ∃ k, k = widthN op := ⟨_, rfl⟩
  have hok : okSize k := by rw [hk]; exact width_ok op
  rw [← hk] at KW
  have KS := Kp.mk (fun w' (hw : Below w1.heap.size w1 w') (y : BitVec 32) => core_set (HN.out.later hw) a ha y)
  have KP := Kp.mk (fun w' (hw : Below w1.heap.size w1 w') => (HN.out.later hw).poke hn s.toNat k s.isLt hok ya)
  have KL := Kp.mk (fun w' (hw : Below w1.heap.size w1 w') => (HN.out.later hw).load hn s.toNat k s.isLt hok)
  obtain ⟨l, hl⟩ : ∃ l, l = BitVec.ofNat 32 (loadV P n s.toNat k 0) := ⟨_, rfl⟩
  have hlv : ((loadV P n s.toNat k 0 : Nat) : Int) = (l.toNat : Int) := by
    rw [hl, BitVec.toNat_ofNat, Nat.mod_eq_of_lt (load_lt hok)]
  rw [hlv] at KL
  have HC : Kp (memV P n q (insP op a d c imm) = if 35 ≤ op then (lookF P n s.toNat k 1, if lookF P n s.toNat k 1 = 0 then Pg.store P s.toNat k ya.toNat else P, q) else (lookF P n s.toNat k 0, P, if lookF P n s.toNat k 0 = 0 then q.set a l else q)) := ⟨by rw [hl, hs, hk, hya, hyd, hx]; rfl⟩
  obtain ⟨r, hr⟩ : ∃ r, r = memV P n q (insP op a d c imm) := ⟨_, rfl⟩
  rw [← hr]
  rw [← hr] at HC
  have EW1 := Kp.mk ew1
  have HG := Kp.mk hg
  have HYA := Kp.mk hya
  have HA16 := Kp.mk ha
  clear h ha hd hc hx hya hyd hr hs hk hok hl hlv ew1 hg h1 h37
  by_cases h35 : 35 ≤ op
  · have g35 : decide (op ≥ 35) = true := decide_eq_true h35
    obtain ⟨f, hf⟩ : ∃ f, f = lookF P n s.toNat k 1 := ⟨_, rfl⟩
    have hr : r = (f, if f = 0 then Pg.store P s.toNat k ya.toNat else P, q) := by rw [HC.out, if_pos h35, hf]
    obtain ⟨P2, hP2⟩ : ∃ P2, P2 = if f = 0 then Pg.store P s.toNat k ya.toNat else P := ⟨_, rfl⟩
    rw [← hf, ← hP2] at KP
    rw [← hP2] at hr
    subst hr
    clear HC KS KL h35 hf hP2
    go_enter Tryz.func26, Tryz.ntmps26
    go_wp2_with fail
    rw [← HG.out, ← EW1.out]
    go_quiet (fail)
    try simp only [ps]
    go_wp2_with fail
    go_region_held3 (fun w' => w'.cell? ⟨b, 0, none⟩ = some v ∧ w'.cell? ⟨g, 0, none⟩ = some (.int .i64 op) ∧ w'.cell? ⟨g, 1, none⟩ = some (.int .i64 (a : Int)) ∧ w'.cell? ⟨b, 1 + a, none⟩ = some (.int .u32 (ya.toNat : Int)))
      (first
        | exact mem_sees HW3.out.mach HBL3.out HA16.out HYA.out
        | exact mem_sees (HN.out.later (below_drewN (Below.refl _ _) _)).mach (VI.out.later (below_drewN (Below.refl _ _) _)) HA16.out HYA.out
        | exact mem_sees (HN.out.later ((below_drewN (Below.refl _ _) _).drew)).mach (VI.out.later ((below_drewN (Below.refl _ _) _).drew)) HA16.out HYA.out)
      (first
        | (go_at_call 49; (with_reducible refine (KW.out _).mono ?_); rintro e w2 ⟨rfl, hw2⟩; obtain rfl := hw2.symm; clear hw2)
        | (go_at_call 48; (with_reducible refine (KP.out _ ((below_drewN (Below.refl _ _) _).drew)).mono ?_); rintro e w3 ⟨rfl, hst, hbl⟩; have HW3 := Kp.mk hst; have HBL3 := Kp.mk (hbl g _ _ (VI.out.later ((below_drewN (Below.refl _ _) _).drew)) HFG.out); clear hst hbl)
        | (go_at_call 48; (with_reducible refine (KP.out _ (below_drewN (Below.refl _ _) _)).mono ?_); rintro e w3 ⟨rfl, hst, hbl⟩; have HW3 := Kp.mk hst; have HBL3 := Kp.mk (hbl g _ _ (VI.out.later (below_drewN (Below.refl _ _) _)) HFG.out); clear hst hbl))
    go_wp2_with fail
    go_ret
    exact ⟨rfl, HW3.out⟩
  · have g35 : decide (op ≥ 35) = false := decide_eq_false h35
    obtain ⟨f, hf⟩ : ∃ f, f = lookF P n s.toNat k 0 := ⟨_, rfl⟩
    have hr : r = (f, P, if f = 0 then q.set a l else q) := by rw [HC.out, if_neg h35, hf]
    rw [← hf] at KL
    clear HC KP h35 hf
    by_cases hf0 : f = 0
    · have gf : ((f : Int) == 0) = true := by rw [hf0]; rfl
      have hr2 : r = (f, P, q.set a l) := by rw [hr, if_pos hf0]
      subst hr2
      clear hr hf0
      go_enter Tryz.func26, Tryz.ntmps26
      go_wp2_with fail
      rw [← HG.out, ← EW1.out]
      go_quiet (fail)
      try simp only [ps]
      go_wp2_with fail
      go_quiet (first
        | (with_reducible refine (KW.out _).mono ?_; exact fun _ _ h => ⟨h.1, ⟨_, h.2⟩⟩)
        | (with_reducible refine (KL.out _ (below_drewN (Below.refl _ _) _)).mono ?_; exact fun _ _ h => ⟨h.1, ⟨_, h.2⟩⟩))
      go_wp2_with (first
        | (go_at_call 46; (with_reducible refine (KS.out _ (below_drewN (Below.refl _ _) _) _).mono ?_); rintro e w3 ⟨rfl, hst⟩; have HW3 := Kp.mk hst; clear hst))
      go_ret
      exact ⟨rfl, HW3.out⟩
    · have gf : ((f : Int) == 0) = false := by rw [beq_eq_false_iff_ne]; omega
      have hr2 : r = (f, P, q) := by rw [hr, if_neg hf0]
      subst hr2
      clear hr hf0 KS
      go_enter Tryz.func26, Tryz.ntmps26
      go_wp2_with fail
      rw [← HG.out, ← EW1.out]
      go_quiet (fail)
      try simp only [ps]
      go_wp2_with fail
      go_quiet (first
        | (with_reducible refine (KW.out _).mono ?_; exact fun _ _ h => ⟨h.1, ⟨_, h.2⟩⟩)
        | (with_reducible refine (KL.out _ (below_drewN (Below.refl _ _) _)).mono ?_; exact fun _ _ h => ⟨h.1, ⟨_, h.2⟩⟩))
      go_wp2_with fail
      go_ret
      exact ⟨rfl, HN.out.later (below_drewN (Below.refl _ _) _)⟩
end Go.Proofs.YtadikbmbadldpaaGreatDoor
