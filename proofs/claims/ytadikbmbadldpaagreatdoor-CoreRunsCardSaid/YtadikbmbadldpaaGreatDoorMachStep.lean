
/- The program's machine: one step, walked (printed by gen_machstep.py). -/
import Derived.Test.YtadikbmbadldpaaGreatDoorMachMem
namespace Go.Proofs.YtadikbmbadldpaaGreatDoor
open Go Go.RowKit
set_option linter.unusedVariables false

theorem then_gen {K : Act → World → Prop} {Q : Exit → Act → World → Prop} {e : Exit} {a : Act} {W : World} (F : World → Prop) (hF : F W) (h : ∀ W', F W' → Exit.then K Q e a W') : Exit.then K Q e a W := h W hF
/-- The ranges of the instructions. -/
def OpOk (op : Int) : Prop := (1 ≤ op ∧ op ≤ 20) ∨ (32 ≤ op ∧ op ≤ 37) ∨ (48 ≤ op ∧ op ≤ 55) ∨ op = 64
theorem op_ok (op : Int) (h : formAt op ≠ 0) : OpOk op := by
  unfold OpOk
  by_cases h1 : op < 1
  · exact absurd (formAt_lt1 op h1) h
  by_cases h2 : 21 ≤ op ∧ op ≤ 31
  · exact absurd (formAt_c21 op h2) h
  by_cases h3 : 38 ≤ op ∧ op ≤ 47
  · exact absurd (formAt_c38 op h3) h
  by_cases h4 : 56 ≤ op ∧ op ≤ 63
  · exact absurd (formAt_c56 op h4) h
  by_cases h5 : 65 ≤ op
  · exact absurd (formAt_c65 op h5) h
  omega
/-- An instruction that was fetched. -/
theorem ft_good {P : Nat → PageV} {n pc : Nat} (h : ftC P n pc = 0) : ∃ (op : Int) (a d c : Nat) (imm : Int), ftI P n pc = insP op a d c imm ∧ a < 16 ∧ d < 16 ∧ c < 16 ∧ OpOk op ∧ -32768 ≤ imm ∧ imm ≤ 65535 := by
  unfold ftC at h
  unfold ftI
  by_cases hl : lookF P n pc 4 2 = 0
  · rw [decide_eq_true hl, cond_true] at h ⊢
    by_cases hd : decC (ftW P n pc) = 0
    · have hf : formAt (wOp (ftW P n pc) : Nat) ≠ 0 := fun e => by
        unfold decC at hd
        rw [e] at hd
        cases hd
      have b1 := imm_lo (formAt (wOp (ftW P n pc) : Nat)) (ftW P n pc)
      have b2 := imm_hi (formAt (wOp (ftW P n pc) : Nat)) (ftW P n pc)
      refine ⟨(wOp (ftW P n pc) : Nat), wA (ftW P n pc), wB (ftW P n pc), cOf (formAt (wOp (ftW P n pc) : Nat)) (ftW P n pc), immOf (formAt (wOp (ftW P n pc) : Nat)) (ftW P n pc), ?_, by unfold wA; omega, by unfold wB; omega, ?_, op_ok _ hf, Int.le_trans ?_ b1, Int.le_trans b2 ?_⟩
      · unfold decI insOf cOf
        rw [decide_eq_true hd, cond_true]
        cases decide (formAt (wOp (ftW P n pc) : Nat) = 1) <;> rfl
      · unfold cOf
        cases decide (formAt (wOp (ftW P n pc) : Nat) = 1)
        · exact (by decide : (0 : Nat) < 16)
        · show wC _ < 16
          unfold wC; omega
      · cases usI (formAt (wOp (ftW P n pc) : Nat)) <;> cases usS (formAt (wOp (ftW P n pc) : Nat)) <;> decide
      · cases usI (formAt (wOp (ftW P n pc) : Nat)) <;> cases usS (formAt (wOp (ftW P n pc) : Nat)) <;> decide
    · rw [decide_eq_false hd] at h; cases h
  · rw [decide_eq_false hl, cond_false] at h
    exact absurd h hl
theorem below_da (w : World) (o : Obj) : Below w.heap.size w (w.alloc o).drew := (below_alloc w o).drew
theorem step_sees {W0 : BaseW} {w : World} {b : Nat} {v : Value} {n : Nat} {P : Nat → PageV} {q : ProcV} {pc : BitVec 32} (h : St W0 w b v n P q) (hp : pc = q.pc) : w.cell? ⟨b, 0, none⟩ = some v ∧ w.cell? ⟨b, 17, none⟩ = some (.int .u32 (pc.toNat : Int)) :=
  ⟨h.mach.pages, by rw [hp]; exact h.mach.pc⟩
/-- The machine with an instruction in a variable of the call's own. -/
structure FI (W0 : BaseW) (w W : World) (b : Nat) (v : Value) (n : Nat) (P : Nat → PageV) (q : ProcV) (g : Nat) (i : Array Value) : Prop where
  st : St W0 W b v n P q
  ins : Blk W g i 67
  far : v.ownBlock ≠ some g
  ne : b ≠ g
theorem St.lt {W0 : BaseW} {w : World} {b : Nat} {v : Value} {n : Nat} {P : Nat → PageV} {q : ProcV} (h : St W0 w b v n P q) : b < w.heap.size := h.mach.lt
theorem St.other5 {W0 : BaseW} {w : World} {b : Nat} {v : Value} {n : Nat} {P : Nat → PageV} {q : ProcV} (h : St W0 w b v n P q) (g : Nat) (x0 x1 x2 x3 x4 : Value) (hv : v.ownBlock ≠ some g) (hb : b ≠ g) (hg : W0.heap.size ≤ g) (hk : ∀ c ∈ W0.cs, c.1 ≠ g) : St W0 (set5 w g x0 x1 x2 x3 x4) b v n P q :=
  ⟨((((Blk.other h.mach g 0 x0 hb).other g 1 x1 hb).other g 2 x2 hb).other g 3 x3 hb).other g 4 x4 hb, ((((h.own.other g 0 x0 hv).other g 1 x1 hv).other g 2 x2 hv).other g 3 x3 hv).other g 4 x4 hv, h.far, h.base, below_set5 h.below g _ _ _ _ _ hg, fun c hc => ⟨(((((h.keep c hc).1.other g 0 x0 (hk c hc)).other g 1 x1 (hk c hc)).other g 2 x2 (hk c hc)).other g 3 x3 (hk c hc)).other g 4 x4 (hk c hc), (h.keep c hc).2⟩⟩
set_option maxRecDepth 100000 in
set_option maxHeartbeats 8000000 in
theorem core_step (A : Nat → Addr) {W0 : BaseW} {w : World} {b : Nat} {v : Value} {n : Nat} {P : Nat → PageV} {q : ProcV} (h : St W0 w b v n P q) (hn : n ≤ 1759218604441) (hE : Errs W0.w [4, 7, 20] A) (ht : BlankT W0.w) :
    Calls Tryz.prog 17 #[.pointer (some ⟨b, 0, none⟩)] w fun e w' => e = .returned (.tuple #[.int .i64 ((stepV n P q).k : Nat), .int .i64 (stepV n P q).c]) ∧ St W0 w' b v n (stepV n P q).P (stepV n P q).q := by
  have HN := Kp.mk h
  have HE7 : Kp (Errs W0.w [7, 20] A) := ⟨hE.sub (by intro c hc; simp at hc ⊢; omega)⟩
  have KF : Kp (∀ w', Below w.heap.size w w' → Calls Tryz.prog 24 #[v, .int .u32 (q.pc.toNat : Int)] w' fun e w'' => e = .returned (.tuple #[.agg (ftI P n q.pc.toNat).arr, .int .i64 (ftC P n q.pc.toNat : Nat)]) ∧ Below w'.heap.size w' w'') := ⟨fun w' hw => by
    have h' := h.later hw
    obtain ⟨a, cap, rfl, hrd⟩ := h'.own.rd hn
    exact core_fetch A a n cap P w' hrd q.pc.toNat q.pc.isLt (ht.later h'.below) ((hE.sub (by intro c hc; simp at hc ⊢; omega)).later h'.below)⟩
  have cv := h.mach.pages
  have cp := h.mach.pc
  have hlt := h.lt
  obtain ⟨f, hf⟩ : ∃ f, f = ftC P n q.pc.toNat := ⟨_, rfl⟩
  obtain ⟨i, hi⟩ : ∃ i, i = ftI P n q.pc.toNat := ⟨_, rfl⟩
  obtain ⟨nx, hnx⟩ : ∃ nx, nx = q.pc + 4#32 := ⟨_, rfl⟩
  have pnx : ((q.pc.toNat : Int) + 4) % (4294967296 : Int) = (nx.toNat : Int) := by
    rw [hnx]
    have := u32_add q.pc 4#32
    exact this
  have HGD : Kp (f = 0 → ∃ (op : Int) (a d c : Nat) (imm : Int), i = insP op a d c imm ∧ a < 16 ∧ d < 16 ∧ c < 16 ∧ OpOk op ∧ -32768 ≤ imm ∧ imm ≤ 65535) := ⟨fun e => by rw [hi]; exact ft_good (by rw [← hf]; exact e)⟩
  rw [← hf, ← hi] at KF
  have HC : Kp (stepV n P q = if f ≠ 0 then ⟨P, q, 2, f⟩ else if i.op = 64 then ⟨P, q.go nx, 1, i.imm⟩ else if 48 ≤ i.op then ⟨P, (jmpV q i nx).2.go (jmpV q i nx).1, 0, 0⟩
    else if 32 ≤ i.op then (if (memV P n q i).1 ≠ 0 then ⟨(memV P n q i).2.1, (memV P n q i).2.2, 2, (memV P n q i).1⟩ else ⟨(memV P n q i).2.1, (memV P n q i).2.2.go nx, 0, 0⟩)
    else (if (cmpV q i).1 ≠ 0 then ⟨P, (cmpV q i).2, 2, (cmpV q i).1⟩ else ⟨P, (cmpV q i).2.go nx, 0, 0⟩)) := ⟨by rw [hf, hi, hnx]; rfl⟩
  obtain ⟨r, hr⟩ : ∃ r, r = stepV n P q := ⟨_, rfl⟩
  rw [← hr]
  rw [← hr] at HC
  obtain ⟨pc, hpc⟩ : ∃ pc, pc = q.pc := ⟨_, rfl⟩
  rw [← hpc] at KF cp pnx
  obtain ⟨io, ia, id, ic, im⟩ := i
  simp only [InsV.arr] at KF
  have HB0 : Kp (W0.heap.size ≤ w.heap.size) := ⟨h.below.size⟩
  have HPC := Kp.mk hpc
  have HFAR : Kp (v.ownBlock ≠ some w.heap.size) := ⟨ownP_far h.own⟩
  have HNEB : Kp (b ≠ w.heap.size) := ⟨Nat.ne_of_lt h.lt⟩
  have HKP : Kp (∀ c ∈ W0.cs, c.1 ≠ w.heap.size) := ⟨fun c hc => Nat.ne_of_lt (h.keep c hc).1.lt⟩
  clear h hf hi hnx hr hE ht hpc
  go_enter Tryz.func17, Tryz.ntmps17
  go_wp2_with fail
  go_region_held3 (fun w' => w'.cell? ⟨b, 0, none⟩ = some v ∧ w'.cell? ⟨b, 17, none⟩ = some (.int .u32 (pc.toNat : Int)))
    (first
      | with_reducible exact step_sees (HN.out.later (Drew.once _).below) HPC.out
      | with_reducible exact step_sees (HN.out.later (below_da _ _)) HPC.out
      | with_reducible exact step_sees (HN.out.later HW3.out) HPC.out
      | with_reducible exact step_sees (HN.out.later (HW3.out.trans ((below_alloc _ _).mono HW3.out.size))) HPC.out
      | with_reducible exact step_sees ((HN.out.later HW3.out).other5 w.heap.size _ _ _ _ _ HFAR.out HNEB.out HB0.out HKP.out) HPC.out)
    (first
      | (go_at_call 24; (with_reducible refine (KF.out _ (Drew.once _).below).mono ?_); rintro e w3 ⟨rfl, hw3⟩; have HW3 := Kp.mk ((Drew.once w).below.trans (hw3.mono (Drew.once w).below.size)); clear hw3)
      | (go_at_call 24; (with_reducible refine (KF.out _ (below_da _ _)).mono ?_); rintro e w3 ⟨rfl, hw3⟩; have HW3 := Kp.mk ((below_da w _).trans (hw3.mono (below_da w _).size)); have VZ := Kp.mk (((Blk.new w insZ 67).drew).later hw3); have c0 := VZ.out.cell 0 _ rfl; have c1 := VZ.out.cell 1 _ rfl; have c2 := VZ.out.cell 2 _ rfl; have c3 := VZ.out.cell 3 _ rfl; have c4 := VZ.out.cell 4 _ rfl; have f0 := VZ.out.free 0; have f1 := VZ.out.free 1; have f2 := VZ.out.free 2; have f3 := VZ.out.free 3; have f4 := VZ.out.free 4; clear hw3))
  · refine then_gen (F := fun W => Kp (FI W0 w W b v n P q w3.heap.size (insA io ia id ic im))) ⟨⟨(HN.out.later HW3.out).later (below_alloc _ _), Blk.new w3 _ _, ownP_far (HN.out.later HW3.out).own, Nat.ne_of_lt (HN.out.later HW3.out).lt⟩⟩ ?_
    generalize w3.heap.size = g
    clear HW3
    intro W HW
    clear HFAR HNEB HB0 HKP KF HN cv cp hlt
    by_cases hf0 : f = 0
    · obtain ⟨op, a, d, c, imm, hi, ha, hd, hc, hop, hb1, hb2⟩ := HGD.out hf0
      simp only [insP, InsV.mk.injEq] at hi
      obtain ⟨rfl, rfl, rfl, rfl, rfl⟩ := hi
      have HC2 : Kp (r = if io = 64 then ⟨P, q.go nx, 1, im⟩ else if 48 ≤ io then ⟨P, (jmpV q (insP io a d c im) nx).2.go (jmpV q (insP io a d c im) nx).1, 0, 0⟩
        else if 32 ≤ io then (if (memV P n q (insP io a d c im)).1 ≠ 0 then ⟨(memV P n q (insP io a d c im)).2.1, (memV P n q (insP io a d c im)).2.2, 2, (memV P n q (insP io a d c im)).1⟩ else ⟨(memV P n q (insP io a d c im)).2.1, (memV P n q (insP io a d c im)).2.2.go nx, 0, 0⟩)
        else (if (cmpV q (insP io a d c im)).1 ≠ 0 then ⟨P, (cmpV q (insP io a d c im)).2, 2, (cmpV q (insP io a d c im)).1⟩ else ⟨P, (cmpV q (insP io a d c im)).2.go nx, 0, 0⟩)) := ⟨by rw [HC.out, if_neg (by omega)]⟩
      subst hf0
      clear HC HGD
      have M := HW
      clear HW
      have i0 := M.out.ins.cell 0 _ rfl
      have i1 := M.out.ins.cell 1 _ rfl
      have i2 := M.out.ins.cell 2 _ rfl
      have i3 := M.out.ins.cell 3 _ rfl
      have i4 := M.out.ins.cell 4 _ rfl
      have cp : W.cell? ⟨b, 17, none⟩ = some (.int .u32 (pc.toNat : Int)) := by rw [HPC.out]; exact M.out.st.mach.pc
      have fp := M.out.st.mach.free 17
      have nb1 : ¬ b = g := M.out.ne
      have nb2 : ¬ g = b := fun e => M.out.ne e.symm
      by_cases h64 : io = 64
      · subst h64
        have hr : r = ⟨P, q.go nx, 1, im⟩ := HC2.out
        subst hr
        have HST := Kp.mk (M.out.st.go nx)
        clear HC2 hop
        go_wp2_with fail
        go_quiet (fail)
        go_wp2_with fail
        go_ret2
        exact ⟨rfl, HST.out.later (below_drewN (Below.refl _ _) _)⟩
      have g64 : (io == 64) = false := by rw [beq_eq_false_iff_ne]; exact h64
      by_cases h48 : 48 ≤ io
      · have g48 : decide (io ≥ 48) = true := decide_eq_true h48
        have KJ := Kp.mk (core_jump A M.out.st HE7.out io h48 (by unfold OpOk at hop; omega) a d c ha hd hc im nx)
        obtain ⟨j, hj⟩ : ∃ j, j = jmpV q (insP io a d c im) nx := ⟨_, rfl⟩
        have hr : r = ⟨P, j.2.go j.1, 0, 0⟩ := by rw [HC2.out, if_neg h64, if_pos h48, hj]
        rw [← hj] at KJ
        subst hr
        obtain ⟨jn, jq⟩ := j
        clear HC2 hop h64 h48 hj ha hd hc hb1 hb2
        go_wp2_with (first
          | (go_at_call 25; (with_reducible refine KJ.out.mono ?_); rintro e w4 ⟨rfl, hst⟩; have HW4 := Kp.mk hst; have c17 := hst.mach.pc; have f17 := hst.mach.free 17; clear hst))
        go_ret2
        exact ⟨rfl, HW4.out.go jn⟩
      have g48 : decide (io ≥ 48) = false := decide_eq_false h48
      by_cases h32 : 32 ≤ io
      · have g32 : decide (io ≥ 32) = true := decide_eq_true h32
        have KJ := Kp.mk (core_memory M.out.st hn io h32 (by unfold OpOk at hop; omega) a d c ha hd hc im)
        obtain ⟨m, hm⟩ : ∃ m, m = memV P n q (insP io a d c im) := ⟨_, rfl⟩
        have hr : r = if m.1 ≠ 0 then ⟨m.2.1, m.2.2, 2, m.1⟩ else ⟨m.2.1, m.2.2.go nx, 0, 0⟩ := by rw [HC2.out, if_neg h64, if_neg h48, if_pos h32, hm]
        rw [← hm] at KJ
        obtain ⟨mf, mp, mq⟩ := m
        clear HC2 hop h64 h48 h32 hm ha hd hc hb1 hb2
        by_cases hm0 : mf = 0
        · have gm : ((mf : Int) != 0) = false := by rw [hm0]; rfl
          have hr2 : r = ⟨mp, mq.go nx, 0, 0⟩ := by rw [hr]; exact if_neg (fun h => h hm0)
          subst hr2
          clear hr hm0
          go_wp2_with (first
            | (go_at_call 26; (with_reducible refine KJ.out.mono ?_); rintro e w4 ⟨rfl, hst⟩; have HW4 := Kp.mk hst; have c17 := hst.mach.pc; have f17 := hst.mach.free 17; clear hst))
          go_ret2
          exact ⟨rfl, HW4.out.go nx⟩
        · have gm : ((mf : Int) != 0) = true := by simp; omega
          have hr2 : r = ⟨mp, mq, 2, mf⟩ := by rw [hr]; exact if_pos hm0
          subst hr2
          clear hr hm0
          go_wp2_with (first
            | (go_at_call 26; (with_reducible refine KJ.out.mono ?_); rintro e w4 ⟨rfl, hst⟩; have HW4 := Kp.mk hst; clear hst))
          go_ret2
          exact ⟨rfl, HW4.out⟩
      · have g32 : decide (io ≥ 32) = false := decide_eq_false h32
        have KJ := Kp.mk (core_compute A M.out.st HE7.out io (by unfold OpOk at hop; omega) (by unfold OpOk at hop; omega) a d c ha hd hc im)
        obtain ⟨m, hm⟩ : ∃ m, m = cmpV q (insP io a d c im) := ⟨_, rfl⟩
        have hr : r = if m.1 ≠ 0 then ⟨P, m.2, 2, m.1⟩ else ⟨P, m.2.go nx, 0, 0⟩ := by rw [HC2.out, if_neg h64, if_neg h48, if_neg h32, hm]
        rw [← hm] at KJ
        obtain ⟨mf, mq⟩ := m
        clear HC2 hop h64 h48 h32 hm ha hd hc hb1 hb2
        by_cases hm0 : mf = 0
        · have gm : ((mf : Int) != 0) = false := by rw [hm0]; rfl
          have hr2 : r = ⟨P, mq.go nx, 0, 0⟩ := by rw [hr]; exact if_neg (fun h => h hm0)
          subst hr2
          clear hr hm0
          go_wp2_with (first
            | (go_at_call 27; (with_reducible refine KJ.out.mono ?_); rintro e w4 ⟨rfl, hst⟩; have HW4 := Kp.mk hst; have c17 := hst.mach.pc; have f17 := hst.mach.free 17; clear hst))
          go_ret2
          exact ⟨rfl, HW4.out.go nx⟩
        · have gm : ((mf : Int) != 0) = true := by simp; omega
          have hr2 : r = ⟨P, mq, 2, mf⟩ := by rw [hr]; exact if_pos hm0
          subst hr2
          clear hr hm0
          go_wp2_with (first
            | (go_at_call 27; (with_reducible refine KJ.out.mono ?_); rintro e w4 ⟨rfl, hst⟩; have HW4 := Kp.mk hst; clear hst))
          go_ret2
          exact ⟨rfl, HW4.out⟩
    · have gf : ((f : Int) != 0) = true := by simp; omega
      have hr : r = ⟨P, q, 2, f⟩ := by rw [HC.out, if_pos hf0]
      subst hr
      clear HC HGD hf0
      go_wp2_with fail
      go_ret2
      exact ⟨rfl, HW.out.st⟩
  · refine then_gen (F := fun W => Kp (FI W0 w W b v n P q w.heap.size (insA io ia id ic im))) ⟨⟨(HN.out.later HW3.out).other5 w.heap.size _ _ _ _ _ HFAR.out HNEB.out HB0.out HKP.out, VZ.out.set5 _ _ _ _ _, HFAR.out, HNEB.out⟩⟩ ?_
    generalize w.heap.size = g
    clear HW3 VZ c0 c1 c2 c3 c4 f0 f1 f2 f3 f4
    intro W HW
    clear HFAR HNEB HB0 HKP KF HN cv cp hlt
    by_cases hf0 : f = 0
    · obtain ⟨op, a, d, c, imm, hi, ha, hd, hc, hop, hb1, hb2⟩ := HGD.out hf0
      simp only [insP, InsV.mk.injEq] at hi
      obtain ⟨rfl, rfl, rfl, rfl, rfl⟩ := hi
      have HC2 : Kp (r = if io = 64 then ⟨P, q.go nx, 1, im⟩ else if 48 ≤ io then ⟨P, (jmpV q (insP io a d c im) nx).2.go (jmpV q (insP io a d c im) nx).1, 0, 0⟩
        else if 32 ≤ io then (if (memV P n q (insP io a d c im)).1 ≠ 0 then ⟨(memV P n q (insP io a d c im)).2.1, (memV P n q (insP io a d c im)).2.2, 2, (memV P n q (insP io a d c im)).1⟩ else ⟨(memV P n q (insP io a d c im)).2.1, (memV P n q (insP io a d c im)).2.2.go nx, 0, 0⟩)
        else (if (cmpV q (insP io a d c im)).1 ≠ 0 then ⟨P, (cmpV q (insP io a d c im)).2, 2, (cmpV q (insP io a d c im)).1⟩ else ⟨P, (cmpV q (insP io a d c im)).2.go nx, 0, 0⟩)) := ⟨by rw [HC.out, if_neg (by omega)]⟩
      subst hf0
      clear HC HGD
      have M := HW
      clear HW
      have i0 := M.out.ins.cell 0 _ rfl
      have i1 := M.out.ins.cell 1 _ rfl
      have i2 := M.out.ins.cell 2 _ rfl
      have i3 := M.out.ins.cell 3 _ rfl
      have i4 := M.out.ins.cell 4 _ rfl
      have cp : W.cell? ⟨b, 17, none⟩ = some (.int .u32 (pc.toNat : Int)) := by rw [HPC.out]; exact M.out.st.mach.pc
      have fp := M.out.st.mach.free 17
      have nb1 : ¬ b = g := M.out.ne
      have nb2 : ¬ g = b := fun e => M.out.ne e.symm
      by_cases h64 : io = 64
      · subst h64
        have hr : r = ⟨P, q.go nx, 1, im⟩ := HC2.out
        subst hr
        have HST := Kp.mk (M.out.st.go nx)
        clear HC2 hop
        go_wp2_with fail
        go_quiet (fail)
        go_wp2_with fail
        go_ret2
        exact ⟨rfl, HST.out.later (below_drewN (Below.refl _ _) _)⟩
      have g64 : (io == 64) = false := by rw [beq_eq_false_iff_ne]; exact h64
      by_cases h48 : 48 ≤ io
      · have g48 : decide (io ≥ 48) = true := decide_eq_true h48
        have KJ := Kp.mk (core_jump A M.out.st HE7.out io h48 (by unfold OpOk at hop; omega) a d c ha hd hc im nx)
        obtain ⟨j, hj⟩ : ∃ j, j = jmpV q (insP io a d c im) nx := ⟨_, rfl⟩
        have hr : r = ⟨P, j.2.go j.1, 0, 0⟩ := by rw [HC2.out, if_neg h64, if_pos h48, hj]
        rw [← hj] at KJ
        subst hr
        obtain ⟨jn, jq⟩ := j
        clear HC2 hop h64 h48 hj ha hd hc hb1 hb2
        go_wp2_with (first
          | (go_at_call 25; (with_reducible refine KJ.out.mono ?_); rintro e w4 ⟨rfl, hst⟩; have HW4 := Kp.mk hst; have c17 := hst.mach.pc; have f17 := hst.mach.free 17; clear hst))
        go_ret2
        exact ⟨rfl, HW4.out.go jn⟩
      have g48 : decide (io ≥ 48) = false := decide_eq_false h48
      by_cases h32 : 32 ≤ io
      · have g32 : decide (io ≥ 32) = true := decide_eq_true h32
        have KJ := Kp.mk (core_memory M.out.st hn io h32 (by unfold OpOk at hop; omega) a d c ha hd hc im)
        obtain ⟨m, hm⟩ : ∃ m, m = memV P n q (insP io a d c im) := ⟨_, rfl⟩
        have hr : r = if m.1 ≠ 0 then ⟨m.2.1, m.2.2, 2, m.1⟩ else ⟨m.2.1, m.2.2.go nx, 0, 0⟩ := by rw [HC2.out, if_neg h64, if_neg h48, if_pos h32, hm]
        rw [← hm] at KJ
        obtain ⟨mf, mp, mq⟩ := m
        clear HC2 hop h64 h48 h32 hm ha hd hc hb1 hb2
        by_cases hm0 : mf = 0
        · have gm : ((mf : Int) != 0) = false := by rw [hm0]; rfl
          have hr2 : r = ⟨mp, mq.go nx, 0, 0⟩ := by rw [hr]; exact if_neg (fun h => h hm0)
          subst hr2
          clear hr hm0
          go_wp2_with (first
            | (go_at_call 26; (with_reducible refine KJ.out.mono ?_); rintro e w4 ⟨rfl, hst⟩; have HW4 := Kp.mk hst; have c17 := hst.mach.pc; have f17 := hst.mach.free 17; clear hst))
          go_ret2
          exact ⟨rfl, HW4.out.go nx⟩
        · have gm : ((mf : Int) != 0) = true := by simp; omega
          have hr2 : r = ⟨mp, mq, 2, mf⟩ := by rw [hr]; exact if_pos hm0
          subst hr2
          clear hr hm0
          go_wp2_with (first
            | (go_at_call 26; (with_reducible refine KJ.out.mono ?_); rintro e w4 ⟨rfl, hst⟩; have HW4 := Kp.mk hst; clear hst))
          go_ret2
          exact ⟨rfl, HW4.out⟩
      · have g32 : decide (io ≥ 32) = false := decide_eq_false h32
        have KJ := Kp.mk (core_compute A M.out.st HE7.out io (by unfold OpOk at hop; omega) (by unfold OpOk at hop; omega) a d c ha hd hc im)
        obtain ⟨m, hm⟩ : ∃ m, m = cmpV q (insP io a d c im) := ⟨_, rfl⟩
        have hr : r = if m.1 ≠ 0 then ⟨P, m.2, 2, m.1⟩ else ⟨P, m.2.go nx, 0, 0⟩ := by rw [HC2.out, if_neg h64, if_neg h48, if_neg h32, hm]
        rw [← hm] at KJ
        obtain ⟨mf, mq⟩ := m
        clear HC2 hop h64 h48 h32 hm ha hd hc hb1 hb2
        by_cases hm0 : mf = 0
        · have gm : ((mf : Int) != 0) = false := by rw [hm0]; rfl
          have hr2 : r = ⟨P, mq.go nx, 0, 0⟩ := by rw [hr]; exact if_neg (fun h => h hm0)
          subst hr2
          clear hr hm0
          go_wp2_with (first
            | (go_at_call 27; (with_reducible refine KJ.out.mono ?_); rintro e w4 ⟨rfl, hst⟩; have HW4 := Kp.mk hst; have c17 := hst.mach.pc; have f17 := hst.mach.free 17; clear hst))
          go_ret2
          exact ⟨rfl, HW4.out.go nx⟩
        · have gm : ((mf : Int) != 0) = true := by simp; omega
          have hr2 : r = ⟨P, mq, 2, mf⟩ := by rw [hr]; exact if_pos hm0
          subst hr2
          clear hr hm0
          go_wp2_with (first
            | (go_at_call 27; (with_reducible refine KJ.out.mono ?_); rintro e w4 ⟨rfl, hst⟩; have HW4 := Kp.mk hst; clear hst))
          go_ret2
          exact ⟨rfl, HW4.out⟩
    · have gf : ((f : Int) != 0) = true := by simp; omega
      have hr : r = ⟨P, q, 2, f⟩ := by rw [HC.out, if_pos hf0]
      subst hr
      clear HC HGD hf0
      go_wp2_with fail
      go_ret2
      exact ⟨rfl, HW.out.st⟩
end Go.Proofs.YtadikbmbadldpaaGreatDoor
