
/- StepWalk: merged of RefStep (mergeset.py). -/
import Derived.Test.YtadikbmbadldpaaGreatDoorStepDoc
namespace Go.Proofs.YtadikbmbadldpaaGreatDoor
open Go Go.RowKit
set_option linter.unusedVariables false
set_option linter.unusedSimpArgs false

theorem setCell_id6 {w : World} {b : Nat} {cs : Array Value} {T : TypeId} (h : Blk w b cs T) (i : Nat) (v : Value) (hv : cs[i]? = some v) : w.setCell ⟨b, i, none⟩ v = w := by
  have e : (w.setCell ⟨b, i, none⟩ v).heap = w.heap := by
    apply Array.ext_getElem?
    intro k
    by_cases hk : k = b
    · subst hk
      have h1 := h.set i v
      unfold Blk at h1 h
      rw [h1, h]
      have : cs.setIfInBounds i v = cs := by
        apply Array.ext_getElem?
        intro j
        rw [Array.getElem?_setIfInBounds]
        split
        · rename_i hj; subst hj; split
          · exact hv.symm
          · rename_i hlt
            rw [Array.getElem?_eq_none (by omega)]
        · rfl
      rw [this]
    · exact heap_setCell_other _ ⟨b, i, none⟩ k _ hk
  have e2 : w.setCell ⟨b, i, none⟩ v = { w with heap := (w.setCell ⟨b, i, none⟩ v).heap } := rfl
  rw [e2, e]
theorem cmpV_do (q : ProcV) (op : Int) (a d c : Nat) (im : Int) (h1 : 1 ≤ op) (h2 : op ≤ 15) : cmpV q (insP op a d c im) = if (Alu.do_ op (q.r d) (q.r c)).2 = 0 then (0, q.set a (Alu.do_ op (q.r d) (q.r c)).1) else (7, q) := by
  unfold cmpV
  simp only [insP]
  rw [if_neg (by omega : ¬ op = 20), if_neg (by omega : ¬ op = 16), if_neg (by omega : ¬ op = 17), if_neg (by omega : ¬ op = 18), if_neg (by omega : ¬ op = 19)]
  rfl
theorem memV_load (P : Nat → PageV) (n : Nat) (q : ProcV) (op : Int) (a d c : Nat) (im : Int) (h : op ≤ 34) : memV P n q (insP op a d c im) = (lookF P n (q.r d + BitVec.ofInt 32 im).toNat (widthN op) 0, P, if lookF P n (q.r d + BitVec.ofInt 32 im).toNat (widthN op) 0 = 0 then q.set a (BitVec.ofNat 32 (loadV P n (q.r d + BitVec.ofInt 32 im).toNat (widthN op) 0)) else q) := by
  unfold memV
  simp only [insP]
  rw [if_neg (by omega : ¬ 35 ≤ op)]
  rfl
theorem memV_store (P : Nat → PageV) (n : Nat) (q : ProcV) (op : Int) (a d c : Nat) (im : Int) (h : 35 ≤ op) : memV P n q (insP op a d c im) = (lookF P n (q.r d + BitVec.ofInt 32 im).toNat (widthN op) 1, if lookF P n (q.r d + BitVec.ofInt 32 im).toNat (widthN op) 1 = 0 then Pg.store P (q.r d + BitVec.ofInt 32 im).toNat (widthN op) (q.r a).toNat else P, q) := by
  unfold memV
  simp only [insP]
  rw [if_pos h]
  rfl
theorem jmpV_test (q : ProcV) (op : Int) (a d c : Nat) (im : Int) (nx : BitVec 32) (h1 : 48 ≤ op) (h2 : op ≤ 53) : jmpV q (insP op a d c im) nx = (if (Alu.test op (q.r a) (q.r d)).1 then nx + 4#32 * BitVec.ofInt 32 im else nx, q) := by
  unfold jmpV
  dsimp only [insP]
  rw [if_neg (by omega), if_neg (by omega)]
  rfl
theorem own_far2 {w : World} {B : Nat} {v : Value} {n : Nat} {P : Nat → PageV} (h : OwnP w B v n P) {j : Nat} (e : v.ownBlock = some j) : B ≤ j := by
  rcases h.2 with ⟨hv, _⟩ | ⟨g, cap, cur, hv, hb, _⟩
  · rw [hv] at e; cases e
  · rw [hv] at e; cases e; exact hb
/-- The machine with an instruction in a variable of the call's own. -/
structure RFI (W0 : BaseW) (W : World) (b : Nat) (v : Value) (n : Nat) (P : Nat → PageV) (q : ProcV) (k s c : Int) (g : Nat) (i : Array Value) : Prop where
  st : RSt W0 W b v n P q k s c
  ins : Blk W g i 67
  far : v.ownBlock ≠ some g
  ne : b ≠ g
theorem rstep_sees {W0 : BaseW} {w : World} {b : Nat} {v : Value} {n : Nat} {P : Nat → PageV} {q : ProcV} {k s c : Int} {pc : BitVec 32} (h : RSt W0 w b v n P q k s c) (hp : pc = q.pc) : w.cell? ⟨b, 0, none⟩ = some v ∧ w.cell? ⟨b, 17, none⟩ = some (.int .u32 (pc.toNat : Int)) :=
  ⟨h.mach.pages, by rw [hp]; exact h.mach.pc⟩
set_option maxRecDepth 100000 in
set_option maxHeartbeats 16000000 in
theorem ref6_step {W0 : BaseW} {w : World} {b : Nat} {v : Value} {n : Nat} {P : Nat → PageV} {q : ProcV} {k s c : Int} (h : RSt W0 w b v n P q k s c) (hn : n ≤ 1759218604441) (h0 : q.r 0 = 0#32) :
    Calls Tryz.prog 22 #[.pointer (some ⟨b, 0, none⟩)] w fun e w' => e = .returned (.tuple #[]) ∧ ∃ v', RSt W0 w' b v' n (stepV n P q).P (stepV n P q).q (stepV n P q).k 1 (stepV n P q).c := by
  have HN := Kp.mk h
  have HQ0 := Kp.mk h0
  have hc1 : w.cell? ⟨b, 1, none⟩ = some (.int .u32 (((0#32 : BitVec 32).toNat : Nat) : Int)) := by have := h.mach.reg 0 (by decide); rw [h0] at this; exact this
  have HID : Kp (w.setCell ⟨b, 1, none⟩ (.int .u32 0) = w) := ⟨by
    refine setCell_id6 h.mach 1 _ ?_
    have e := q.row_reg 0 (by decide)
    rw [h0] at e
    simp only [List.getElem?_toArray, List.getElem?_cons_succ]
    rw [List.getElem?_append_left (by rw [q.row_length]; omega)]
    exact e⟩
  have KF : Kp (∀ w', Below w.heap.size w w' → Calls Tryz.prog 34 #[v, .int .u32 (q.pc.toNat : Int)] w' fun e w'' => e = .returned (.tuple #[.agg (ftI P n q.pc.toNat).arr, .int .i64 (ftC P n q.pc.toNat : Nat)]) ∧ Below w'.heap.size w' w'') := ⟨fun w' hw => by
    have h' := h.later hw
    obtain ⟨a, cap, rfl, hrd⟩ := h'.own.rd hn
    exact ref6_fetch a n cap P w' hrd q.pc.toNat q.pc.isLt⟩
  have cv := h.mach.pages
  have cp := h.mach.pc
  have f1 := h.mach.free 1
  have hlt := h.lt
  obtain ⟨f, hf⟩ : ∃ f, f = ftC P n q.pc.toNat := ⟨_, rfl⟩
  obtain ⟨i, hi⟩ : ∃ i, i = ftI P n q.pc.toNat := ⟨_, rfl⟩
  obtain ⟨nx, hnx⟩ : ∃ nx, nx = q.pc + 4#32 := ⟨_, rfl⟩
  have pnx : ((q.pc.toNat : Int) + 4) % (4294967296 : Int) = (nx.toNat : Int) := by
    rw [hnx]
    have := u32_add q.pc 4#32
    exact this
  have HGD : Kp (f = 0 → ∃ (op : Int) (a d c : Nat) (imm : Int), i = insP op a d c imm ∧ a < 16 ∧ d < 16 ∧ c < 16 ∧ OpOk op ∧ -32768 ≤ imm ∧ imm ≤ 65535) := ⟨fun e => by rw [hi]; exact ft_good (by rw [← hf]; exact e)⟩
  rw [← hf, ← hi] at KF
  have HC : Kp (stepV n P q = if f ≠ 0 then ⟨P, q, 2, f⟩ else if i.op = 64 then ⟨P, q.go nx, 1, i.imm⟩ else if 48 ≤ i.op then ⟨P, (jmpV q i nx).2.go (jmpV q i nx).1, 0, 0⟩
    else if 32 ≤ i.op then (if (memV P n q i).1 ≠ 0 then ⟨(memV P n q i).2.1, (memV P n q i).2.2, 2, (memV P n q i).1⟩ else ⟨(memV P n q i).2.1, (memV P n q i).2.2.go nx, 0, 0⟩)
    else (if (cmpV q i).1 ≠ 0 then ⟨P, (cmpV q i).2, 2, (cmpV q i).1⟩ else ⟨P, (cmpV q i).2.go nx, 0, 0⟩)) := ⟨by rw [hf, hi, hnx]; rfl⟩
  obtain ⟨r, hr⟩ : ∃ r, r = stepV n P q := ⟨_, rfl⟩
  rw [← hr]
  rw [← hr] at HC
  obtain ⟨pc, hpc⟩ : ∃ pc, pc = q.pc := ⟨_, rfl⟩
  rw [← hpc] at KF cp pnx
  obtain ⟨io, ia, id, ic, im⟩ := i
  simp only [InsV.arr] at KF
  have HB0 : Kp (W0.heap.size ≤ w.heap.size) := ⟨h.below.size⟩
  have HPC := Kp.mk hpc
  have HFAR : Kp (v.ownBlock ≠ some w.heap.size) := ⟨ownP_far h.own⟩
  have HNEB : Kp (b ≠ w.heap.size) := ⟨Nat.ne_of_lt h.lt⟩
  have HKP : Kp (∀ c ∈ W0.cs, c.1 ≠ w.heap.size) := ⟨fun c hc => Nat.ne_of_lt (h.keep c hc).1.lt⟩
  clear h hf hi hnx hr hpc h0
  go_enter Tryz.func22, Tryz.ntmps22
  go_wp2_with fail
  rw [HID.out]
  clear hc1 f1 HID
  go_region_held3 (fun w' => w'.cell? ⟨b, 0, none⟩ = some v ∧ w'.cell? ⟨b, 17, none⟩ = some (.int .u32 (pc.toNat : Int)))
    (first
      | with_reducible exact rstep_sees (HN.out.later (Drew.once _).below) HPC.out
      | with_reducible exact rstep_sees (HN.out.later (below_da _ _)) HPC.out
      | with_reducible exact rstep_sees (HN.out.later HW3.out) HPC.out
      | with_reducible exact rstep_sees (HN.out.later (HW3.out.trans ((below_alloc _ _).mono HW3.out.size))) HPC.out
      | with_reducible exact rstep_sees ((HN.out.later HW3.out).other5 w.heap.size _ _ _ _ _ HFAR.out HNEB.out HB0.out HKP.out) HPC.out)
    (first
      | (go_at_call 34; (with_reducible refine (KF.out _ (Drew.once _).below).mono ?_); rintro e w3 ⟨rfl, hw3⟩; have HW3 := Kp.mk ((Drew.once w).below.trans (hw3.mono (Drew.once w).below.size)); clear hw3)
      | (go_at_call 34; (with_reducible refine (KF.out _ (below_da _ _)).mono ?_); rintro e w3 ⟨rfl, hw3⟩; have HW3 := Kp.mk ((below_da w _).trans (hw3.mono (below_da w _).size)); have VZ := Kp.mk (((Blk.new w insZ 67).drew).later hw3); have c0 := VZ.out.cell 0 _ rfl; have c1 := VZ.out.cell 1 _ rfl; have c2 := VZ.out.cell 2 _ rfl; have c3 := VZ.out.cell 3 _ rfl; have c4 := VZ.out.cell 4 _ rfl; have f0 := VZ.out.free 0; have f1 := VZ.out.free 1; have f2 := VZ.out.free 2; have f3 := VZ.out.free 3; have f4 := VZ.out.free 4; clear hw3))
  · refine then_gen (F := fun W => Kp (RFI W0 W b v n P q k s c w3.heap.size (insA io ia id ic im))) ⟨⟨(HN.out.later HW3.out).later (below_alloc _ _), Blk.new w3 _ _, ownP_far (HN.out.later HW3.out).own, Nat.ne_of_lt (HN.out.later HW3.out).lt⟩⟩ ?_
    generalize w3.heap.size = g
    clear HW3
    intro W HW
    clear HFAR HNEB HB0 HKP KF HN cv cp hlt
    by_cases hf0 : f = 0
    · obtain ⟨op, a, d, c', imm, hi, ha, hd, hc, hop, hb1, hb2⟩ := HGD.out hf0
      simp only [insP, InsV.mk.injEq] at hi
      obtain ⟨rfl, rfl, rfl, rfl, rfl⟩ := hi
      have HC2 : Kp (r = if io = 64 then ⟨P, q.go nx, 1, im⟩ else if 48 ≤ io then ⟨P, (jmpV q (insP io a d c' im) nx).2.go (jmpV q (insP io a d c' im) nx).1, 0, 0⟩
        else if 32 ≤ io then (if (memV P n q (insP io a d c' im)).1 ≠ 0 then ⟨(memV P n q (insP io a d c' im)).2.1, (memV P n q (insP io a d c' im)).2.2, 2, (memV P n q (insP io a d c' im)).1⟩ else ⟨(memV P n q (insP io a d c' im)).2.1, (memV P n q (insP io a d c' im)).2.2.go nx, 0, 0⟩)
        else (if (cmpV q (insP io a d c' im)).1 ≠ 0 then ⟨P, (cmpV q (insP io a d c' im)).2, 2, (cmpV q (insP io a d c' im)).1⟩ else ⟨P, (cmpV q (insP io a d c' im)).2.go nx, 0, 0⟩)) := ⟨by rw [HC.out, if_neg (by omega)]⟩
      subst hf0
      clear HC HGD
      have M : Kp (RSt ⟨W0.w, (g, insA io a d c' im, 67) :: W0.cs⟩ W b v n P q k s c) := ⟨HW.out.st.withB g _ _ HW.out.ins (fun e => HW.out.ne e.symm) HW.out.far⟩
      have nb1 : ¬ b = g := HW.out.ne
      have nb2 : ¬ g = b := fun e => HW.out.ne e.symm
      clear HW
      obtain ⟨x, hx⟩ : ∃ x, x = BitVec.ofInt 32 im := ⟨_, rfl⟩
      obtain ⟨yd, hyd⟩ : ∃ y, y = q.r d := ⟨_, rfl⟩
      obtain ⟨yc, hyc⟩ : ∃ y, y = q.r c' := ⟨_, rfl⟩
      obtain ⟨ya, hya⟩ : ∃ y, y = q.r a := ⟨_, rfl⟩
      obtain ⟨ad, had⟩ : ∃ s, s = yd + x := ⟨_, rfl⟩
      have ps : ((yd.toNat : Int) + x.toNat) % (4294967296 : Int) = (ad.toNat : Int) := by rw [had]; exact u32_add yd x
      obtain ⟨x4, hx4⟩ : ∃ x4, x4 = 4#32 * x := ⟨_, rfl⟩
      have px4 : (4 : Int) * (x.toNat : Int) % (4294967296 : Int) = (x4.toNat : Int) := by rw [hx4]; exact u32_mul4 x
      obtain ⟨fr, hfr⟩ : ∃ fr, fr = nx + x4 := ⟨_, rfl⟩
      have pfr : ((nx.toNat : Int) + x4.toNat) % (4294967296 : Int) = (fr.toNat : Int) := by rw [hfr]; exact u32_add nx x4
      obtain ⟨xl, hxl⟩ : ∃ xl, xl = x <<< 16 := ⟨_, rfl⟩
      have px2 : (x.toNat : Int) * (65536 : Int) % (4294967296 : Int) = (xl.toNat : Int) := by rw [hxl]; exact u32_shl16 x
      have HX := Kp.mk hx
      have HYD := Kp.mk hyd
      have HYC := Kp.mk hyc
      have HYA := Kp.mk hya
      have HAD := Kp.mk had
      have HFR := Kp.mk (show fr = nx + 4#32 * x by rw [hfr, hx4])
      have HXL := Kp.mk hxl
      have KW := Kp.mk (ref6_word im hb1 hb2 x hx)
      have i0 := M.out.head.cell 0 _ rfl
      have i1 := M.out.head.cell 1 _ rfl
      have i2 := M.out.head.cell 2 _ rfl
      have i3 := M.out.head.cell 3 _ rfl
      have i4 := M.out.head.cell 4 _ rfl
      have ca := M.out.mach.reg a ha
      have cd := M.out.mach.reg d hd
      have cc := M.out.mach.reg c' hc
      rw [← hya] at ca
      rw [← hyd] at cd
      rw [← hyc] at cc
      have cp : W.cell? ⟨b, 17, none⟩ = some (.int .u32 (pc.toNat : Int)) := by rw [HPC.out]; exact M.out.mach.pc
      have t1 : (a : Int) < 16 := by omega
      have t2 : (0 : Int) ≤ (a : Int) := by omega
      have t3 : (d : Int) < 16 := by omega
      have t4 : (0 : Int) ≤ (d : Int) := by omega
      have t5 : (c' : Int) < 16 := by omega
      have t6 : (0 : Int) ≤ (c' : Int) := by omega
      clear hx hyd hyc hya had hx4 hfr hxl hd hc hb1 hb2
      go_wp2_with fail
      go_quiet (fail)
      go_wp2_with fail
      go_quiet (fail)
      go_wp2_with fail
      go_quiet (fail)
      refine then_gen (F := fun W' => Kp (RSt ⟨W0.w, (g, insA io a d c' im, 67) :: W0.cs⟩ W' b v n P q k s c)) ⟨M.out.later (below_drewN (below_drewN (below_drewN (Below.refl _ _) _) _) _)⟩ ?_
      clear i0 i1 i2 i3 i4 ca cd cc cp M t1 t2 t3 t4 t5 t6
      intro W8 M8
      have KS := Kp.mk (fun (w' : World) (hm : RSt ⟨W0.w, (g, insA io a d c' im, 67) :: W0.cs⟩ w' b v n P q k s c) (y : BitVec 32) => ref6_set hm a ha y)
      have KB := Kp.mk (fun (w' : World) (hm : RSt ⟨W0.w, (g, insA io a d c' im, 67) :: W0.cs⟩ w' b v n P q k s c) (y : Int) => ref6_fault hm y)
      have cv := M8.out.mach.pages
      have fv := M8.out.mach.free 0
      have cp : W8.cell? ⟨b, 17, none⟩ = some (.int .u32 (pc.toNat : Int)) := by rw [HPC.out]; exact M8.out.mach.pc
      have i0 := M8.out.head.cell 0 _ rfl
      have i1 := M8.out.head.cell 1 _ rfl
      have i4 := M8.out.head.cell 4 _ rfl
      have fp := M8.out.mach.free 17
      have s0 := M8.out.mach.st0
      have s1 := M8.out.mach.st1
      have s2 := M8.out.mach.st2
      have z0 := M8.out.mach.free 22
      have z1 := M8.out.mach.free 23
      have z2 := M8.out.mach.free 24
      clear ha
      rcases hop with ⟨o1, o2⟩ | ⟨o1, o2⟩ | ⟨o1, o2⟩ | o1
      · by_cases o3 : io ≤ 15
        · have ge1 : decide (io ≥ 1) = true := decide_eq_true (by omega)
          have le15 : decide (io ≤ 15) = true := decide_eq_true (by omega)
          have n64 : (io == 64) = false := by rw [beq_eq_false_iff_ne]; omega
          have KD := Kp.mk (fun w' => ref_do_all io o1 o3 yd yc w')
          have HR : r = if (Alu.do_ io yd yc).2 = 0 then ⟨P, (q.set a (Alu.do_ io yd yc).1).go nx, 0, 0⟩ else ⟨P, q, 2, 7⟩ := by
            rw [HC2.out, if_neg (by omega), if_neg (by omega), if_neg (by omega), cmpV_do q io a d c' im o1 o3, ← HYD.out, ← HYC.out]
            by_cases hz : (Alu.do_ io yd yc).2 = 0
            · rw [if_pos hz, if_pos hz]; rfl
            · rw [if_neg hz, if_neg hz]; rfl
          obtain ⟨z, hz⟩ : ∃ z, z = Alu.do_ io yd yc := ⟨_, rfl⟩
          rw [← hz] at KD HR
          obtain ⟨zv, ze⟩ := z
          clear hz HC2 o1 o2 o3
          by_cases he : ze = 0
          · subst he
            have hr : r = ⟨P, (q.set a zv).go nx, 0, 0⟩ := HR
            subst hr
            clear HR
            go_wp2_with (first
              | (go_at_call 36; (with_reducible refine (KW.out _).mono ?_); rintro e w4 ⟨rfl, hw4⟩; obtain rfl := hw4.symm; clear hw4)
              | (go_at_call 37; (with_reducible refine (KD.out _).mono ?_); rintro e w6 ⟨rfl, hb⟩; have M4 := Kp.mk (M8.out.later hb); have k1 := M4.out.head.cell 1 _ rfl; clear hb)
              | (go_at_call 38; (with_reducible refine (KS.out _ (M4.out) _).mono ?_); rintro e w5 ⟨rfl, hst⟩; have H5 := Kp.mk hst; clear hst; have c17 := H5.out.mach.pc; have f17 := H5.out.mach.free 17; have s0 := H5.out.mach.st0; have s1 := H5.out.mach.st1; have s2 := H5.out.mach.st2; have z0 := H5.out.mach.free 22; have z1 := H5.out.mach.free 23; have z2 := H5.out.mach.free 24; have j0 := H5.out.head.cell 0 _ rfl; have j4 := H5.out.head.cell 4 _ rfl))
            go_end0
            refine ⟨rfl, v, ?_⟩
            try simp only [pnx, px4, pfr, ps]
            exact ((H5.out.tail.go nx).stop 0 1 0)
          · have gz : ((ze : Int) != 0) = true := by simp; omega
            have hr : r = ⟨P, q, 2, 7⟩ := by rw [HR]; exact if_neg he
            subst hr
            clear HR he
            go_wp2_with (first
              | (go_at_call 36; (with_reducible refine (KW.out _).mono ?_); rintro e w4 ⟨rfl, hw4⟩; obtain rfl := hw4.symm; clear hw4)
              | (go_at_call 37; (with_reducible refine (KD.out _).mono ?_); rintro e w6 ⟨rfl, hb⟩; have M4 := Kp.mk (M8.out.later hb); have k1 := M4.out.head.cell 1 _ rfl; clear hb)
              | (go_at_call 35; (with_reducible refine (KB.out _ (M4.out) _).mono ?_); rintro e w5 ⟨rfl, hst⟩; have H5 := Kp.mk hst; clear hst))
            (try simp only [Exit.inBlock, Exit.then])
            refine bodyPost_ret (results_none rfl _ _ _) rfl ?_
            exact ⟨rfl, v, H5.out.tail⟩
        · have ho : io = 16 ∨ io = 17 ∨ io = 18 ∨ io = 19 ∨ io = 20 := by omega
          clear o1 o2 o3
          rcases ho with rfl | rfl | rfl | rfl | rfl
          · have hr : r = ⟨P, (q.set a (Alu.do_ 1 yd x).1).go nx, 0, 0⟩ := by rw [HC2.out, HYD.out, HX.out]; rfl
            have KD : Kp (∀ w' : World, Calls Tryz.prog 37 #[.int .i64 1, .int .u32 (yd.toNat : Int), .int .u32 (x.toNat : Int)] w' fun e w'' => e = .returned (.tuple #[.int .u32 ((Alu.do_ 1 yd x).1.toNat : Int), .int .i64 0]) ∧ Below w'.heap.size w' w'') := ⟨fun w' => ref_do_1 yd x w'⟩
            obtain ⟨zv, hz⟩ : ∃ z, z = (Alu.do_ 1 yd x).1 := ⟨_, rfl⟩
            rw [← hz] at KD hr
            subst hr
            clear hz HC2
            go_wp2_with (first
              | (go_at_call 36; (with_reducible refine (KW.out _).mono ?_); rintro e w4 ⟨rfl, hw4⟩; obtain rfl := hw4.symm; clear hw4)
              | (go_at_call 37; (with_reducible refine (KD.out _).mono ?_); rintro e w6 ⟨rfl, hb⟩; have M4 := Kp.mk (M8.out.later hb); have k1 := M4.out.head.cell 1 _ rfl; clear hb)
              | (go_at_call 38; (with_reducible refine (KS.out _ (M4.out) _).mono ?_); rintro e w5 ⟨rfl, hst⟩; have H5 := Kp.mk hst; clear hst; have c17 := H5.out.mach.pc; have f17 := H5.out.mach.free 17; have s0 := H5.out.mach.st0; have s1 := H5.out.mach.st1; have s2 := H5.out.mach.st2; have z0 := H5.out.mach.free 22; have z1 := H5.out.mach.free 23; have z2 := H5.out.mach.free 24; have j0 := H5.out.head.cell 0 _ rfl; have j4 := H5.out.head.cell 4 _ rfl))
            go_end0
            refine ⟨rfl, v, ?_⟩
            try simp only [pnx, px4, pfr, ps]
            exact ((H5.out.tail.go nx).stop 0 1 0)
          · have hr : r = ⟨P, (q.set a (Alu.do_ 3 yd x).1).go nx, 0, 0⟩ := by rw [HC2.out, HYD.out, HX.out]; rfl
            have KD : Kp (∀ w' : World, Calls Tryz.prog 37 #[.int .i64 3, .int .u32 (yd.toNat : Int), .int .u32 (x.toNat : Int)] w' fun e w'' => e = .returned (.tuple #[.int .u32 ((Alu.do_ 3 yd x).1.toNat : Int), .int .i64 0]) ∧ Below w'.heap.size w' w'') := ⟨fun w' => ref_do_3 yd x w'⟩
            obtain ⟨zv, hz⟩ : ∃ z, z = (Alu.do_ 3 yd x).1 := ⟨_, rfl⟩
            rw [← hz] at KD hr
            subst hr
            clear hz HC2
            go_wp2_with (first
              | (go_at_call 36; (with_reducible refine (KW.out _).mono ?_); rintro e w4 ⟨rfl, hw4⟩; obtain rfl := hw4.symm; clear hw4)
              | (go_at_call 37; (with_reducible refine (KD.out _).mono ?_); rintro e w6 ⟨rfl, hb⟩; have M4 := Kp.mk (M8.out.later hb); have k1 := M4.out.head.cell 1 _ rfl; clear hb)
              | (go_at_call 38; (with_reducible refine (KS.out _ (M4.out) _).mono ?_); rintro e w5 ⟨rfl, hst⟩; have H5 := Kp.mk hst; clear hst; have c17 := H5.out.mach.pc; have f17 := H5.out.mach.free 17; have s0 := H5.out.mach.st0; have s1 := H5.out.mach.st1; have s2 := H5.out.mach.st2; have z0 := H5.out.mach.free 22; have z1 := H5.out.mach.free 23; have z2 := H5.out.mach.free 24; have j0 := H5.out.head.cell 0 _ rfl; have j4 := H5.out.head.cell 4 _ rfl))
            go_end0
            refine ⟨rfl, v, ?_⟩
            try simp only [pnx, px4, pfr, ps]
            exact ((H5.out.tail.go nx).stop 0 1 0)
          · have hr : r = ⟨P, (q.set a (Alu.do_ 4 yd x).1).go nx, 0, 0⟩ := by rw [HC2.out, HYD.out, HX.out]; rfl
            have KD : Kp (∀ w' : World, Calls Tryz.prog 37 #[.int .i64 4, .int .u32 (yd.toNat : Int), .int .u32 (x.toNat : Int)] w' fun e w'' => e = .returned (.tuple #[.int .u32 ((Alu.do_ 4 yd x).1.toNat : Int), .int .i64 0]) ∧ Below w'.heap.size w' w'') := ⟨fun w' => ref_do_4 yd x w'⟩
            obtain ⟨zv, hz⟩ : ∃ z, z = (Alu.do_ 4 yd x).1 := ⟨_, rfl⟩
            rw [← hz] at KD hr
            subst hr
            clear hz HC2
            go_wp2_with (first
              | (go_at_call 36; (with_reducible refine (KW.out _).mono ?_); rintro e w4 ⟨rfl, hw4⟩; obtain rfl := hw4.symm; clear hw4)
              | (go_at_call 37; (with_reducible refine (KD.out _).mono ?_); rintro e w6 ⟨rfl, hb⟩; have M4 := Kp.mk (M8.out.later hb); have k1 := M4.out.head.cell 1 _ rfl; clear hb)
              | (go_at_call 38; (with_reducible refine (KS.out _ (M4.out) _).mono ?_); rintro e w5 ⟨rfl, hst⟩; have H5 := Kp.mk hst; clear hst; have c17 := H5.out.mach.pc; have f17 := H5.out.mach.free 17; have s0 := H5.out.mach.st0; have s1 := H5.out.mach.st1; have s2 := H5.out.mach.st2; have z0 := H5.out.mach.free 22; have z1 := H5.out.mach.free 23; have z2 := H5.out.mach.free 24; have j0 := H5.out.head.cell 0 _ rfl; have j4 := H5.out.head.cell 4 _ rfl))
            go_end0
            refine ⟨rfl, v, ?_⟩
            try simp only [pnx, px4, pfr, ps]
            exact ((H5.out.tail.go nx).stop 0 1 0)
          · have hr : r = ⟨P, (q.set a (Alu.do_ 5 yd x).1).go nx, 0, 0⟩ := by rw [HC2.out, HYD.out, HX.out]; rfl
            have KD : Kp (∀ w' : World, Calls Tryz.prog 37 #[.int .i64 5, .int .u32 (yd.toNat : Int), .int .u32 (x.toNat : Int)] w' fun e w'' => e = .returned (.tuple #[.int .u32 ((Alu.do_ 5 yd x).1.toNat : Int), .int .i64 0]) ∧ Below w'.heap.size w' w'') := ⟨fun w' => ref_do_5 yd x w'⟩
            obtain ⟨zv, hz⟩ : ∃ z, z = (Alu.do_ 5 yd x).1 := ⟨_, rfl⟩
            rw [← hz] at KD hr
            subst hr
            clear hz HC2
            go_wp2_with (first
              | (go_at_call 36; (with_reducible refine (KW.out _).mono ?_); rintro e w4 ⟨rfl, hw4⟩; obtain rfl := hw4.symm; clear hw4)
              | (go_at_call 37; (with_reducible refine (KD.out _).mono ?_); rintro e w6 ⟨rfl, hb⟩; have M4 := Kp.mk (M8.out.later hb); have k1 := M4.out.head.cell 1 _ rfl; clear hb)
              | (go_at_call 38; (with_reducible refine (KS.out _ (M4.out) _).mono ?_); rintro e w5 ⟨rfl, hst⟩; have H5 := Kp.mk hst; clear hst; have c17 := H5.out.mach.pc; have f17 := H5.out.mach.free 17; have s0 := H5.out.mach.st0; have s1 := H5.out.mach.st1; have s2 := H5.out.mach.st2; have z0 := H5.out.mach.free 22; have z1 := H5.out.mach.free 23; have z2 := H5.out.mach.free 24; have j0 := H5.out.head.cell 0 _ rfl; have j4 := H5.out.head.cell 4 _ rfl))
            go_end0
            refine ⟨rfl, v, ?_⟩
            try simp only [pnx, px4, pfr, ps]
            exact ((H5.out.tail.go nx).stop 0 1 0)
          · have hr : r = ⟨P, (q.set a xl).go nx, 0, 0⟩ := by rw [HC2.out, HXL.out, HX.out]; rfl
            subst hr
            clear HC2
            go_wp2_with (first
              | (go_at_call 36; (with_reducible refine (KW.out _).mono ?_); rintro e w4 ⟨rfl, hw4⟩; obtain rfl := hw4.symm; clear hw4)
              | (go_at_call 38; rw [px2]; (with_reducible refine (KS.out _ (M8.out) _).mono ?_); rintro e w5 ⟨rfl, hst⟩; have H5 := Kp.mk hst; clear hst; have c17 := H5.out.mach.pc; have f17 := H5.out.mach.free 17; have s0 := H5.out.mach.st0; have s1 := H5.out.mach.st1; have s2 := H5.out.mach.st2; have z0 := H5.out.mach.free 22; have z1 := H5.out.mach.free 23; have z2 := H5.out.mach.free 24; have j0 := H5.out.head.cell 0 _ rfl; have j4 := H5.out.head.cell 4 _ rfl))
            go_end0
            refine ⟨rfl, v, ?_⟩
            try simp only [pnx, px4, pfr, ps]
            exact ((H5.out.tail.go nx).stop 0 1 0)
      · by_cases o3 : io ≤ 34
        · have ge1 : decide (io ≥ 1) = true := decide_eq_true (by omega)
          have le15 : decide (io ≤ 15) = false := decide_eq_false (by omega)
          have n16 : (io == 16) = false := by rw [beq_eq_false_iff_ne]; omega
          have n17 : (io == 17) = false := by rw [beq_eq_false_iff_ne]; omega
          have n18 : (io == 18) = false := by rw [beq_eq_false_iff_ne]; omega
          have n19 : (io == 19) = false := by rw [beq_eq_false_iff_ne]; omega
          have n20 : (io == 20) = false := by rw [beq_eq_false_iff_ne]; omega
          have ge32 : decide (io ≥ 32) = true := decide_eq_true (by omega)
          have le34 : decide (io ≤ 34) = true := decide_eq_true (by omega)
          have n64 : (io == 64) = false := by rw [beq_eq_false_iff_ne]; omega
          have KZ := Kp.mk (fun v' => ref6_size io o1 o2 v')
          have hok := width_ok io
          have HR : r = if lookF P n ad.toNat (widthN io) 0 = 0 then ⟨P, (q.set a (BitVec.ofNat 32 (loadV P n ad.toNat (widthN io) 0))).go nx, 0, 0⟩ else ⟨P, q, 2, lookF P n ad.toNat (widthN io) 0⟩ := by
            rw [HC2.out, if_neg (by omega), if_neg (by omega), if_pos (by omega), memV_load P n q io a d c' im o3, ← HYD.out, ← HX.out, ← HAD.out]
            by_cases hz : lookF P n ad.toNat (widthN io) 0 = 0
            · rw [if_pos hz, if_pos hz]; exact if_neg (fun h => h hz)
            · rw [if_neg hz, if_neg hz]; exact if_pos hz
          obtain ⟨kz, hkz⟩ : ∃ k, k = widthN io := ⟨_, rfl⟩
          rw [← hkz] at KZ hok HR
          obtain ⟨l, hl⟩ : ∃ l, l = BitVec.ofNat 32 (loadV P n ad.toNat kz 0) := ⟨_, rfl⟩
          have hlv : ((loadV P n ad.toNat kz 0 : Nat) : Int) = (l.toNat : Int) := by
            rw [hl, BitVec.toNat_ofNat, Nat.mod_eq_of_lt (load_lt hok)]
          obtain ⟨fl, hfl⟩ : ∃ f, f = lookF P n ad.toNat kz 0 := ⟨_, rfl⟩
          have KL : Kp (∀ w', RSt ⟨W0.w, (g, insA io a d c' im, 67) :: W0.cs⟩ w' b v n P q k s c → Calls Tryz.prog 39 #[v, .int .u32 (ad.toNat : Int), .int .i64 (kz : Int)] w' fun e w'' => e = .returned (.tuple #[.int .u32 (l.toNat : Int), .int .i64 (fl : Nat), .int .i64 0]) ∧ w'' = w') := ⟨fun w' hm => by
            obtain ⟨a2, cap2, rfl, hrd⟩ := hm.own.rd hn
            have := ref_load a2 n cap2 P w' hrd ad.toNat kz ad.isLt hok
            rw [hlv, ← hfl] at this
            exact this⟩
          rw [← hl, ← hfl] at HR
          clear HC2 hkz hok hl hlv hfl o1 o2 o3
          by_cases he : fl = 0
          · subst he
            have hr : r = ⟨P, (q.set a l).go nx, 0, 0⟩ := HR
            subst hr
            clear HR
            go_wp2_with (first
              | (go_at_call 36; (with_reducible refine (KW.out _).mono ?_); rintro e w4 ⟨rfl, hw4⟩; obtain rfl := hw4.symm; clear hw4))
            go_quiet (first
              | (go_at_call 40; (with_reducible refine (KZ.out _).mono ?_); exact fun _ _ h => ⟨h.1, ⟨_, h.2⟩⟩)
              | (go_at_call 39; (try rw [ps]); (with_reducible refine (KL.out _ (M8.out.later (below_drewN (Below.refl _ _) _))).mono ?_); exact fun _ _ h => ⟨h.1, ⟨_, h.2⟩⟩)
              | (go_at_call 39; (try rw [ps]); (with_reducible refine (KL.out _ M8.out).mono ?_); exact fun _ _ h => ⟨h.1, ⟨_, h.2⟩⟩))
            refine then_gen (F := fun W' => Kp (RSt ⟨W0.w, (g, insA io a d c' im, 67) :: W0.cs⟩ W' b v n P q k s c)) ⟨M8.out.later (below_drewN (Below.refl _ _) _)⟩ ?_
            clear M8 cv fv cp i0 i1 i4 fp s0 s1 s2 z0 z1 z2
            intro W9 M9
            have i1 := M9.out.head.cell 1 _ rfl
            go_wp2_with (first
              | (go_at_call 38; (with_reducible refine (KS.out _ (M9.out) _).mono ?_); rintro e w5 ⟨rfl, hst⟩; have H5 := Kp.mk hst; clear hst; have c17 := H5.out.mach.pc; have f17 := H5.out.mach.free 17; have s0 := H5.out.mach.st0; have s1 := H5.out.mach.st1; have s2 := H5.out.mach.st2; have z0 := H5.out.mach.free 22; have z1 := H5.out.mach.free 23; have z2 := H5.out.mach.free 24; have j0 := H5.out.head.cell 0 _ rfl; have j4 := H5.out.head.cell 4 _ rfl))
            go_end0
            refine ⟨rfl, v, ?_⟩
            try simp only [pnx, px4, pfr, ps]
            exact ((H5.out.tail.go nx).stop 0 1 0)
          · have gz : ((fl : Int) != 0) = true := by simp; omega
            have hr : r = ⟨P, q, 2, fl⟩ := by rw [HR]; exact if_neg he
            subst hr
            clear HR he
            go_wp2_with (first
              | (go_at_call 36; (with_reducible refine (KW.out _).mono ?_); rintro e w4 ⟨rfl, hw4⟩; obtain rfl := hw4.symm; clear hw4))
            go_quiet (first
              | (go_at_call 40; (with_reducible refine (KZ.out _).mono ?_); exact fun _ _ h => ⟨h.1, ⟨_, h.2⟩⟩)
              | (go_at_call 39; (try rw [ps]); (with_reducible refine (KL.out _ (M8.out.later (below_drewN (Below.refl _ _) _))).mono ?_); exact fun _ _ h => ⟨h.1, ⟨_, h.2⟩⟩)
              | (go_at_call 39; (try rw [ps]); (with_reducible refine (KL.out _ M8.out).mono ?_); exact fun _ _ h => ⟨h.1, ⟨_, h.2⟩⟩))
            refine then_gen (F := fun W' => Kp (RSt ⟨W0.w, (g, insA io a d c' im, 67) :: W0.cs⟩ W' b v n P q k s c)) ⟨M8.out.later (below_drewN (Below.refl _ _) _)⟩ ?_
            clear M8 cv fv cp i0 i1 i4 fp s0 s1 s2 z0 z1 z2
            intro W9 M9
            have i1 := M9.out.head.cell 1 _ rfl
            go_wp2_with (first
              | (go_at_call 35; (with_reducible refine (KB.out _ (M9.out) _).mono ?_); rintro e w5 ⟨rfl, hst⟩; have H5 := Kp.mk hst; clear hst))
            (try simp only [Exit.inBlock, Exit.then])
            refine bodyPost_ret (results_none rfl _ _ _) rfl ?_
            exact ⟨rfl, v, H5.out.tail⟩
        · have ge1 : decide (io ≥ 1) = true := decide_eq_true (by omega)
          have le15 : decide (io ≤ 15) = false := decide_eq_false (by omega)
          have n16 : (io == 16) = false := by rw [beq_eq_false_iff_ne]; omega
          have n17 : (io == 17) = false := by rw [beq_eq_false_iff_ne]; omega
          have n18 : (io == 18) = false := by rw [beq_eq_false_iff_ne]; omega
          have n19 : (io == 19) = false := by rw [beq_eq_false_iff_ne]; omega
          have n20 : (io == 20) = false := by rw [beq_eq_false_iff_ne]; omega
          have ge32 : decide (io ≥ 32) = true := decide_eq_true (by omega)
          have le34 : decide (io ≤ 34) = false := decide_eq_false (by omega)
          have ge35 : decide (io ≥ 35) = true := decide_eq_true (by omega)
          have le37 : decide (io ≤ 37) = true := decide_eq_true (by omega)
          have n64 : (io == 64) = false := by rw [beq_eq_false_iff_ne]; omega
          have KZ := Kp.mk (fun v' => ref6_size io o1 o2 v')
          have hok := width_ok io
          have HR : r = if lookF P n ad.toNat (widthN io) 1 = 0 then ⟨Pg.store P ad.toNat (widthN io) ya.toNat, q.go nx, 0, 0⟩ else ⟨P, q, 2, lookF P n ad.toNat (widthN io) 1⟩ := by
            rw [HC2.out, if_neg (by omega), if_neg (by omega), if_pos (by omega), memV_store P n q io a d c' im (by omega), ← HYD.out, ← HX.out, ← HAD.out, ← HYA.out]
            by_cases hz : lookF P n ad.toNat (widthN io) 1 = 0
            · rw [if_pos hz, if_pos hz]; exact if_neg (fun h => h hz)
            · rw [if_neg hz, if_neg hz]; exact if_pos hz
          obtain ⟨kz, hkz⟩ : ∃ k, k = widthN io := ⟨_, rfl⟩
          rw [← hkz] at KZ hok HR
          have HOK := Kp.mk hok
          have HOP := Kp.mk (show 35 ≤ io by omega)
          clear HC2 hkz hok o1 o2 o3
          by_cases he : lookF P n ad.toNat kz 1 = 0
          · have pw : IntKind.wrap .u32 ((yd.toNat : Int) + x.toNat) = (ad.toNat : Int) := ps
            have hr : r = ⟨Pg.store P ad.toNat kz ya.toNat, q.go nx, 0, 0⟩ := by rw [HR]; exact if_pos he
            have KT : Kp (∀ w', RSt ⟨W0.w, (g, insA io a d c' im, 67) :: W0.cs⟩ w' b v n P q k s c → Calls Tryz.prog 41 #[v, .int .u32 (ad.toNat : Int), .int .i64 (kz : Int), .int .u32 (ya.toNat : Int)] w' fun e w'' => ∃ v2, e = .returned (.tuple #[v2, .int .i64 0, .int .i64 0]) ∧ OwnP w'' w'.heap.size v2 n (Pg.store P ad.toNat kz ya.toNat) ∧ Below w'.heap.size w' w'') := ⟨fun w' hm => by
              obtain ⟨a2, cap2, rfl, hrd⟩ := hm.own.rd hn
              exact ref_store_yes a2 n cap2 P w' hrd ad.toNat kz ya.toNat ad.isLt HOK.out ya.isLt he⟩
            obtain ⟨P2, hP2⟩ : ∃ p, p = Pg.store P ad.toNat kz ya.toNat := ⟨_, rfl⟩
            rw [← hP2] at KT hr
            subst hr
            clear HR he hP2
            go_wp2_with (first
              | (go_at_call 36; (with_reducible refine (KW.out _).mono ?_); rintro e w4 ⟨rfl, hw4⟩; obtain rfl := hw4.symm; clear hw4))
            go_region_held3 (fun w' => w'.cell? ⟨b, 0, none⟩ = some v ∧ w'.cell? ⟨g, 0, none⟩ = some (.int .i64 io))
              (first
                | with_reducible exact ⟨(M8.out.later (Drew.once _).below).mach.pages, (M8.out.later (Drew.once _).below).head.cell 0 _ rfl⟩
                | with_reducible exact ⟨((M8.out.later (Drew.once _).below).later HB6.out).mach.pages, ((M8.out.later (Drew.once _).below).later HB6.out).head.cell 0 _ rfl⟩)
              (first
                | (go_at_call 40; (with_reducible refine (KZ.out _).mono ?_); rintro e w7 ⟨rfl, hw7⟩; obtain rfl := hw7.symm; clear hw7)
                | (go_at_call 41; (try rw [pw]); (with_reducible refine (KT.out _ (M8.out.later (Drew.once _).below)).mono ?_); rintro e w6 ⟨v2, rfl, ho, hb⟩; obtain ⟨x2, cx2, rfl, _⟩ := ho.rd hn; have HB6 := Kp.mk hb; have HO6 := Kp.mk ho; clear ho hb))
            have M9 := Kp.mk ((M8.out.later (Drew.once _).below).later HB6.out)
            have HN2 : Kp (∀ j, j < W8.heap.size → (Value.slice x2 n cx2).ownBlock ≠ some j) := ⟨fun j hj e => absurd (own_far2 HO6.out e) (by have := (Drew.once W8).below.size; omega)⟩
            have hlt8 := M8.out.lt
            have HV : Kp ((Value.slice x2 n cx2).ownBlock ≠ some b) := ⟨HN2.out b hlt8⟩
            have HVK : Kp (∀ c ∈ W0.cs, (Value.slice x2 n cx2).ownBlock ≠ some c.1) := ⟨fun c hc => HN2.out _ (M8.out.tail.keep c hc).1.lt⟩
            have HO7 : Kp (OwnP w6 W0.heap.size (.slice x2 n cx2) n P2) := ⟨HO6.out.mono (Nat.le_trans M8.out.below.size (Drew.once W8).below.size)⟩
            clear cv fv cp i0 i1 i4 fp s0 s1 s2 z0 z1 z2 HN2 hlt8
            have cv := M9.out.mach.pages
            have fv := M9.out.mach.free 0
            have c17 := M9.out.mach.pc
            have f17 := M9.out.mach.free 17
            have s0 := M9.out.mach.st0
            have s1 := M9.out.mach.st1
            have s2 := M9.out.mach.st2
            have z0 := M9.out.mach.free 22
            have z1 := M9.out.mach.free 23
            have z2 := M9.out.mach.free 24
            have j0 := M9.out.head.cell 0 _ rfl
            go_wp2_with fail
            go_end0
            exact ⟨rfl, .slice x2 n cx2, ((M9.out.tail.page HO7.out HV.out HVK.out).go nx).stop 0 1 0⟩
          · have gz : (((lookF P n ad.toNat kz 1 : Nat) : Int) != 0) = true := by simp; omega
            have hr : r = ⟨P, q, 2, lookF P n ad.toNat kz 1⟩ := by rw [HR]; exact if_neg he
            have KT : Kp (∀ w', RSt ⟨W0.w, (g, insA io a d c' im, 67) :: W0.cs⟩ w' b v n P q k s c → Calls Tryz.prog 41 #[v, .int .u32 (ad.toNat : Int), .int .i64 (kz : Int), .int .u32 (ya.toNat : Int)] w' fun e w'' => e = .returned (.tuple #[.slice none 0 0, .int .i64 (lookF P n ad.toNat kz 1 : Nat), .int .i64 0]) ∧ w'' = w') := ⟨fun w' hm => by
              obtain ⟨a2, cap2, rfl, hrd⟩ := hm.own.rd hn
              exact ref_store_no a2 n cap2 P w' hrd ad.toNat kz ya.toNat ad.isLt HOK.out he⟩
            obtain ⟨fl, hfl⟩ : ∃ f, f = lookF P n ad.toNat kz 1 := ⟨_, rfl⟩
            rw [← hfl] at KT hr gz
            subst hr
            clear HR he hfl
            go_wp2_with (first
              | (go_at_call 36; (with_reducible refine (KW.out _).mono ?_); rintro e w4 ⟨rfl, hw4⟩; obtain rfl := hw4.symm; clear hw4))
            go_quiet (first
              | (go_at_call 40; (with_reducible refine (KZ.out _).mono ?_); exact fun _ _ h => ⟨h.1, ⟨_, h.2⟩⟩)
              | (go_at_call 41; (try rw [ps]); (with_reducible refine (KT.out _ (M8.out.later (below_drewN (Below.refl _ _) _))).mono ?_); exact fun _ _ h => ⟨h.1, ⟨_, h.2⟩⟩)
              | (go_at_call 41; (try rw [ps]); (with_reducible refine (KT.out _ M8.out).mono ?_); exact fun _ _ h => ⟨h.1, ⟨_, h.2⟩⟩))
            go_wp2_with (first
              | (go_at_call 35; (with_reducible refine (KB.out _ (M8.out.later (below_drewN (Below.refl _ _) _)) _).mono ?_); rintro e w5 ⟨rfl, hst⟩; have H5 := Kp.mk hst; clear hst))
            (try simp only [Exit.inBlock, Exit.then])
            refine bodyPost_ret (results_none rfl _ _ _) rfl ?_
            exact ⟨rfl, v, H5.out.tail⟩
      · by_cases o3 : io ≤ 53
        · have ge1 : decide (io ≥ 1) = true := decide_eq_true (by omega)
          have le15 : decide (io ≤ 15) = false := decide_eq_false (by omega)
          have n16 : (io == 16) = false := by rw [beq_eq_false_iff_ne]; omega
          have n17 : (io == 17) = false := by rw [beq_eq_false_iff_ne]; omega
          have n18 : (io == 18) = false := by rw [beq_eq_false_iff_ne]; omega
          have n19 : (io == 19) = false := by rw [beq_eq_false_iff_ne]; omega
          have n20 : (io == 20) = false := by rw [beq_eq_false_iff_ne]; omega
          have ge32 : decide (io ≥ 32) = true := decide_eq_true (by omega)
          have le34 : decide (io ≤ 34) = false := decide_eq_false (by omega)
          have ge35 : decide (io ≥ 35) = true := decide_eq_true (by omega)
          have le37 : decide (io ≤ 37) = false := decide_eq_false (by omega)
          have ge48 : decide (io ≥ 48) = true := decide_eq_true (by omega)
          have le53 : decide (io ≤ 53) = true := decide_eq_true (by omega)
          have n64 : (io == 64) = false := by rw [beq_eq_false_iff_ne]; omega
          have n54 : (io == 54) = false := by rw [beq_eq_false_iff_ne]; omega
          have n55 : (io == 55) = false := by rw [beq_eq_false_iff_ne]; omega
          have KT := Kp.mk (fun w' => ref_test_all io o1 o3 ya yd w')
          have HR : r = ⟨P, q.go (if (Alu.test io ya yd).1 then fr else nx), 0, 0⟩ := by
            rw [HC2.out, if_neg (by omega), if_pos (by omega), jmpV_test q io a d c' im nx o1 o3, ← HYD.out, ← HYA.out, ← HX.out, ← HFR.out]
          obtain ⟨t, ht⟩ : ∃ t, t = (Alu.test io ya yd).1 := ⟨_, rfl⟩
          rw [← ht] at KT HR
          clear HC2 ht o1 o2 o3
          cases t
          · have hr : r = ⟨P, q.go nx, 0, 0⟩ := HR
            subst hr
            clear HR
            go_wp2_with (first
              | (go_at_call 36; (with_reducible refine (KW.out _).mono ?_); rintro e w4 ⟨rfl, hw4⟩; obtain rfl := hw4.symm; clear hw4)
              | (go_at_call 42; (with_reducible refine (KT.out _).mono ?_); rintro e w6 ⟨rfl, hw6⟩; obtain rfl := hw6.symm; clear hw6))
            go_end0
            refine ⟨rfl, v, ?_⟩
            try simp only [pnx, px4, pfr, ps]
            exact ((M8.out.tail.go nx).stop 0 1 0)
          · have hr : r = ⟨P, q.go fr, 0, 0⟩ := HR
            subst hr
            clear HR
            go_wp2_with (first
              | (go_at_call 36; (with_reducible refine (KW.out _).mono ?_); rintro e w4 ⟨rfl, hw4⟩; obtain rfl := hw4.symm; clear hw4)
              | (go_at_call 42; (with_reducible refine (KT.out _).mono ?_); rintro e w6 ⟨rfl, hw6⟩; obtain rfl := hw6.symm; clear hw6))
            go_end0
            refine ⟨rfl, v, ?_⟩
            try simp only [pnx, px4, pfr, ps]
            exact ((M8.out.tail.go fr).stop 0 1 0)
        · have ho : io = 54 ∨ io = 55 := by omega
          clear o1 o2 o3
          rcases ho with rfl | rfl
          · have hr : r = ⟨P, (q.set a nx).go fr, 0, 0⟩ := by rw [HC2.out, HFR.out, HX.out]; rfl
            subst hr
            clear HC2
            go_wp2_with (first
              | (go_at_call 36; (with_reducible refine (KW.out _).mono ?_); rintro e w4 ⟨rfl, hw4⟩; obtain rfl := hw4.symm; clear hw4)
              | (go_at_call 38; (with_reducible refine (KS.out _ (M8.out) _).mono ?_); rintro e w5 ⟨rfl, hst⟩; have H5 := Kp.mk hst; clear hst; have c17 := H5.out.mach.pc; have f17 := H5.out.mach.free 17; have s0 := H5.out.mach.st0; have s1 := H5.out.mach.st1; have s2 := H5.out.mach.st2; have z0 := H5.out.mach.free 22; have z1 := H5.out.mach.free 23; have z2 := H5.out.mach.free 24; have j0 := H5.out.head.cell 0 _ rfl; have j4 := H5.out.head.cell 4 _ rfl))
            go_end0
            refine ⟨rfl, v, ?_⟩
            try simp only [pnx, px4, pfr, ps]
            exact ((H5.out.tail.go fr).stop 0 1 0)
          · have hr : r = ⟨P, q.go ad, 0, 0⟩ := by rw [HC2.out, HAD.out, HYD.out, HX.out]; rfl
            subst hr
            clear HC2
            go_wp2_with (first
              | (go_at_call 36; (with_reducible refine (KW.out _).mono ?_); rintro e w4 ⟨rfl, hw4⟩; obtain rfl := hw4.symm; clear hw4))
            go_end0
            refine ⟨rfl, v, ?_⟩
            try simp only [pnx, px4, pfr, ps]
            exact ((M8.out.tail.go ad).stop 0 1 0)
      · subst o1
        have hr : r = ⟨P, q.go nx, 1, im⟩ := HC2.out
        subst hr
        clear HC2
        go_wp2_with (first
          | (go_at_call 36; (with_reducible refine (KW.out _).mono ?_); rintro e w4 ⟨rfl, hw4⟩; obtain rfl := hw4.symm; clear hw4))
        go_end0
        exact ⟨rfl, v, ((M8.out.tail.go nx).stop 0 1 0).stop 1 1 im⟩
    · have gf : ((f : Int) != 0) = true := by simp; omega
      have hr : r = ⟨P, q, 2, f⟩ := by rw [HC.out, if_pos hf0]
      subst hr
      have KB := Kp.mk (ref6_fault HW.out.st f)
      clear HC HGD hf0
      go_wp2_with (first
        | (go_at_call 35; (with_reducible refine KB.out.mono ?_); rintro e w4 ⟨rfl, hst⟩; have HW4 := Kp.mk hst; clear hst))
      (try simp only [Exit.inBlock, Exit.then])
      refine bodyPost_ret (results_none rfl _ _ _) rfl ?_
      exact ⟨rfl, v, HW4.out⟩
  · refine then_gen (F := fun W => Kp (RFI W0 W b v n P q k s c w.heap.size (insA io ia id ic im))) ⟨⟨(HN.out.later HW3.out).other5 w.heap.size _ _ _ _ _ HFAR.out HNEB.out HB0.out HKP.out, VZ.out.set5 _ _ _ _ _, HFAR.out, HNEB.out⟩⟩ ?_
    generalize w.heap.size = g
    clear HW3 VZ c0 c1 c2 c3 c4 f0 f1 f2 f3 f4
    intro W HW
    clear HFAR HNEB HB0 HKP KF HN cv cp hlt
    by_cases hf0 : f = 0
    · obtain ⟨op, a, d, c', imm, hi, ha, hd, hc, hop, hb1, hb2⟩ := HGD.out hf0
      simp only [insP, InsV.mk.injEq] at hi
      obtain ⟨rfl, rfl, rfl, rfl, rfl⟩ := hi
      have HC2 : Kp (r = if io = 64 then ⟨P, q.go nx, 1, im⟩ else if 48 ≤ io then ⟨P, (jmpV q (insP io a d c' im) nx).2.go (jmpV q (insP io a d c' im) nx).1, 0, 0⟩
        else if 32 ≤ io then (if (memV P n q (insP io a d c' im)).1 ≠ 0 then ⟨(memV P n q (insP io a d c' im)).2.1, (memV P n q (insP io a d c' im)).2.2, 2, (memV P n q (insP io a d c' im)).1⟩ else ⟨(memV P n q (insP io a d c' im)).2.1, (memV P n q (insP io a d c' im)).2.2.go nx, 0, 0⟩)
        else (if (cmpV q (insP io a d c' im)).1 ≠ 0 then ⟨P, (cmpV q (insP io a d c' im)).2, 2, (cmpV q (insP io a d c' im)).1⟩ else ⟨P, (cmpV q (insP io a d c' im)).2.go nx, 0, 0⟩)) := ⟨by rw [HC.out, if_neg (by omega)]⟩
      subst hf0
      clear HC HGD
      have M : Kp (RSt ⟨W0.w, (g, insA io a d c' im, 67) :: W0.cs⟩ W b v n P q k s c) := ⟨HW.out.st.withB g _ _ HW.out.ins (fun e => HW.out.ne e.symm) HW.out.far⟩
      have nb1 : ¬ b = g := HW.out.ne
      have nb2 : ¬ g = b := fun e => HW.out.ne e.symm
      clear HW
      obtain ⟨x, hx⟩ : ∃ x, x = BitVec.ofInt 32 im := ⟨_, rfl⟩
      obtain ⟨yd, hyd⟩ : ∃ y, y = q.r d := ⟨_, rfl⟩
      obtain ⟨yc, hyc⟩ : ∃ y, y = q.r c' := ⟨_, rfl⟩
      obtain ⟨ya, hya⟩ : ∃ y, y = q.r a := ⟨_, rfl⟩
      obtain ⟨ad, had⟩ : ∃ s, s = yd + x := ⟨_, rfl⟩
      have ps : ((yd.toNat : Int) + x.toNat) % (4294967296 : Int) = (ad.toNat : Int) := by rw [had]; exact u32_add yd x
      obtain ⟨x4, hx4⟩ : ∃ x4, x4 = 4#32 * x := ⟨_, rfl⟩
      have px4 : (4 : Int) * (x.toNat : Int) % (4294967296 : Int) = (x4.toNat : Int) := by rw [hx4]; exact u32_mul4 x
      obtain ⟨fr, hfr⟩ : ∃ fr, fr = nx + x4 := ⟨_, rfl⟩
      have pfr : ((nx.toNat : Int) + x4.toNat) % (4294967296 : Int) = (fr.toNat : Int) := by rw [hfr]; exact u32_add nx x4
      obtain ⟨xl, hxl⟩ : ∃ xl, xl = x <<< 16 := ⟨_, rfl⟩
      have px2 : (x.toNat : Int) * (65536 : Int) % (4294967296 : Int) = (xl.toNat : Int) := by rw [hxl]; exact u32_shl16 x
      have HX := Kp.mk hx
      have HYD := Kp.mk hyd
      have HYC := Kp.mk hyc
      have HYA := Kp.mk hya
      have HAD := Kp.mk had
      have HFR := Kp.mk (show fr = nx + 4#32 * x by rw [hfr, hx4])
      have HXL := Kp.mk hxl
      have KW := Kp.mk (ref6_word im hb1 hb2 x hx)
      have i0 := M.out.head.cell 0 _ rfl
      have i1 := M.out.head.cell 1 _ rfl
      have i2 := M.out.head.cell 2 _ rfl
      have i3 := M.out.head.cell 3 _ rfl
      have i4 := M.out.head.cell 4 _ rfl
      have ca := M.out.mach.reg a ha
      have cd := M.out.mach.reg d hd
      have cc := M.out.mach.reg c' hc
      rw [← hya] at ca
      rw [← hyd] at cd
      rw [← hyc] at cc
      have cp : W.cell? ⟨b, 17, none⟩ = some (.int .u32 (pc.toNat : Int)) := by rw [HPC.out]; exact M.out.mach.pc
      have t1 : (a : Int) < 16 := by omega
      have t2 : (0 : Int) ≤ (a : Int) := by omega
      have t3 : (d : Int) < 16 := by omega
      have t4 : (0 : Int) ≤ (d : Int) := by omega
      have t5 : (c' : Int) < 16 := by omega
      have t6 : (0 : Int) ≤ (c' : Int) := by omega
      clear hx hyd hyc hya had hx4 hfr hxl hd hc hb1 hb2
      go_wp2_with fail
      go_quiet (fail)
      go_wp2_with fail
      go_quiet (fail)
      go_wp2_with fail
      go_quiet (fail)
      refine then_gen (F := fun W' => Kp (RSt ⟨W0.w, (g, insA io a d c' im, 67) :: W0.cs⟩ W' b v n P q k s c)) ⟨M.out.later (below_drewN (below_drewN (below_drewN (Below.refl _ _) _) _) _)⟩ ?_
      clear i0 i1 i2 i3 i4 ca cd cc cp M t1 t2 t3 t4 t5 t6
      intro W8 M8
      have KS := Kp.mk (fun (w' : World) (hm : RSt ⟨W0.w, (g, insA io a d c' im, 67) :: W0.cs⟩ w' b v n P q k s c) (y : BitVec 32) => ref6_set hm a ha y)
      have KB := Kp.mk (fun (w' : World) (hm : RSt ⟨W0.w, (g, insA io a d c' im, 67) :: W0.cs⟩ w' b v n P q k s c) (y : Int) => ref6_fault hm y)
      have cv := M8.out.mach.pages
      have fv := M8.out.mach.free 0
      have cp : W8.cell? ⟨b, 17, none⟩ = some (.int .u32 (pc.toNat : Int)) := by rw [HPC.out]; exact M8.out.mach.pc
      have i0 := M8.out.head.cell 0 _ rfl
      have i1 := M8.out.head.cell 1 _ rfl
      have i4 := M8.out.head.cell 4 _ rfl
      have fp := M8.out.mach.free 17
      have s0 := M8.out.mach.st0
      have s1 := M8.out.mach.st1
      have s2 := M8.out.mach.st2
      have z0 := M8.out.mach.free 22
      have z1 := M8.out.mach.free 23
      have z2 := M8.out.mach.free 24
      clear ha
      rcases hop with ⟨o1, o2⟩ | ⟨o1, o2⟩ | ⟨o1, o2⟩ | o1
      · by_cases o3 : io ≤ 15
        · have ge1 : decide (io ≥ 1) = true := decide_eq_true (by omega)
          have le15 : decide (io ≤ 15) = true := decide_eq_true (by omega)
          have n64 : (io == 64) = false := by rw [beq_eq_false_iff_ne]; omega
          have KD := Kp.mk (fun w' => ref_do_all io o1 o3 yd yc w')
          have HR : r = if (Alu.do_ io yd yc).2 = 0 then ⟨P, (q.set a (Alu.do_ io yd yc).1).go nx, 0, 0⟩ else ⟨P, q, 2, 7⟩ := by
            rw [HC2.out, if_neg (by omega), if_neg (by omega), if_neg (by omega), cmpV_do q io a d c' im o1 o3, ← HYD.out, ← HYC.out]
            by_cases hz : (Alu.do_ io yd yc).2 = 0
            · rw [if_pos hz, if_pos hz]; rfl
            · rw [if_neg hz, if_neg hz]; rfl
          obtain ⟨z, hz⟩ : ∃ z, z = Alu.do_ io yd yc := ⟨_, rfl⟩
          rw [← hz] at KD HR
          obtain ⟨zv, ze⟩ := z
          clear hz HC2 o1 o2 o3
          by_cases he : ze = 0
          · subst he
            have hr : r = ⟨P, (q.set a zv).go nx, 0, 0⟩ := HR
            subst hr
            clear HR
            go_wp2_with (first
              | (go_at_call 36; (with_reducible refine (KW.out _).mono ?_); rintro e w4 ⟨rfl, hw4⟩; obtain rfl := hw4.symm; clear hw4)
              | (go_at_call 37; (with_reducible refine (KD.out _).mono ?_); rintro e w6 ⟨rfl, hb⟩; have M4 := Kp.mk (M8.out.later hb); have k1 := M4.out.head.cell 1 _ rfl; clear hb)
              | (go_at_call 38; (with_reducible refine (KS.out _ (M4.out) _).mono ?_); rintro e w5 ⟨rfl, hst⟩; have H5 := Kp.mk hst; clear hst; have c17 := H5.out.mach.pc; have f17 := H5.out.mach.free 17; have s0 := H5.out.mach.st0; have s1 := H5.out.mach.st1; have s2 := H5.out.mach.st2; have z0 := H5.out.mach.free 22; have z1 := H5.out.mach.free 23; have z2 := H5.out.mach.free 24; have j0 := H5.out.head.cell 0 _ rfl; have j4 := H5.out.head.cell 4 _ rfl))
            go_end0
            refine ⟨rfl, v, ?_⟩
            try simp only [pnx, px4, pfr, ps]
            exact ((H5.out.tail.go nx).stop 0 1 0)
          · have gz : ((ze : Int) != 0) = true := by simp; omega
            have hr : r = ⟨P, q, 2, 7⟩ := by rw [HR]; exact if_neg he
            subst hr
            clear HR he
            go_wp2_with (first
              | (go_at_call 36; (with_reducible refine (KW.out _).mono ?_); rintro e w4 ⟨rfl, hw4⟩; obtain rfl := hw4.symm; clear hw4)
              | (go_at_call 37; (with_reducible refine (KD.out _).mono ?_); rintro e w6 ⟨rfl, hb⟩; have M4 := Kp.mk (M8.out.later hb); have k1 := M4.out.head.cell 1 _ rfl; clear hb)
              | (go_at_call 35; (with_reducible refine (KB.out _ (M4.out) _).mono ?_); rintro e w5 ⟨rfl, hst⟩; have H5 := Kp.mk hst; clear hst))
            (try simp only [Exit.inBlock, Exit.then])
            refine bodyPost_ret (results_none rfl _ _ _) rfl ?_
            exact ⟨rfl, v, H5.out.tail⟩
        · have ho : io = 16 ∨ io = 17 ∨ io = 18 ∨ io = 19 ∨ io = 20 := by omega
          clear o1 o2 o3
          rcases ho with rfl | rfl | rfl | rfl | rfl
          · have hr : r = ⟨P, (q.set a (Alu.do_ 1 yd x).1).go nx, 0, 0⟩ := by rw [HC2.out, HYD.out, HX.out]; rfl
            have KD : Kp (∀ w' : World, Calls Tryz.prog 37 #[.int .i64 1, .int .u32 (yd.toNat : Int), .int .u32 (x.toNat : Int)] w' fun e w'' => e = .returned (.tuple #[.int .u32 ((Alu.do_ 1 yd x).1.toNat : Int), .int .i64 0]) ∧ Below w'.heap.size w' w'') := ⟨fun w' => ref_do_1 yd x w'⟩
            obtain ⟨zv, hz⟩ : ∃ z, z = (Alu.do_ 1 yd x).1 := ⟨_, rfl⟩
            rw [← hz] at KD hr
            subst hr
            clear hz HC2
            go_wp2_with (first
              | (go_at_call 36; (with_reducible refine (KW.out _).mono ?_); rintro e w4 ⟨rfl, hw4⟩; obtain rfl := hw4.symm; clear hw4)
              | (go_at_call 37; (with_reducible refine (KD.out _).mono ?_); rintro e w6 ⟨rfl, hb⟩; have M4 := Kp.mk (M8.out.later hb); have k1 := M4.out.head.cell 1 _ rfl; clear hb)
              | (go_at_call 38; (with_reducible refine (KS.out _ (M4.out) _).mono ?_); rintro e w5 ⟨rfl, hst⟩; have H5 := Kp.mk hst; clear hst; have c17 := H5.out.mach.pc; have f17 := H5.out.mach.free 17; have s0 := H5.out.mach.st0; have s1 := H5.out.mach.st1; have s2 := H5.out.mach.st2; have z0 := H5.out.mach.free 22; have z1 := H5.out.mach.free 23; have z2 := H5.out.mach.free 24; have j0 := H5.out.head.cell 0 _ rfl; have j4 := H5.out.head.cell 4 _ rfl))
            go_end0
            refine ⟨rfl, v, ?_⟩
            try simp only [pnx, px4, pfr, ps]
            exact ((H5.out.tail.go nx).stop 0 1 0)
          · have hr : r = ⟨P, (q.set a (Alu.do_ 3 yd x).1).go nx, 0, 0⟩ := by rw [HC2.out, HYD.out, HX.out]; rfl
            have KD : Kp (∀ w' : World, Calls Tryz.prog 37 #[.int .i64 3, .int .u32 (yd.toNat : Int), .int .u32 (x.toNat : Int)] w' fun e w'' => e = .returned (.tuple #[.int .u32 ((Alu.do_ 3 yd x).1.toNat : Int), .int .i64 0]) ∧ Below w'.heap.size w' w'') := ⟨fun w' => ref_do_3 yd x w'⟩
            obtain ⟨zv, hz⟩ : ∃ z, z = (Alu.do_ 3 yd x).1 := ⟨_, rfl⟩
            rw [← hz] at KD hr
            subst hr
            clear hz HC2
            go_wp2_with (first
              | (go_at_call 36; (with_reducible refine (KW.out _).mono ?_); rintro e w4 ⟨rfl, hw4⟩; obtain rfl := hw4.symm; clear hw4)
              | (go_at_call 37; (with_reducible refine (KD.out _).mono ?_); rintro e w6 ⟨rfl, hb⟩; have M4 := Kp.mk (M8.out.later hb); have k1 := M4.out.head.cell 1 _ rfl; clear hb)
              | (go_at_call 38; (with_reducible refine (KS.out _ (M4.out) _).mono ?_); rintro e w5 ⟨rfl, hst⟩; have H5 := Kp.mk hst; clear hst; have c17 := H5.out.mach.pc; have f17 := H5.out.mach.free 17; have s0 := H5.out.mach.st0; have s1 := H5.out.mach.st1; have s2 := H5.out.mach.st2; have z0 := H5.out.mach.free 22; have z1 := H5.out.mach.free 23; have z2 := H5.out.mach.free 24; have j0 := H5.out.head.cell 0 _ rfl; have j4 := H5.out.head.cell 4 _ rfl))
            go_end0
            refine ⟨rfl, v, ?_⟩
            try simp only [pnx, px4, pfr, ps]
            exact ((H5.out.tail.go nx).stop 0 1 0)
          · have hr : r = ⟨P, (q.set a (Alu.do_ 4 yd x).1).go nx, 0, 0⟩ := by rw [HC2.out, HYD.out, HX.out]; rfl
            have KD : Kp (∀ w' : World, Calls Tryz.prog 37 #[.int .i64 4, .int .u32 (yd.toNat : Int), .int .u32 (x.toNat : Int)] w' fun e w'' => e = .returned (.tuple #[.int .u32 ((Alu.do_ 4 yd x).1.toNat : Int), .int .i64 0]) ∧ Below w'.heap.size w' w'') := ⟨fun w' => ref_do_4 yd x w'⟩
            obtain ⟨zv, hz⟩ : ∃ z, z = (Alu.do_ 4 yd x).1 := ⟨_, rfl⟩
            rw [← hz] at KD hr
            subst hr
            clear hz HC2
            go_wp2_with (first
              | (go_at_call 36; (with_reducible refine (KW.out _).mono ?_); rintro e w4 ⟨rfl, hw4⟩; obtain rfl := hw4.symm; clear hw4)
              | (go_at_call 37; (with_reducible refine (KD.out _).mono ?_); rintro e w6 ⟨rfl, hb⟩; have M4 := Kp.mk (M8.out.later hb); have k1 := M4.out.head.cell 1 _ rfl; clear hb)
              | (go_at_call 38; (with_reducible refine (KS.out _ (M4.out) _).mono ?_); rintro e w5 ⟨rfl, hst⟩; have H5 := Kp.mk hst; clear hst; have c17 := H5.out.mach.pc; have f17 := H5.out.mach.free 17; have s0 := H5.out.mach.st0; have s1 := H5.out.mach.st1; have s2 := H5.out.mach.st2; have z0 := H5.out.mach.free 22; have z1 := H5.out.mach.free 23; have z2 := H5.out.mach.free 24; have j0 := H5.out.head.cell 0 _ rfl; have j4 := H5.out.head.cell 4 _ rfl))
            go_end0
            refine ⟨rfl, v, ?_⟩
            try simp only [pnx, px4, pfr, ps]
            exact ((H5.out.tail.go nx).stop 0 1 0)
          · have hr : r = ⟨P, (q.set a (Alu.do_ 5 yd x).1).go nx, 0, 0⟩ := by rw [HC2.out, HYD.out, HX.out]; rfl
            have KD : Kp (∀ w' : World, Calls Tryz.prog 37 #[.int .i64 5, .int .u32 (yd.toNat : Int), .int .u32 (x.toNat : Int)] w' fun e w'' => e = .returned (.tuple #[.int .u32 ((Alu.do_ 5 yd x).1.toNat : Int), .int .i64 0]) ∧ Below w'.heap.size w' w'') := ⟨fun w' => ref_do_5 yd x w'⟩
            obtain ⟨zv, hz⟩ : ∃ z, z = (Alu.do_ 5 yd x).1 := ⟨_, rfl⟩
            rw [← hz] at KD hr
            subst hr
            clear hz HC2
            go_wp2_with (first
              | (go_at_call 36; (with_reducible refine (KW.out _).mono ?_); rintro e w4 ⟨rfl, hw4⟩; obtain rfl := hw4.symm; clear hw4)
              | (go_at_call 37; (with_reducible refine (KD.out _).mono ?_); rintro e w6 ⟨rfl, hb⟩; have M4 := Kp.mk (M8.out.later hb); have k1 := M4.out.head.cell 1 _ rfl; clear hb)
              | (go_at_call 38; (with_reducible refine (KS.out _ (M4.out) _).mono ?_); rintro e w5 ⟨rfl, hst⟩; have H5 := Kp.mk hst; clear hst; have c17 := H5.out.mach.pc; have f17 := H5.out.mach.free 17; have s0 := H5.out.mach.st0; have s1 := H5.out.mach.st1; have s2 := H5.out.mach.st2; have z0 := H5.out.mach.free 22; have z1 := H5.out.mach.free 23; have z2 := H5.out.mach.free 24; have j0 := H5.out.head.cell 0 _ rfl; have j4 := H5.out.head.cell 4 _ rfl))
            go_end0
            refine ⟨rfl, v, ?_⟩
            try simp only [pnx, px4, pfr, ps]
            exact ((H5.out.tail.go nx).stop 0 1 0)
          · have hr : r = ⟨P, (q.set a xl).go nx, 0, 0⟩ := by rw [HC2.out, HXL.out, HX.out]; rfl
            subst hr
            clear HC2
            go_wp2_with (first
              | (go_at_call 36; (with_reducible refine (KW.out _).mono ?_); rintro e w4 ⟨rfl, hw4⟩; obtain rfl := hw4.symm; clear hw4)
              | (go_at_call 38; rw [px2]; (with_reducible refine (KS.out _ (M8.out) _).mono ?_); rintro e w5 ⟨rfl, hst⟩; have H5 := Kp.mk hst; clear hst; have c17 := H5.out.mach.pc; have f17 := H5.out.mach.free 17; have s0 := H5.out.mach.st0; have s1 := H5.out.mach.st1; have s2 := H5.out.mach.st2; have z0 := H5.out.mach.free 22; have z1 := H5.out.mach.free 23; have z2 := H5.out.mach.free 24; have j0 := H5.out.head.cell 0 _ rfl; have j4 := H5.out.head.cell 4 _ rfl))
            go_end0
            refine ⟨rfl, v, ?_⟩
            try simp only [pnx, px4, pfr, ps]
            exact ((H5.out.tail.go nx).stop 0 1 0)
      · by_cases o3 : io ≤ 34
        · have ge1 : decide (io ≥ 1) = true := decide_eq_true (by omega)
          have le15 : decide (io ≤ 15) = false := decide_eq_false (by omega)
          have n16 : (io == 16) = false := by rw [beq_eq_false_iff_ne]; omega
          have n17 : (io == 17) = false := by rw [beq_eq_false_iff_ne]; omega
          have n18 : (io == 18) = false := by rw [beq_eq_false_iff_ne]; omega
          have n19 : (io == 19) = false := by rw [beq_eq_false_iff_ne]; omega
          have n20 : (io == 20) = false := by rw [beq_eq_false_iff_ne]; omega
          have ge32 : decide (io ≥ 32) = true := decide_eq_true (by omega)
          have le34 : decide (io ≤ 34) = true := decide_eq_true (by omega)
          have n64 : (io == 64) = false := by rw [beq_eq_false_iff_ne]; omega
          have KZ := Kp.mk (fun v' => ref6_size io o1 o2 v')
          have hok := width_ok io
          have HR : r = if lookF P n ad.toNat (widthN io) 0 = 0 then ⟨P, (q.set a (BitVec.ofNat 32 (loadV P n ad.toNat (widthN io) 0))).go nx, 0, 0⟩ else ⟨P, q, 2, lookF P n ad.toNat (widthN io) 0⟩ := by
            rw [HC2.out, if_neg (by omega), if_neg (by omega), if_pos (by omega), memV_load P n q io a d c' im o3, ← HYD.out, ← HX.out, ← HAD.out]
            by_cases hz : lookF P n ad.toNat (widthN io) 0 = 0
            · rw [if_pos hz, if_pos hz]; exact if_neg (fun h => h hz)
            · rw [if_neg hz, if_neg hz]; exact if_pos hz
          obtain ⟨kz, hkz⟩ : ∃ k, k = widthN io := ⟨_, rfl⟩
          rw [← hkz] at KZ hok HR
          obtain ⟨l, hl⟩ : ∃ l, l = BitVec.ofNat 32 (loadV P n ad.toNat kz 0) := ⟨_, rfl⟩
          have hlv : ((loadV P n ad.toNat kz 0 : Nat) : Int) = (l.toNat : Int) := by
            rw [hl, BitVec.toNat_ofNat, Nat.mod_eq_of_lt (load_lt hok)]
          obtain ⟨fl, hfl⟩ : ∃ f, f = lookF P n ad.toNat kz 0 := ⟨_, rfl⟩
          have KL : Kp (∀ w', RSt ⟨W0.w, (g, insA io a d c' im, 67) :: W0.cs⟩ w' b v n P q k s c → Calls Tryz.prog 39 #[v, .int .u32 (ad.toNat : Int), .int .i64 (kz : Int)] w' fun e w'' => e = .returned (.tuple #[.int .u32 (l.toNat : Int), .int .i64 (fl : Nat), .int .i64 0]) ∧ w'' = w') := ⟨fun w' hm => by
            obtain ⟨a2, cap2, rfl, hrd⟩ := hm.own.rd hn
            have := ref_load a2 n cap2 P w' hrd ad.toNat kz ad.isLt hok
            rw [hlv, ← hfl] at this
            exact this⟩
          rw [← hl, ← hfl] at HR
          clear HC2 hkz hok hl hlv hfl o1 o2 o3
          by_cases he : fl = 0
          · subst he
            have hr : r = ⟨P, (q.set a l).go nx, 0, 0⟩ := HR
            subst hr
            clear HR
            go_wp2_with (first
              | (go_at_call 36; (with_reducible refine (KW.out _).mono ?_); rintro e w4 ⟨rfl, hw4⟩; obtain rfl := hw4.symm; clear hw4))
            go_quiet (first
              | (go_at_call 40; (with_reducible refine (KZ.out _).mono ?_); exact fun _ _ h => ⟨h.1, ⟨_, h.2⟩⟩)
              | (go_at_call 39; (try rw [ps]); (with_reducible refine (KL.out _ (M8.out.later (below_drewN (Below.refl _ _) _))).mono ?_); exact fun _ _ h => ⟨h.1, ⟨_, h.2⟩⟩)
              | (go_at_call 39; (try rw [ps]); (with_reducible refine (KL.out _ M8.out).mono ?_); exact fun _ _ h => ⟨h.1, ⟨_, h.2⟩⟩))
            refine then_gen (F := fun W' => Kp (RSt ⟨W0.w, (g, insA io a d c' im, 67) :: W0.cs⟩ W' b v n P q k s c)) ⟨M8.out.later (below_drewN (Below.refl _ _) _)⟩ ?_
            clear M8 cv fv cp i0 i1 i4 fp s0 s1 s2 z0 z1 z2
            intro W9 M9
            have i1 := M9.out.head.cell 1 _ rfl
            go_wp2_with (first
              | (go_at_call 38; (with_reducible refine (KS.out _ (M9.out) _).mono ?_); rintro e w5 ⟨rfl, hst⟩; have H5 := Kp.mk hst; clear hst; have c17 := H5.out.mach.pc; have f17 := H5.out.mach.free 17; have s0 := H5.out.mach.st0; have s1 := H5.out.mach.st1; have s2 := H5.out.mach.st2; have z0 := H5.out.mach.free 22; have z1 := H5.out.mach.free 23; have z2 := H5.out.mach.free 24; have j0 := H5.out.head.cell 0 _ rfl; have j4 := H5.out.head.cell 4 _ rfl))
            go_end0
            refine ⟨rfl, v, ?_⟩
            try simp only [pnx, px4, pfr, ps]
            exact ((H5.out.tail.go nx).stop 0 1 0)
          · have gz : ((fl : Int) != 0) = true := by simp; omega
            have hr : r = ⟨P, q, 2, fl⟩ := by rw [HR]; exact if_neg he
            subst hr
            clear HR he
            go_wp2_with (first
              | (go_at_call 36; (with_reducible refine (KW.out _).mono ?_); rintro e w4 ⟨rfl, hw4⟩; obtain rfl := hw4.symm; clear hw4))
            go_quiet (first
              | (go_at_call 40; (with_reducible refine (KZ.out _).mono ?_); exact fun _ _ h => ⟨h.1, ⟨_, h.2⟩⟩)
              | (go_at_call 39; (try rw [ps]); (with_reducible refine (KL.out _ (M8.out.later (below_drewN (Below.refl _ _) _))).mono ?_); exact fun _ _ h => ⟨h.1, ⟨_, h.2⟩⟩)
              | (go_at_call 39; (try rw [ps]); (with_reducible refine (KL.out _ M8.out).mono ?_); exact fun _ _ h => ⟨h.1, ⟨_, h.2⟩⟩))
            refine then_gen (F := fun W' => Kp (RSt ⟨W0.w, (g, insA io a d c' im, 67) :: W0.cs⟩ W' b v n P q k s c)) ⟨M8.out.later (below_drewN (Below.refl _ _) _)⟩ ?_
            clear M8 cv fv cp i0 i1 i4 fp s0 s1 s2 z0 z1 z2
            intro W9 M9
            have i1 := M9.out.head.cell 1 _ rfl
            go_wp2_with (first
              | (go_at_call 35; (with_reducible refine (KB.out _ (M9.out) _).mono ?_); rintro e w5 ⟨rfl, hst⟩; have H5 := Kp.mk hst; clear hst))
            (try simp only [Exit.inBlock, Exit.then])
            refine bodyPost_ret (results_none rfl _ _ _) rfl ?_
            exact ⟨rfl, v, H5.out.tail⟩
        · have ge1 : decide (io ≥ 1) = true := decide_eq_true (by omega)
          have le15 : decide (io ≤ 15) = false := decide_eq_false (by omega)
          have n16 : (io == 16) = false := by rw [beq_eq_false_iff_ne]; omega
          have n17 : (io == 17) = false := by rw [beq_eq_false_iff_ne]; omega
          have n18 : (io == 18) = false := by rw [beq_eq_false_iff_ne]; omega
          have n19 : (io == 19) = false := by rw [beq_eq_false_iff_ne]; omega
          have n20 : (io == 20) = false := by rw [beq_eq_false_iff_ne]; omega
          have ge32 : decide (io ≥ 32) = true := decide_eq_true (by omega)
          have le34 : decide (io ≤ 34) = false := decide_eq_false (by omega)
          have ge35 : decide (io ≥ 35) = true := decide_eq_true (by omega)
          have le37 : decide (io ≤ 37) = true := decide_eq_true (by omega)
          have n64 : (io == 64) = false := by rw [beq_eq_false_iff_ne]; omega
          have KZ := Kp.mk (fun v' => ref6_size io o1 o2 v')
          have hok := width_ok io
          have HR : r = if lookF P n ad.toNat (widthN io) 1 = 0 then ⟨Pg.store P ad.toNat (widthN io) ya.toNat, q.go nx, 0, 0⟩ else ⟨P, q, 2, lookF P n ad.toNat (widthN io) 1⟩ := by
            rw [HC2.out, if_neg (by omega), if_neg (by omega), if_pos (by omega), memV_store P n q io a d c' im (by omega), ← HYD.out, ← HX.out, ← HAD.out, ← HYA.out]
            by_cases hz : lookF P n ad.toNat (widthN io) 1 = 0
            · rw [if_pos hz, if_pos hz]; exact if_neg (fun h => h hz)
            · rw [if_neg hz, if_neg hz]; exact if_pos hz
          obtain ⟨kz, hkz⟩ : ∃ k, k = widthN io := ⟨_, rfl⟩
          rw [← hkz] at KZ hok HR
          have HOK := Kp.mk hok
          have HOP := Kp.mk (show 35 ≤ io by omega)
          clear HC2 hkz hok o1 o2 o3
          by_cases he : lookF P n ad.toNat kz 1 = 0
          · have pw : IntKind.wrap .u32 ((yd.toNat : Int) + x.toNat) = (ad.toNat : Int) := ps
            have hr : r = ⟨Pg.store P ad.toNat kz ya.toNat, q.go nx, 0, 0⟩ := by rw [HR]; exact if_pos he
            have KT : Kp (∀ w', RSt ⟨W0.w, (g, insA io a d c' im, 67) :: W0.cs⟩ w' b v n P q k s c → Calls Tryz.prog 41 #[v, .int .u32 (ad.toNat : Int), .int .i64 (kz : Int), .int .u32 (ya.toNat : Int)] w' fun e w'' => ∃ v2, e = .returned (.tuple #[v2, .int .i64 0, .int .i64 0]) ∧ OwnP w'' w'.heap.size v2 n (Pg.store P ad.toNat kz ya.toNat) ∧ Below w'.heap.size w' w'') := ⟨fun w' hm => by
              obtain ⟨a2, cap2, rfl, hrd⟩ := hm.own.rd hn
              exact ref_store_yes a2 n cap2 P w' hrd ad.toNat kz ya.toNat ad.isLt HOK.out ya.isLt he⟩
            obtain ⟨P2, hP2⟩ : ∃ p, p = Pg.store P ad.toNat kz ya.toNat := ⟨_, rfl⟩
            rw [← hP2] at KT hr
            subst hr
            clear HR he hP2
            go_wp2_with (first
              | (go_at_call 36; (with_reducible refine (KW.out _).mono ?_); rintro e w4 ⟨rfl, hw4⟩; obtain rfl := hw4.symm; clear hw4))
            go_region_held3 (fun w' => w'.cell? ⟨b, 0, none⟩ = some v ∧ w'.cell? ⟨g, 0, none⟩ = some (.int .i64 io))
              (first
                | with_reducible exact ⟨(M8.out.later (Drew.once _).below).mach.pages, (M8.out.later (Drew.once _).below).head.cell 0 _ rfl⟩
                | with_reducible exact ⟨((M8.out.later (Drew.once _).below).later HB6.out).mach.pages, ((M8.out.later (Drew.once _).below).later HB6.out).head.cell 0 _ rfl⟩)
              (first
                | (go_at_call 40; (with_reducible refine (KZ.out _).mono ?_); rintro e w7 ⟨rfl, hw7⟩; obtain rfl := hw7.symm; clear hw7)
                | (go_at_call 41; (try rw [pw]); (with_reducible refine (KT.out _ (M8.out.later (Drew.once _).below)).mono ?_); rintro e w6 ⟨v2, rfl, ho, hb⟩; obtain ⟨x2, cx2, rfl, _⟩ := ho.rd hn; have HB6 := Kp.mk hb; have HO6 := Kp.mk ho; clear ho hb))
            have M9 := Kp.mk ((M8.out.later (Drew.once _).below).later HB6.out)
            have HN2 : Kp (∀ j, j < W8.heap.size → (Value.slice x2 n cx2).ownBlock ≠ some j) := ⟨fun j hj e => absurd (own_far2 HO6.out e) (by have := (Drew.once W8).below.size; omega)⟩
            have hlt8 := M8.out.lt
            have HV : Kp ((Value.slice x2 n cx2).ownBlock ≠ some b) := ⟨HN2.out b hlt8⟩
            have HVK : Kp (∀ c ∈ W0.cs, (Value.slice x2 n cx2).ownBlock ≠ some c.1) := ⟨fun c hc => HN2.out _ (M8.out.tail.keep c hc).1.lt⟩
            have HO7 : Kp (OwnP w6 W0.heap.size (.slice x2 n cx2) n P2) := ⟨HO6.out.mono (Nat.le_trans M8.out.below.size (Drew.once W8).below.size)⟩
            clear cv fv cp i0 i1 i4 fp s0 s1 s2 z0 z1 z2 HN2 hlt8
            have cv := M9.out.mach.pages
            have fv := M9.out.mach.free 0
            have c17 := M9.out.mach.pc
            have f17 := M9.out.mach.free 17
            have s0 := M9.out.mach.st0
            have s1 := M9.out.mach.st1
            have s2 := M9.out.mach.st2
            have z0 := M9.out.mach.free 22
            have z1 := M9.out.mach.free 23
            have z2 := M9.out.mach.free 24
            have j0 := M9.out.head.cell 0 _ rfl
            go_wp2_with fail
            go_end0
            exact ⟨rfl, .slice x2 n cx2, ((M9.out.tail.page HO7.out HV.out HVK.out).go nx).stop 0 1 0⟩
          · have gz : (((lookF P n ad.toNat kz 1 : Nat) : Int) != 0) = true := by simp; omega
            have hr : r = ⟨P, q, 2, lookF P n ad.toNat kz 1⟩ := by rw [HR]; exact if_neg he
            have KT : Kp (∀ w', RSt ⟨W0.w, (g, insA io a d c' im, 67) :: W0.cs⟩ w' b v n P q k s c → Calls Tryz.prog 41 #[v, .int .u32 (ad.toNat : Int), .int .i64 (kz : Int), .int .u32 (ya.toNat : Int)] w' fun e w'' => e = .returned (.tuple #[.slice none 0 0, .int .i64 (lookF P n ad.toNat kz 1 : Nat), .int .i64 0]) ∧ w'' = w') := ⟨fun w' hm => by
              obtain ⟨a2, cap2, rfl, hrd⟩ := hm.own.rd hn
              exact ref_store_no a2 n cap2 P w' hrd ad.toNat kz ya.toNat ad.isLt HOK.out he⟩
            obtain ⟨fl, hfl⟩ : ∃ f, f = lookF P n ad.toNat kz 1 := ⟨_, rfl⟩
            rw [← hfl] at KT hr gz
            subst hr
            clear HR he hfl
            go_wp2_with (first
              | (go_at_call 36; (with_reducible refine (KW.out _).mono ?_); rintro e w4 ⟨rfl, hw4⟩; obtain rfl := hw4.symm; clear hw4))
            go_quiet (first
              | (go_at_call 40; (with_reducible refine (KZ.out _).mono ?_); exact fun _ _ h => ⟨h.1, ⟨_, h.2⟩⟩)
              | (go_at_call 41; (try rw [ps]); (with_reducible refine (KT.out _ (M8.out.later (below_drewN (Below.refl _ _) _))).mono ?_); exact fun _ _ h => ⟨h.1, ⟨_, h.2⟩⟩)
              | (go_at_call 41; (try rw [ps]); (with_reducible refine (KT.out _ M8.out).mono ?_); exact fun _ _ h => ⟨h.1, ⟨_, h.2⟩⟩))
            go_wp2_with (first
              | (go_at_call 35; (with_reducible refine (KB.out _ (M8.out.later (below_drewN (Below.refl _ _) _)) _).mono ?_); rintro e w5 ⟨rfl, hst⟩; have H5 := Kp.mk hst; clear hst))
            (try simp only [Exit.inBlock, Exit.then])
            refine bodyPost_ret (results_none rfl _ _ _) rfl ?_
            exact ⟨rfl, v, H5.out.tail⟩
      · by_cases o3 : io ≤ 53
        · have ge1 : decide (io ≥ 1) = true := decide_eq_true (by omega)
          have le15 : decide (io ≤ 15) = false := decide_eq_false (by omega)
          have n16 : (io == 16) = false := by rw [beq_eq_false_iff_ne]; omega
          have n17 : (io == 17) = false := by rw [beq_eq_false_iff_ne]; omega
          have n18 : (io == 18) = false := by rw [beq_eq_false_iff_ne]; omega
          have n19 : (io == 19) = false := by rw [beq_eq_false_iff_ne]; omega
          have n20 : (io == 20) = false := by rw [beq_eq_false_iff_ne]; omega
          have ge32 : decide (io ≥ 32) = true := decide_eq_true (by omega)
          have le34 : decide (io ≤ 34) = false := decide_eq_false (by omega)
          have ge35 : decide (io ≥ 35) = true := decide_eq_true (by omega)
          have le37 : decide (io ≤ 37) = false := decide_eq_false (by omega)
          have ge48 : decide (io ≥ 48) = true := decide_eq_true (by omega)
          have le53 : decide (io ≤ 53) = true := decide_eq_true (by omega)
          have n64 : (io == 64) = false := by rw [beq_eq_false_iff_ne]; omega
          have n54 : (io == 54) = false := by rw [beq_eq_false_iff_ne]; omega
          have n55 : (io == 55) = false := by rw [beq_eq_false_iff_ne]; omega
          have KT := Kp.mk (fun w' => ref_test_all io o1 o3 ya yd w')
          have HR : r = ⟨P, q.go (if (Alu.test io ya yd).1 then fr else nx), 0, 0⟩ := by
            rw [HC2.out, if_neg (by omega), if_pos (by omega), jmpV_test q io a d c' im nx o1 o3, ← HYD.out, ← HYA.out, ← HX.out, ← HFR.out]
          obtain ⟨t, ht⟩ : ∃ t, t = (Alu.test io ya yd).1 := ⟨_, rfl⟩
          rw [← ht] at KT HR
          clear HC2 ht o1 o2 o3
          cases t
          · have hr : r = ⟨P, q.go nx, 0, 0⟩ := HR
            subst hr
            clear HR
            go_wp2_with (first
              | (go_at_call 36; (with_reducible refine (KW.out _).mono ?_); rintro e w4 ⟨rfl, hw4⟩; obtain rfl := hw4.symm; clear hw4)
              | (go_at_call 42; (with_reducible refine (KT.out _).mono ?_); rintro e w6 ⟨rfl, hw6⟩; obtain rfl := hw6.symm; clear hw6))
            go_end0
            refine ⟨rfl, v, ?_⟩
            try simp only [pnx, px4, pfr, ps]
            exact ((M8.out.tail.go nx).stop 0 1 0)
          · have hr : r = ⟨P, q.go fr, 0, 0⟩ := HR
            subst hr
            clear HR
            go_wp2_with (first
              | (go_at_call 36; (with_reducible refine (KW.out _).mono ?_); rintro e w4 ⟨rfl, hw4⟩; obtain rfl := hw4.symm; clear hw4)
              | (go_at_call 42; (with_reducible refine (KT.out _).mono ?_); rintro e w6 ⟨rfl, hw6⟩; obtain rfl := hw6.symm; clear hw6))
            go_end0
            refine ⟨rfl, v, ?_⟩
            try simp only [pnx, px4, pfr, ps]
            exact ((M8.out.tail.go fr).stop 0 1 0)
        · have ho : io = 54 ∨ io = 55 := by omega
          clear o1 o2 o3
          rcases ho with rfl | rfl
          · have hr : r = ⟨P, (q.set a nx).go fr, 0, 0⟩ := by rw [HC2.out, HFR.out, HX.out]; rfl
            subst hr
            clear HC2
            go_wp2_with (first
              | (go_at_call 36; (with_reducible refine (KW.out _).mono ?_); rintro e w4 ⟨rfl, hw4⟩; obtain rfl := hw4.symm; clear hw4)
              | (go_at_call 38; (with_reducible refine (KS.out _ (M8.out) _).mono ?_); rintro e w5 ⟨rfl, hst⟩; have H5 := Kp.mk hst; clear hst; have c17 := H5.out.mach.pc; have f17 := H5.out.mach.free 17; have s0 := H5.out.mach.st0; have s1 := H5.out.mach.st1; have s2 := H5.out.mach.st2; have z0 := H5.out.mach.free 22; have z1 := H5.out.mach.free 23; have z2 := H5.out.mach.free 24; have j0 := H5.out.head.cell 0 _ rfl; have j4 := H5.out.head.cell 4 _ rfl))
            go_end0
            refine ⟨rfl, v, ?_⟩
            try simp only [pnx, px4, pfr, ps]
            exact ((H5.out.tail.go fr).stop 0 1 0)
          · have hr : r = ⟨P, q.go ad, 0, 0⟩ := by rw [HC2.out, HAD.out, HYD.out, HX.out]; rfl
            subst hr
            clear HC2
            go_wp2_with (first
              | (go_at_call 36; (with_reducible refine (KW.out _).mono ?_); rintro e w4 ⟨rfl, hw4⟩; obtain rfl := hw4.symm; clear hw4))
            go_end0
            refine ⟨rfl, v, ?_⟩
            try simp only [pnx, px4, pfr, ps]
            exact ((M8.out.tail.go ad).stop 0 1 0)
      · subst o1
        have hr : r = ⟨P, q.go nx, 1, im⟩ := HC2.out
        subst hr
        clear HC2
        go_wp2_with (first
          | (go_at_call 36; (with_reducible refine (KW.out _).mono ?_); rintro e w4 ⟨rfl, hw4⟩; obtain rfl := hw4.symm; clear hw4))
        go_end0
        exact ⟨rfl, v, ((M8.out.tail.go nx).stop 0 1 0).stop 1 1 im⟩
    · have gf : ((f : Int) != 0) = true := by simp; omega
      have hr : r = ⟨P, q, 2, f⟩ := by rw [HC.out, if_pos hf0]
      subst hr
      have KB := Kp.mk (ref6_fault HW.out.st f)
      clear HC HGD hf0
      go_wp2_with (first
        | (go_at_call 35; (with_reducible refine KB.out.mono ?_); rintro e w4 ⟨rfl, hst⟩; have HW4 := Kp.mk hst; clear hst))
      (try simp only [Exit.inBlock, Exit.then])
      refine bodyPost_ret (results_none rfl _ _ _) rfl ?_
      exact ⟨rfl, v, HW4.out⟩
end Go.Proofs.YtadikbmbadldpaaGreatDoor
