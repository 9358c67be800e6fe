/- Slices of plans, of ports, of messages that are read; the error of lists of plans and ports. -/
import Derived.Test.YtjlgnbjfgeppcaaDoorCaseBase
import Derived.Test.YtjlgnbjfgeppcaaDoorAtHit
import Derived.Test.YtjlgnbjfgeppcaaDoorQueuePure
namespace Go.Proofs.YtjlgnbjfgeppcaaDoor
open Go Go.RowKit
set_option linter.unusedVariables false

theorem scell_later {w v : World} (hb : Below w.heap.size w v) {a : Addr} {x : Value} (h : w.cell? a = some x) : v.cell? a = some x := (hb.cell (p := a) (World.block_lt_of_cell? w a h)).trans h
/-- A slice of plans. -/
structure RdPl (w : World) (a : Option Addr) (n cap : Nat) (P : Nat → PortP) : Prop where
  fits : n ≤ cap
  bound : n ≤ 4398046511104
  nil : a = none → cap = 0
  cells : 0 < n → ∃ b off, a = some ⟨b, off, none⟩ ∧ ∀ i, i < n → w.rangeAt b (off + i * 4) (P i).row
theorem RdPl.later {w w1 : World} {a : Option Addr} {n cap : Nat} {P : Nat → PortP} (h : RdPl w a n cap P) (hb : Below w.heap.size w w1) : RdPl w1 a n cap P :=
  ⟨h.fits, h.bound, h.nil, fun hn => by
    obtain ⟨b, off, e, hc⟩ := h.cells hn
    exact ⟨b, off, e, fun i hi => srange_later (hc i hi) hb⟩⟩
theorem RdPl.at {w : World} {a : Option Addr} {n cap : Nat} {P : Nat → PortP} (h : RdPl w a n cap P) (i : Nat) (hi : i < n) : ∃ b off, a = some ⟨b, off, none⟩ ∧
    w.cell? ⟨b, off + i * 4, none⟩ = some (.int .i64 (P i).kind) ∧ w.cell? ⟨b, off + i * 4 + 1, none⟩ = some (.int .i64 (P i).size) ∧ w.cell? ⟨b, off + i * 4 + 2, none⟩ = some (.int .i64 (P i).depth) ∧ w.cell? ⟨b, off + i * 4 + 3, none⟩ = some (.int .i64 (P i).refresh) := by
  obtain ⟨b, off, e, hc⟩ := h.cells (by omega)
  exact ⟨b, off, e, hc i hi 0 _ rfl, hc i hi 1 _ rfl, hc i hi 2 _ rfl, hc i hi 3 _ rfl⟩
/-- A port as it lies in a slice. -/
structure PortV where
  a : Option Addr
  m : Nat
  c : Nat
  g : Int
  l : List ByteArray
def PortV.row (v : PortV) : List Value := [.slice v.a v.m v.c, .int .i64 v.g]
structure RdPo (w : World) (a : Option Addr) (n cap : Nat) (V : Nat → PortV) : Prop where
  fits : n ≤ cap
  bound : n ≤ 4398046511104
  nil : a = none → cap = 0
  cells : 0 < n → ∃ b off, a = some ⟨b, off, none⟩ ∧ ∀ i, i < n → w.rangeAt b (off + i * 2) (V i).row
  rd : ∀ i, i < n → RdS w (V i).a (V i).m (V i).c (V i).l
theorem RdPo.later {w w1 : World} {a : Option Addr} {n cap : Nat} {V : Nat → PortV} (h : RdPo w a n cap V) (hb : Below w.heap.size w w1) : RdPo w1 a n cap V :=
  ⟨h.fits, h.bound, h.nil, fun hn => by
    obtain ⟨b, off, e, hc⟩ := h.cells hn
    exact ⟨b, off, e, fun i hi => srange_later (hc i hi) hb⟩, fun i hi => (h.rd i hi).later hb⟩
theorem RdPo.at {w : World} {a : Option Addr} {n cap : Nat} {V : Nat → PortV} (h : RdPo w a n cap V) (i : Nat) (hi : i < n) : ∃ b off, a = some ⟨b, off, none⟩ ∧
    w.cell? ⟨b, off + i * 2, none⟩ = some (.slice (V i).a (V i).m (V i).c) ∧ w.cell? ⟨b, off + i * 2 + 1, none⟩ = some (.int .i64 (V i).g) := by
  obtain ⟨b, off, e, hc⟩ := h.cells (by omega)
  exact ⟨b, off, e, hc i hi 0 _ rfl, hc i hi 1 _ rfl⟩
/-- The error of lists of plans and ports: its code, its place. -/
inductive AllE (P : Nat → PortP) (V : Nat → PortV) (n m : Nat) : Nat → Int → Prop
  | len : n ≠ m → AllE P V n m 12 (-1)
  | plan (k : Nat) : n = m → k < n → planC (P k) ≠ 0 → (∀ i, i < k → planC (P i) = 0) → AllE P V n m 8 k
  | state (k : Nat) : n = m → (∀ i, i < n → planC (P i) = 0) → k < n → fitsP (P k) (V k).l (V k).g = false → (∀ i, i < k → fitsP (P i) (V i).l (V i).g = true) → AllE P V n m 9 k
  | good : n = m → (∀ i, i < n → planC (P i) = 0) → (∀ i, i < n → fitsP (P i) (V i).l (V i).g = true) → AllE P V n m 0 (-1)
theorem first_bad (p : Nat → Bool) (n : Nat) : (∀ i, i < n → p i = true) ∨ ∃ k, k < n ∧ p k = false ∧ ∀ i, i < k → p i = true := by
  induction n with
  | zero => exact .inl fun i hi => by omega
  | succ n ih =>
    rcases ih with h | ⟨k, hk, h1, h2⟩
    · by_cases hp : p n = true
      · refine .inl fun i hi => ?_
        rcases Nat.lt_or_ge i n with h' | h'
        · exact h i h'
        · have : i = n := by omega
          subst this; exact hp
      · exact .inr ⟨n, by omega, by simpa using hp, h⟩
    · exact .inr ⟨k, by omega, h1, h2⟩
theorem allE_ex (P : Nat → PortP) (V : Nat → PortV) (n m : Nat) : ∃ c pl, AllE P V n m c pl := by
  by_cases hnm : n = m
  · rcases first_bad (fun i => decide (planC (P i) = 0)) n with h | ⟨k, hk, h1, h2⟩
    · have h' : ∀ i, i < n → planC (P i) = 0 := fun i hi => of_decide_eq_true (h i hi)
      rcases first_bad (fun i => fitsP (P i) (V i).l (V i).g) n with g | ⟨k, hk, h1, h2⟩
      · exact ⟨_, _, .good hnm h' g⟩
      · exact ⟨_, _, .state k hnm h' hk h1 h2⟩
    · exact ⟨_, _, .plan k hnm hk (of_decide_eq_false h1) fun i hi => of_decide_eq_true (h2 i hi)⟩
  · exact ⟨_, _, .len hnm⟩
section
variable {P : Nat → PortP} {V : Nat → PortV} {n m c k : Nat} {pl : Int}
theorem allE_len (h : AllE P V n m c pl) (hn : n ≠ m) : c = 12 ∧ pl = -1 := by
  cases h with
  | len _ => exact ⟨rfl, rfl⟩
  | plan k h' => exact absurd h' hn
  | state k h' => exact absurd h' hn
  | good h' => exact absurd h' hn
theorem allE_plan (h : AllE P V n m c pl) (hn : n = m) (hk : k < n) (hp : planC (P k) ≠ 0) (hlo : ∀ i, i < k → planC (P i) = 0) : c = 8 ∧ pl = k := by
  cases h with
  | len h' => exact absurd hn h'
  | plan k' _ hk' hp' hlo' =>
    have : k' = k := by
      rcases Nat.lt_trichotomy k' k with e | e | e
      · exact absurd (hlo k' e) hp'
      · exact e
      · exact absurd (hlo' k e) hp
    subst this; exact ⟨rfl, rfl⟩
  | state k' _ h' => exact absurd (h' k hk) hp
  | good _ h' => exact absurd (h' k hk) hp
theorem allE_state (h : AllE P V n m c pl) (hn : n = m) (hp : ∀ i, i < n → planC (P i) = 0) (hk : k < n) (hf : fitsP (P k) (V k).l (V k).g = false) (hlo : ∀ i, i < k → fitsP (P i) (V i).l (V i).g = true) : c = 9 ∧ pl = k := by
  cases h with
  | len h' => exact absurd hn h'
  | plan k' _ hk' hp' => exact absurd (hp k' hk') hp'
  | state k' _ _ hk' hf' hlo' =>
    have : k' = k := by
      rcases Nat.lt_trichotomy k' k with e | e | e
      · have := hlo k' e; rw [hf'] at this; cases this
      · exact e
      · have := hlo' k e; rw [hf] at this; cases this
    subst this; exact ⟨rfl, rfl⟩
  | good _ _ h' => have := h' k hk; rw [hf] at this; cases this
theorem allE_good (h : AllE P V n m c pl) (hn : n = m) (hp : ∀ i, i < n → planC (P i) = 0) (hf : ∀ i, i < n → fitsP (P i) (V i).l (V i).g = true) : c = 0 ∧ pl = -1 := by
  cases h with
  | len h' => exact absurd hn h'
  | plan k' _ hk' hp' => exact absurd (hp k' hk') hp'
  | state k' _ _ hk' hf' => have := hf k' hk'; rw [hf'] at this; cases this
  | good _ _ _ => exact ⟨rfl, rfl⟩
end
abbrev errA (c : Nat) (pl : Int) : Array Value := #[.int .i64 (c : Int), .int .i64 pl]
theorem zvErr (w : World) : (zeroValue 89).run Tryd.prog w = .ok (.agg (errA 0 0)) w := by kernel_rfl
theorem errInfo (cs : Array Value) (h : cs.size = 2) : (Tryd.prog.info? 89).map (·.size) = some cs.size := by
  rw [h]; kernel_rfl
set_option maxRecDepth 100000 in
theorem ref_none (w : World) :
    Calls Tryd.prog 65 #[] w fun e w' => e = .returned (.agg (errA 0 (-1))) ∧ Below w.heap.size w w' := by
  have B := Kp.mk (below_alloc w (.cells (errA 0 (-1)) 89))
  have Z := Kp.mk (Blk.new w (errA 0 (-1)) 89)
  have hz := zvErr
  go_enter Tryd.func65, Tryd.ntmps65
  go_wp2
  exact bodyPost_ret (res1 (p := 0) (ty := 89) rfl _ rfl Z.out _ Tryd.underlying89 (errInfo _ rfl)) rfl ⟨rfl, B.out⟩
set_option maxRecDepth 100000 in
set_option maxHeartbeats 16000000 in
theorem ref_all (pa : Option Addr) (n pc : Nat) (P : Nat → PortP) (qa : Option Addr) (m qc : Nat) (V : Nat → PortV) (w : World) (h : RdPl w pa n pc P) (h2 : RdPo w qa m qc V) (c : Nat) (pl : Int) (hA : AllE P V n m c pl) :
    Calls Tryd.prog 64 #[.slice pa n pc, .slice qa m qc] w fun e w' => e = .returned (.agg (errA c pl)) ∧ Below w.heap.size w w' := by
  obtain ⟨w2, e2⟩ : ∃ w2, w2 = w.alloc (.cells (errA 0 0) 89) := ⟨_, rfl⟩
  have b2 : Below w.heap.size w w2 := by rw [e2]; exact below_alloc _ _
  have z2 : Blk w2 w.heap.size (errA 0 0) 89 := by rw [e2]; exact Blk.new _ _ _
  have HP := Kp.mk (h.later b2)
  have HQ := Kp.mk (h2.later b2)
  have hn := h.bound
  have E2 := Kp.mk e2
  have B2 := Kp.mk b2
  have Z2 := Kp.mk z2
  have HA := Kp.mk hA
  have hz := zvErr
  clear h h2 hA b2 z2 e2
  by_cases hnm : n = m
  · have hb0 : ((n : Int) != (m : Int)) = false := by simp [hnm]
    have HNM := Kp.mk hnm
    have hlq : m = n := hnm.symm
    clear hnm
    go_enter Tryd.func64, Tryd.ntmps64
    have HLQ := Kp.mk hlq
    clear hlq
    go_wp2
    rw [← E2.out]
    go_loopw [5] (fun iv wr => ∃ i : Nat, i ≤ n ∧ iv = .int .i64 (i : Int) ∧ Kp (∀ j, j < i → planC (P j) = 0) ∧ Kp (Below w2.heap.size w2 wr)) (fun iv _ => n - (intOf iv).toNat)
    case atStart => exact ⟨0, by omega, rfl, ⟨fun j hj => by omega⟩, ⟨Below.refl _ _⟩⟩
    case round =>
      obtain ⟨i, hi, rfl, HG, HB⟩ := hrel
      by_cases hlt : i < n
      · have hb : decide ((i : Int) < n) = true := decide_eq_true (by omega)
        have hb1 : (0 : Int) ≤ (i : Int) := by omega
        have hb2 : (i : Int) < (n : Int) := by omega
        obtain ⟨b, off, ha, c0, c1, c2, c3⟩ := (HP.out.later HB.out).at i hlt
        obtain ⟨⟨k, s, d, r⟩, hp⟩ : ∃ p, p = P i := ⟨_, rfl⟩
        rw [← hp] at c0 c1 c2 c3
        have c0 : wr.cell? ⟨b, off + i * 4, none⟩ = some (.int .i64 k) := c0
        have c1 : wr.cell? ⟨b, off + i * 4 + 1, none⟩ = some (.int .i64 s) := c1
        have c2 : wr.cell? ⟨b, off + i * 4 + 2, none⟩ = some (.int .i64 d) := c2
        have c3 : wr.cell? ⟨b, off + i * 4 + 3, none⟩ = some (.int .i64 r) := c3
        have HC := Kp.mk (ref_checkPlan ⟨k, s, d, r⟩ wr)
        have HPI := Kp.mk hp
        subst ha
        clear hp
        by_cases hbad : planC ⟨k, s, d, r⟩ = 0
        · have HG2 : Kp (∀ j, j < i + 1 → planC (P j) = 0) := ⟨fun j hj => by
            rcases Nat.lt_or_ge j i with h | h
            · exact HG.out j h
            · have : j = i := by omega
              subst this; rw [← HPI.out]; exact hbad⟩
          rw [hbad] at HC
          clear hbad
          go_wp2_with fail
          refine HC.out.mono ?_
          rintro e w3 ⟨rfl, hb⟩
          have HB3 := Kp.mk (HB.out.trans (hb.mono HB.out.size))
          clear hb c0 c1 c2 c3
          go_wp2_with fail
          go_roundw
          case rel => exact ⟨i + 1, by omega, by go_num, HG2, HB3⟩
          case measure => simp [intOf]; omega
        · obtain ⟨hc8, hpl8⟩ := allE_plan HA.out HNM.out hlt (by rw [← HPI.out]; exact hbad) HG.out
          subst hc8
          subst hpl8
          have hz : (((planC ⟨k, s, d, r⟩ : Nat) : Int) != 0) = true := by simpa using hbad
          obtain ⟨pc1, hpc⟩ : ∃ c, c = planC ⟨k, s, d, r⟩ := ⟨_, rfl⟩
          rw [← hpc] at HC hz
          clear hbad hpc
          go_wp2_with fail
          refine HC.out.mono ?_
          rintro e w3 ⟨rfl, hb⟩
          have HB3 := Kp.mk (HB.out.trans (hb.mono HB.out.size))
          have z0 := (Z2.out.later HB3.out).cell 0 _ rfl
          have z1 := (Z2.out.later HB3.out).cell 1 _ rfl
          have f0 := (Z2.out.later HB3.out).free 0
          have f1 := (Z2.out.later HB3.out).free 1
          have HZ := Kp.mk ((Z2.out.later HB3.out).set2 (.int .i64 8) (.int .i64 (i : Int)))
          have BF := Kp.mk (below_set2 (B2.out.trans (HB3.out.mono B2.out.size)) w.heap.size (.int .i64 8) (.int .i64 (i : Int)) (Nat.le_refl _))
          clear hb c0 c1 c2 c3
          go_wp2_with fail
          exact bodyPost_ret (res1 (p := 4) (ty := 89) rfl _ rfl HZ.out _ Tryd.underlying89 (errInfo _ rfl)) rfl ⟨rfl, BF.out⟩
      · have : i = n := by omega
        subst this
        have hb : decide ((i : Int) < i) = false := by simp
        obtain ⟨w4, ew⟩ : ∃ w4, w4 = wr := ⟨_, rfl⟩
        subst ew
        go_wp2
        go_loopw [6] (fun iv wr => ∃ j : Nat, j ≤ i ∧ iv = .int .i64 (j : Int) ∧ Kp (∀ x, x < j → fitsP (P x) (V x).l (V x).g = true) ∧ Kp (Below w2.heap.size w2 wr)) (fun iv _ => i - (intOf iv).toNat)
        case atStart => exact ⟨0, by omega, rfl, ⟨fun j hj => by omega⟩, HB⟩
        case round =>
          obtain ⟨j, hj, rfl, HF, HB1⟩ := hrel
          by_cases hlt : j < i
          · have hb' : decide ((j : Int) < i) = true := decide_eq_true (by omega)
            have hb1 : (0 : Int) ≤ (j : Int) := by omega
            have hb2 : (j : Int) < (i : Int) := by omega
            have hb3 : (j : Int) < (m : Int) := by have := HLQ.out; omega
            obtain ⟨b, off, ha, c0, c1, c2, c3⟩ := (HP.out.later HB1.out).at j hlt
            obtain ⟨b', off', ha', q0, q1⟩ := (HQ.out.later HB1.out).at j (by have := HLQ.out; omega)
            have hrd := (HQ.out.later HB1.out).rd j (by have := HLQ.out; omega)
            obtain ⟨⟨k, s, d, r⟩, hp⟩ : ∃ p, p = P j := ⟨_, rfl⟩
            obtain ⟨⟨va, vm, vc, vg, vl⟩, hv⟩ : ∃ v, v = V j := ⟨_, rfl⟩
            have HPV := Kp.mk (And.intro hp hv)
            rw [← hp] at c0 c1 c2 c3
            rw [← hv] at q0 q1 hrd
            have c0 : wr.cell? ⟨b, off + j * 4, none⟩ = some (.int .i64 k) := c0
            have c1 : wr.cell? ⟨b, off + j * 4 + 1, none⟩ = some (.int .i64 s) := c1
            have c2 : wr.cell? ⟨b, off + j * 4 + 2, none⟩ = some (.int .i64 d) := c2
            have c3 : wr.cell? ⟨b, off + j * 4 + 3, none⟩ = some (.int .i64 r) := c3
            have q0 : wr.cell? ⟨b', off' + j * 2, none⟩ = some (.slice va vm vc) := q0
            have q1 : wr.cell? ⟨b', off' + j * 2 + 1, none⟩ = some (.int .i64 vg) := q1
            have HR : Kp (RdS wr va vm vc vl) := ⟨hrd⟩
            have HC : Kp (∀ v, Below wr.heap.size wr v → Calls Tryd.prog 62 #[.agg (rowK k s d r), .agg (portA va vm vc vg)] v fun e w' => e = .returned (.bool (fitsP ⟨k, s, d, r⟩ vl vg)) ∧ Below wr.heap.size wr w') := ⟨fun v hv => (ref_fits ⟨k, s, d, r⟩ va vm vc vl vg v (HR.out.later hv)).mono fun e w' ⟨h1, h2⟩ => ⟨h1, hv.trans (h2.mono hv.size)⟩⟩
            have C0 := Kp.mk c0
            have C1 := Kp.mk c1
            have C2 := Kp.mk c2
            have C3 := Kp.mk c3
            have Q0 := Kp.mk q0
            have Q1 := Kp.mk q1
            have SQ : Kp (∀ v, Below wr.heap.size wr v → v.cell? ⟨b, off + j * 4, none⟩ = some (.int .i64 k) ∧ v.cell? ⟨b, off + j * 4 + 1, none⟩ = some (.int .i64 s) ∧ v.cell? ⟨b, off + j * 4 + 2, none⟩ = some (.int .i64 d) ∧ v.cell? ⟨b, off + j * 4 + 3, none⟩ = some (.int .i64 r) ∧ v.cell? ⟨b', off' + j * 2, none⟩ = some (.slice va vm vc) ∧ v.cell? ⟨b', off' + j * 2 + 1, none⟩ = some (.int .i64 vg)) := ⟨fun v hv =>
              ⟨scell_later hv C0.out, scell_later hv C1.out, scell_later hv C2.out, scell_later hv C3.out, scell_later hv Q0.out, scell_later hv Q1.out⟩⟩
            subst ha
            subst ha'
            clear hp hv hrd
            by_cases hfit : fitsP ⟨k, s, d, r⟩ vl vg = true
            · rw [hfit] at HC
              have HF2 : Kp (∀ x, x < j + 1 → fitsP (P x) (V x).l (V x).g = true) := ⟨fun x hx => by
                rcases Nat.lt_or_ge x j with h | h
                · exact HF.out x h
                · have : x = j := by omega
                  subst this; rw [← HPV.out.1, ← HPV.out.2]; exact hfit⟩
              clear hfit
              go_wp2_with fail
              go_region_held3 (fun v => v.cell? ⟨b, off + j * 4, none⟩ = some (.int .i64 k) ∧ v.cell? ⟨b, off + j * 4 + 1, none⟩ = some (.int .i64 s) ∧ v.cell? ⟨b, off + j * 4 + 2, none⟩ = some (.int .i64 d) ∧ v.cell? ⟨b, off + j * 4 + 3, none⟩ = some (.int .i64 r) ∧ v.cell? ⟨b', off' + j * 2, none⟩ = some (.slice va vm vc) ∧ v.cell? ⟨b', off' + j * 2 + 1, none⟩ = some (.int .i64 vg)) (first | exact SQ.out _ (Drew.once _).below | exact SQ.out _ HX1.out)
                ((go_at_call 62; (with_reducible refine (HC.out _ (Drew.once _).below).mono ?_); rintro e x1 ⟨rfl, hb⟩; have HX1 := Kp.mk hb; clear hb))
              have HB3 := Kp.mk (HB1.out.trans (HX1.out.mono HB1.out.size))
              clear c0 c1 c2 c3 q0 q1 SQ
              go_wp2_with fail
              go_roundw
              case rel => exact ⟨j + 1, by omega, by go_num, HF2, HB3⟩
              case measure => simp [intOf]; omega
            · have hfit' : fitsP ⟨k, s, d, r⟩ vl vg = false := by simpa using hfit
              obtain ⟨hc9, hpl9⟩ := allE_state (k := j) HA.out HNM.out HG.out hlt (by rw [← HPV.out.1, ← HPV.out.2]; exact hfit') HF.out
              subst hc9
              subst hpl9
              rw [hfit'] at HC
              clear hfit hfit'
              go_wp2_with fail
              go_region_held3 (fun v => v.cell? ⟨b, off + j * 4, none⟩ = some (.int .i64 k) ∧ v.cell? ⟨b, off + j * 4 + 1, none⟩ = some (.int .i64 s) ∧ v.cell? ⟨b, off + j * 4 + 2, none⟩ = some (.int .i64 d) ∧ v.cell? ⟨b, off + j * 4 + 3, none⟩ = some (.int .i64 r) ∧ v.cell? ⟨b', off' + j * 2, none⟩ = some (.slice va vm vc) ∧ v.cell? ⟨b', off' + j * 2 + 1, none⟩ = some (.int .i64 vg)) (first | exact SQ.out _ (Drew.once _).below | exact SQ.out _ HX1.out)
                ((go_at_call 62; (with_reducible refine (HC.out _ (Drew.once _).below).mono ?_); rintro e x1 ⟨rfl, hb⟩; have HX1 := Kp.mk hb; clear hb))
              have HB3 := Kp.mk (HB1.out.trans (HX1.out.mono HB1.out.size))
              have z0 := (Z2.out.later HB3.out).cell 0 _ rfl
              have z1 := (Z2.out.later HB3.out).cell 1 _ rfl
              have f0 := (Z2.out.later HB3.out).free 0
              have f1 := (Z2.out.later HB3.out).free 1
              have HZ := Kp.mk ((Z2.out.later HB3.out).set2 (.int .i64 9) (.int .i64 (j : Int)))
              have BF := Kp.mk (below_set2 (B2.out.trans (HB3.out.mono B2.out.size)) w.heap.size (.int .i64 9) (.int .i64 (j : Int)) (Nat.le_refl _))
              clear c0 c1 c2 c3 q0 q1 SQ
              go_wp2_with fail
              exact bodyPost_ret (res1 (p := 4) (ty := 89) rfl _ rfl HZ.out _ Tryd.underlying89 (errInfo _ rfl)) rfl ⟨rfl, BF.out⟩
          · have : j = i := by omega
            subst this
            obtain ⟨hc0, hpl0⟩ := allE_good HA.out HNM.out HG.out HF.out
            subst hc0
            subst hpl0
            have hb' : decide ((j : Int) < j) = false := by simp
            have HN := Kp.mk (ref_none wr)
            go_wp2_with fail
            refine HN.out.mono ?_
            rintro e w3 ⟨rfl, hb3⟩
            have HB3 := Kp.mk (HB1.out.trans (hb3.mono HB1.out.size))
            have z0 := (Z2.out.later HB3.out).cell 0 _ rfl
            have z1 := (Z2.out.later HB3.out).cell 1 _ rfl
            have f0 := (Z2.out.later HB3.out).free 0
            have f1 := (Z2.out.later HB3.out).free 1
            have HZ := Kp.mk ((Z2.out.later HB3.out).set2 (.int .i64 0) (.int .i64 (-1)))
            have BF := Kp.mk (below_set2 (B2.out.trans (HB3.out.mono B2.out.size)) w.heap.size (.int .i64 0) (.int .i64 (-1)) (Nat.le_refl _))
            clear hb3
            go_wp2_with fail
            exact bodyPost_ret (res1 (p := 4) (ty := 89) rfl _ rfl HZ.out _ Tryd.underlying89 (errInfo _ rfl)) rfl ⟨rfl, BF.out⟩
  · obtain ⟨hc12, hpl⟩ := allE_len HA.out hnm
    subst hc12
    subst hpl
    have hb0 : ((n : Int) != (m : Int)) = true := by simp; omega
    have HZ := Kp.mk (Z2.out.set2 (.int .i64 12) (.int .i64 (-1)))
    clear hnm
    go_enter Tryd.func64, Tryd.ntmps64
    go_wp2
    have Z3 := Kp.mk (Blk.new w (errA 12 (-1)) 89)
    exact bodyPost_ret (res1 (p := 4) (ty := 89) rfl _ rfl Z3.out _ Tryd.underlying89 (errInfo _ rfl)) rfl ⟨rfl, below_alloc _ _⟩
end Go.Proofs.YtjlgnbjfgeppcaaDoor
