/- Messages and reports: slices that are read; equality with themselves; the law's sameMsgs and sameReports at equals. -/
import Derived.Test.YtjlgnbjfgeppcaaDoorPortTold
import Derived.Test.YtjlgnbjfgeppcaaDoorQuietLoad
import Derived.DeepKeys
import Derived.Laws.StructEq
namespace Go.Proofs.YtjlgnbjfgeppcaaDoor
open Go Go.RowKit
set_option linter.unusedVariables false

theorem plainInt : Tryd.prog.plainKey 3 = true := by kernel_rfl
theorem plainStr : Tryd.prog.plainKey 9 = true := by kernel_rfl
theorem plainU32 : Tryd.prog.plainKey 114 = true := by kernel_rfl
structure MsgV where
  port : Int
  data : ByteArray
def MsgV.row (m : MsgV) : List Value := [.int .i64 m.port, .string m.data]
structure RepV where
  kind : Int
  proc : Int
  code : BitVec 32
  pc : BitVec 32
def RepV.row (m : RepV) : List Value := [.int .i64 m.kind, .int .i64 m.proc, .int .u32 (m.code.toNat : Int), .int .u32 (m.pc.toNat : Int)]
/-- Slices of rows of these sizes. -/
structure RdRows (w : World) (k : Nat) (a : Option Addr) (n cap : Nat) (R : Nat → List Value) : Prop where
  fits : n ≤ cap
  bound : n ≤ 5864062014805
  nil : a = none → cap = 0
  cells : 0 < n → ∃ b off, a = some ⟨b, off, none⟩ ∧ ∀ i, i < n → w.rangeAt b (off + i * k) (R i)
theorem RdRows.later {w w1 : World} {k : Nat} {a : Option Addr} {n cap : Nat} {R : Nat → List Value} (h : RdRows w k a n cap R) (hb : Below w.heap.size w w1) : RdRows w1 k a n cap R :=
  ⟨h.fits, h.bound, h.nil, fun hn => by
    obtain ⟨b, off, e, hc⟩ := h.cells hn
    exact ⟨b, off, e, fun i hi => srange_later (hc i hi) hb⟩⟩
theorem fieldsMsg : (Tryd.prog.fieldsOf 101).toList.map (fun f => (f.type, f.offset, f.name == "_")) = [(3, 0, false), (9, 1, false)] := by kernel_rfl
theorem undMsg : Tryd.prog.underlying 101 = some (.struct (Tryd.prog.fieldsOf 101)) := by kernel_rfl
theorem heldMsg : Tryd.prog.stoodInHeld 101 = false := by kernel_rfl
theorem fieldsRep : (Tryd.prog.fieldsOf 116).toList.map (fun f => (f.type, f.offset, f.name == "_")) = [(3, 0, false), (3, 1, false), (114, 2, false), (114, 3, false)] := by kernel_rfl
theorem undRep : Tryd.prog.underlying 116 = some (.struct (Tryd.prog.fieldsOf 116)) := by kernel_rfl
theorem heldRep : Tryd.prog.stoodInHeld 116 = false := by kernel_rfl
theorem eqInt (d : Nat) (w : World) (x : Int) : (Op.equalIn (d + 2) 3 (.int .i64 x) (.int .i64 x)).run Tryd.prog w = .ok true w := by
  rw [run_equalIn_int (P := Tryd.prog) w (d + 1) 3 .i64 .i64 x x Tryd.underlying3]; simp
theorem eqU32 (d : Nat) (w : World) (x : Int) : (Op.equalIn (d + 2) 114 (.int .u32 x) (.int .u32 x)).run Tryd.prog w = .ok true w := by
  rw [run_equalIn_int (P := Tryd.prog) w (d + 1) 114 .u32 .u32 x x Tryd.underlying114]; simp
theorem eqStr (d : Nat) (w : World) (s : ByteArray) : (Op.equalIn (d + 2) 9 (.string s) (.string s)).run Tryd.prog w = .ok true w := by
  rw [run_equalIn_string (P := Tryd.prog) w (d + 1) 9 s s Tryd.underlying9]; simp
/-- Fields that are each equal to themselves. -/
theorem eqFields_self (d : Nat) (cs : Array Value) (w : World) : ∀ fs : List Field, (∀ f ∈ fs, f.name ≠ "_" ∧ ∃ v, (part f.type cs f.offset).run Tryd.prog w = .ok v w ∧ (Op.equalIn d f.type v v).run Tryd.prog w = .ok true w) → (Op.eqFields d cs cs fs).run Tryd.prog w = .ok true w
  | [], _ => by simp [Op.eqFields]
  | f :: fs, h => by
    obtain ⟨hn, v, h1, h2⟩ := h f (by simp)
    have ih := eqFields_self d cs w fs (fun f hf => h f (by simp [hf]))
    simp only [Op.eqFields, hn, ne_eq, not_false_eq_true, if_true, Sem.run_bind, h1, Result.andThen_ok, h2, Bool.not_true, Bool.false_eq_true, if_false, ih]
theorem msg_eq (d : Nat) (m : MsgV) (w : World) : (Op.equalIn (d + 3) 101 (.agg m.row.toArray) (.agg m.row.toArray)).run Tryd.prog w = .ok true w := by
  rw [run_equalIn_struct w (d + 2) 101 _ _ undMsg heldMsg]
  have hf := fieldsMsg
  obtain ⟨f1, f2, e⟩ : ∃ f1 f2, (Tryd.prog.fieldsOf 101).toList = [f1, f2] := by
    match (Tryd.prog.fieldsOf 101).toList, (show (Tryd.prog.fieldsOf 101).toList.length = 2 by have := congrArg List.length hf; simpa using this) with
    | [f1, f2], _ => exact ⟨f1, f2, rfl⟩
  rw [e] at hf ⊢
  simp only [List.map_cons, List.map_nil, List.cons.injEq, Prod.mk.injEq, and_true] at hf
  obtain ⟨⟨t1, o1, n1⟩, ⟨t2, o2, n2⟩⟩ := hf
  refine eqFields_self (d + 2) _ w _ (fun f hfm => ?_)
  simp only [List.mem_cons, List.not_mem_nil, or_false] at hfm
  rcases hfm with rfl | rfl
  · exact ⟨by intro e; rw [e] at n1; simp at n1, _, by rw [t1, o1]; exact run_part_plain w plainInt rfl, by rw [t1]; exact eqInt d w m.port⟩
  · exact ⟨by intro e; rw [e] at n2; simp at n2, _, by rw [t2, o2]; exact run_part_plain w plainStr rfl, by rw [t2]; exact eqStr d w m.data⟩
theorem rep_eq (d : Nat) (m : RepV) (w : World) : (Op.equalIn (d + 3) 116 (.agg m.row.toArray) (.agg m.row.toArray)).run Tryd.prog w = .ok true w := by
  rw [run_equalIn_struct w (d + 2) 116 _ _ undRep heldRep]
  have hf := fieldsRep
  obtain ⟨f1, f2, f3, f4, e⟩ : ∃ f1 f2 f3 f4, (Tryd.prog.fieldsOf 116).toList = [f1, f2, f3, f4] := by
    match (Tryd.prog.fieldsOf 116).toList, (show (Tryd.prog.fieldsOf 116).toList.length = 4 by have := congrArg List.length hf; simpa using this) with
    | [f1, f2, f3, f4], _ => exact ⟨f1, f2, f3, f4, rfl⟩
  rw [e] at hf ⊢
  simp only [List.map_cons, List.map_nil, List.cons.injEq, Prod.mk.injEq, and_true] at hf
  obtain ⟨⟨t1, o1, n1⟩, ⟨t2, o2, n2⟩, ⟨t3, o3, n3⟩, ⟨t4, o4, n4⟩⟩ := hf
  refine eqFields_self (d + 2) _ w _ (fun f hfm => ?_)
  simp only [List.mem_cons, List.not_mem_nil, or_false] at hfm
  rcases hfm with rfl | rfl | rfl | rfl
  · exact ⟨by intro e; rw [e] at n1; simp at n1, _, by rw [t1, o1]; exact run_part_plain w plainInt rfl, by rw [t1]; exact eqInt d w m.kind⟩
  · exact ⟨by intro e; rw [e] at n2; simp at n2, _, by rw [t2, o2]; exact run_part_plain w plainInt rfl, by rw [t2]; exact eqInt d w m.proc⟩
  · exact ⟨by intro e; rw [e] at n3; simp at n3, _, by rw [t3, o3]; exact run_part_plain w plainU32 rfl, by rw [t3]; exact eqU32 d w m.code.toNat⟩
  · exact ⟨by intro e; rw [e] at n4; simp at n4, _, by rw [t4, o4]; exact run_part_plain w plainU32 rfl, by rw [t4]; exact eqU32 d w m.pc.toNat⟩
theorem guardMsg : Tryd.prog.eqGuardType Tryd.prog.depth 101 = false := by kernel_rfl
theorem guardRep : Tryd.prog.eqGuardType Tryd.prog.depth 116 = false := by kernel_rfl
theorem msgLen (m : MsgV) : (Tryd.prog.info? 101).map (·.size) = some m.row.length := by
  have h : (Tryd.prog.info? 101).map (·.size) = some 2 := by kernel_rfl
  exact h
theorem repLen (m : RepV) : (Tryd.prog.info? 116).map (·.size) = some m.row.length := by
  have h : (Tryd.prog.info? 116).map (·.size) = some 4 := by kernel_rfl
  exact h
set_option maxRecDepth 100000 in
set_option maxHeartbeats 4000000 in
theorem law_sameMsgs (a : Option Addr) (n cap : Nat) (b : Option Addr) (m cap2 : Nat) (C : Nat → MsgV) (w : World) (h : RdRows w 2 a n cap (fun i => (C i).row)) (h2 : RdRows w 2 b m cap2 (fun i => (C i).row)) (hnm : n = m) :
    Calls Tryd.prog 48 #[.slice a n cap, .slice b m cap2] w fun e w' => e = .returned (.bool true) ∧ Drew w w' := by
  have R5 := Kp.mk h
  have S5 := Kp.mk h2
  have hn := h.bound
  subst hnm
  clear h h2
  have hgp := guardMsg
  go_enter Tryd.func48, Tryd.ntmps48
  go_wp2
  go_loopw [5] (fun iv wr => ∃ k : Nat, k ≤ n ∧ iv = .int .i64 (k : Int) ∧ Kp (Drew w wr)) (fun iv _ => n - (intOf iv).toNat)
  case atStart => exact ⟨0, by omega, rfl, ⟨Drew.refl _⟩⟩
  case round =>
    obtain ⟨k, hk, rfl, HD⟩ := hrel
    by_cases hlt : k < n
    · have hb : decide ((k : Int) < n) = true := decide_eq_true (by omega)
      obtain ⟨b1, o1, ha1, hc1⟩ := R5.out.cells (by omega)
      obtain ⟨b2, o2, ha2, hc2⟩ := S5.out.cells (by omega)
      have x1 := srange_later (hc1 k hlt) HD.out.below
      have x2 := srange_later (hc2 k hlt) HD.out.below
      have he := fun w => msg_eq 9997 (C k) w
      have hl := msgLen (C k)
      obtain ⟨row, hrow⟩ : ∃ row, row = (C k).row := ⟨_, rfl⟩
      rw [← hrow] at x1 x2 he hl
      have M1 : Kp (∀ (w' : World), (∃ n, w' = wr.drewN n) → w'.rangeAt b1 (o1 + k * 2) row) := ⟨by
        rintro w' ⟨q, rfl⟩
        exact srange_later x1 (Drew.below ⟨q, rfl⟩)⟩
      have M2 : Kp (∀ (w' : World), (∃ n, w' = wr.drewN n) → w'.rangeAt b2 (o2 + k * 2) row) := ⟨by
        rintro w' ⟨q, rfl⟩
        exact srange_later x2 (Drew.below ⟨q, rfl⟩)⟩
      have HL := Kp.mk hl
      subst ha1
      subst ha2
      clear hc1 hc2 x1 x2 hl hrow
      go_wp2
      refine wp_region_quiet_lit (by kernel_rfl) (by kernel_rfl) ?_
      repeat (first
        | ((first
            | (refine quiet_load rfl 101 _ rfl b1 (o1 + k * 2) rfl row _ M1.out Tryd.underlying101 rfl HL.out ?_)
            | (refine quiet_load rfl 101 _ rfl b2 (o2 + k * 2) rfl row _ M2.out Tryd.underlying101 rfl HL.out ?_)); simp only [Act.put, List.setIfInBounds_toArray, List.set_cons_zero, List.set_cons_succ])
        | quiet_step (fail))
      refine wpQuiet_nil ?_
      rintro _ ⟨nq, rfl⟩
      have HD2 := Kp.mk (HD.out.trans ⟨nq, rfl⟩)
      go_wp2
      go_roundw
      case rel => exact ⟨k + 1, by omega, by go_num, HD2⟩
      case measure => simp [intOf]; omega
    · have : k = n := by omega
      subst this
      have hb : decide ((k : Int) < k) = false := by simp
      go_wp2
      go_ret
      exact ⟨rfl, HD.out⟩
set_option maxRecDepth 100000 in
set_option maxHeartbeats 4000000 in
theorem law_sameReports (a : Option Addr) (n cap : Nat) (b : Option Addr) (m cap2 : Nat) (C : Nat → RepV) (w : World) (h : RdRows w 4 a n cap (fun i => (C i).row)) (h2 : RdRows w 4 b m cap2 (fun i => (C i).row)) (hnm : n = m) :
    Calls Tryd.prog 45 #[.slice a n cap, .slice b m cap2] w fun e w' => e = .returned (.bool true) ∧ Drew w w' := by
  have R5 := Kp.mk h
  have S5 := Kp.mk h2
  have hn := h.bound
  subst hnm
  clear h h2
  have hgp := guardRep
  go_enter Tryd.func45, Tryd.ntmps45
  go_wp2
  go_loopw [5] (fun iv wr => ∃ k : Nat, k ≤ n ∧ iv = .int .i64 (k : Int) ∧ Kp (Drew w wr)) (fun iv _ => n - (intOf iv).toNat)
  case atStart => exact ⟨0, by omega, rfl, ⟨Drew.refl _⟩⟩
  case round =>
    obtain ⟨k, hk, rfl, HD⟩ := hrel
    by_cases hlt : k < n
    · have hb : decide ((k : Int) < n) = true := decide_eq_true (by omega)
      obtain ⟨b1, o1, ha1, hc1⟩ := R5.out.cells (by omega)
      obtain ⟨b2, o2, ha2, hc2⟩ := S5.out.cells (by omega)
      have x1 := srange_later (hc1 k hlt) HD.out.below
      have x2 := srange_later (hc2 k hlt) HD.out.below
      have he := fun w => rep_eq 9997 (C k) w
      have hl := repLen (C k)
      obtain ⟨row, hrow⟩ : ∃ row, row = (C k).row := ⟨_, rfl⟩
      rw [← hrow] at x1 x2 he hl
      have M1 : Kp (∀ (w' : World), (∃ n, w' = wr.drewN n) → w'.rangeAt b1 (o1 + k * 4) row) := ⟨by
        rintro w' ⟨q, rfl⟩
        exact srange_later x1 (Drew.below ⟨q, rfl⟩)⟩
      have M2 : Kp (∀ (w' : World), (∃ n, w' = wr.drewN n) → w'.rangeAt b2 (o2 + k * 4) row) := ⟨by
        rintro w' ⟨q, rfl⟩
        exact srange_later x2 (Drew.below ⟨q, rfl⟩)⟩
      have HL := Kp.mk hl
      subst ha1
      subst ha2
      clear hc1 hc2 x1 x2 hl hrow
      go_wp2
      refine wp_region_quiet_lit (by kernel_rfl) (by kernel_rfl) ?_
      repeat (first
        | ((first
            | (refine quiet_load rfl 116 _ rfl b1 (o1 + k * 4) rfl row _ M1.out Tryd.underlying116 rfl HL.out ?_)
            | (refine quiet_load rfl 116 _ rfl b2 (o2 + k * 4) rfl row _ M2.out Tryd.underlying116 rfl HL.out ?_)); simp only [Act.put, List.setIfInBounds_toArray, List.set_cons_zero, List.set_cons_succ])
        | quiet_step (fail))
      refine wpQuiet_nil ?_
      rintro _ ⟨nq, rfl⟩
      have HD2 := Kp.mk (HD.out.trans ⟨nq, rfl⟩)
      go_wp2
      go_roundw
      case rel => exact ⟨k + 1, by omega, by go_num, HD2⟩
      case measure => simp [intOf]; omega
    · have : k = n := by omega
      subst this
      have hb : decide ((k : Int) < k) = false := by simp
      go_wp2
      go_ret
      exact ⟨rfl, HD.out⟩
end Go.Proofs.YtjlgnbjfgeppcaaDoor
