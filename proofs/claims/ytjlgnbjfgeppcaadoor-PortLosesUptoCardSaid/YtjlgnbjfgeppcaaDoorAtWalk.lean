/- errors.Is, errors.As of an *api.At that wraps a sentinel; api.Code, api.Place of it: walked. -/
import Derived.Test.YtjlgnbjfgeppcaaDoorAsWalk
import Derived.Test.YtjlgnbjfgeppcaaDoorCodeWalk
namespace Go.Proofs.YtjlgnbjfgeppcaaDoor
open Go Go.RowKit Go.Extern.Stop Go.Stop Go.Extern
set_option linter.unusedVariables false

/-- An error that tells a place. -/
abbrev atv (p : Nat) : Value := .iface 122 (.pointer (some ⟨p, 0, none⟩))
/-- Where it lies: the place, the error it wraps. -/
structure AtAt (w : World) (p : Nat) (i : Int) (a : Addr) : Prop where
  place : w.cell? ⟨p, 0, none⟩ = some (.int .i64 i)
  err : w.cell? ⟨p, 1, none⟩ = some (errv a)
theorem AtAt.later {w w' : World} {p : Nat} {i : Int} {a : Addr} (h : AtAt w p i a) (hb : Below w.heap.size w w') : AtAt w' p i a :=
  ⟨(hb.cell (p := ⟨p, 0, none⟩) (World.block_lt_of_cell? _ ⟨p, 0, none⟩ h.place)).trans h.place, (hb.cell (p := ⟨p, 1, none⟩) (World.block_lt_of_cell? _ ⟨p, 1, none⟩ h.err)).trans h.err⟩
theorem noIsA (v : Value) (xT : TypeId) (w : World) : (Instr.typeAssert (.iface 122 v) xT 146 true).run Tryd.prog w = .ok (.tuple #[.nilIface, .bool false]) w := run_typeAssert_lacksB Tryd.underlying146 (by kernel_rfl) (by kernel_rfl) v xT w
theorem hasUnwrapA (v : Value) (xT : TypeId) (w : World) : (Instr.typeAssert (.iface 122 v) xT 149 true).run Tryd.prog w = .ok (.tuple #[.iface 122 v, .bool true]) w := run_typeAssert_hasB Tryd.underlying149 (by kernel_rfl) v xT w
theorem atMethodUnwrap (h : Value) (w : World) : (Go.method 291 122 h "Unwrap").run Tryd.prog w = .ok (99, h) w := by kernel_rfl
theorem atNotErr : 122 ≠ 158 := by decide
theorem at_unwrap (w : World) (p : Nat) (i : Int) (a : Addr) (h : AtAt w p i a) :
    Calls Tryd.prog 99 #[.pointer (some ⟨p, 0, none⟩)] w fun e w' => e = .returned (errv a) ∧ w' = w := by
  have h1 := h.err
  clear h
  go_enter Tryd.func99, Tryd.ntmps99
  go_wp2
  go_ret
  exact ⟨rfl, rfl⟩
set_option maxRecDepth 100000 in
set_option maxHeartbeats 4000000 in
/-- errors.Is of it: of what it wraps. -/
theorem is_at_same (p : Nat) (i : Int) (a : Addr) (w : World) (h : AtAt w p i a) :
    Calls Tryd.prog 66 #[atv p, errv a] w fun e w' => e = .returned (.bool true) ∧ w' = w := by
  obtain ⟨i', hi, hcmp⟩ := Option.map_eq_some_iff.1 isComp
  obtain ⟨j, hj, hjs⟩ := Option.map_eq_some_iff.1 isSize
  have h8 := @run_callFunc_extern Tryd.prog 72 _ Extern.ReflectliteType.typeOf Tryd.func72 (by kernel_rfl) (by kernel_rfl) (by kernel_rfl) (by kernel_rfl)
  have h32 := @run_callFunc_extern Tryd.prog 105 _ comparableE Tryd.func105 (by kernel_rfl) (by kernel_rfl) (by kernel_rfl) (by kernel_rfl)
  have tT := isTypeOf
  have cT := isComparable
  have mR := isMethodComparable
  have nA := noIsA
  have uA := hasUnwrapA
  have mU := atMethodUnwrap
  have heq := run_eql_iface_ptr_same (P := Tryd.prog) w a Tryd.underlying31 Tryd.underlying158 hi hcmp hj
  have heq2 := run_eql_iface_types (P := Tryd.prog) 122 158 (.pointer (some ⟨p, 0, none⟩)) (.pointer (some a)) Tryd.underlying31 atNotErr
  have KU := Kp.mk (at_unwrap w p i a h)
  clear h
  go_enter Tryd.func66, Tryd.ntmps66
  go_wp2
  refine wp_loop_rounds 2 ?_
  rw [rounds_succ]
  go_wp2_with (go_at_call 99; refine KU.out.mono ?_; rintro e w' ⟨rfl, hw⟩; obtain rfl := hw.symm)
  rw [rounds_succ]
  go_wp2
  go_ret
  exact ⟨rfl, rfl⟩
set_option maxRecDepth 100000 in
set_option maxHeartbeats 4000000 in
/-- .. of another sentinel. -/
theorem is_at_other (p : Nat) (i : Int) (a b : Addr) (ca cb : Array Value) (ta tb : TypeId) (w : World) (h : AtAt w p i a) (hne : a ≠ b) (ha : w.heap[a.block]? = some (.cells ca ta (0, 0))) (hb : w.heap[b.block]? = some (.cells cb tb (0, 0))) :
    Calls Tryd.prog 66 #[atv p, errv b] w fun e w' => e = .returned (.bool false) ∧ w' = w := by
  obtain ⟨i', hi, hcmp⟩ := Option.map_eq_some_iff.1 isComp
  obtain ⟨j, hj, hjs⟩ := Option.map_eq_some_iff.1 isSize
  have h8 := @run_callFunc_extern Tryd.prog 72 _ Extern.ReflectliteType.typeOf Tryd.func72 (by kernel_rfl) (by kernel_rfl) (by kernel_rfl) (by kernel_rfl)
  have h32 := @run_callFunc_extern Tryd.prog 105 _ comparableE Tryd.func105 (by kernel_rfl) (by kernel_rfl) (by kernel_rfl) (by kernel_rfl)
  have tT := isTypeOf
  have cT := isComparable
  have mR := isMethodComparable
  have nA := noIsA
  have uA := hasUnwrapA
  have mU := atMethodUnwrap
  have nE := noIsE
  have uE := noUnwrapE
  have vE := noUnwrapsE
  have heq := run_eql_iface_ptr_other (P := Tryd.prog) w Tryd.underlying31 Tryd.underlying158 hi hcmp hj (by rw [hjs]; decide) hne ha hb
  have heq2 := run_eql_iface_types (P := Tryd.prog) 122 158 (.pointer (some ⟨p, 0, none⟩)) (.pointer (some b)) Tryd.underlying31 atNotErr
  have KU := Kp.mk (at_unwrap w p i a h)
  clear h
  go_enter Tryd.func66, Tryd.ntmps66
  go_wp2
  refine wp_loop_rounds 2 ?_
  rw [rounds_succ]
  go_wp2_with (go_at_call 99; refine KU.out.mono ?_; rintro e w' ⟨rfl, hw⟩; obtain rfl := hw.symm)
  rw [rounds_succ]
  go_wp2
  go_ret
  exact ⟨rfl, rfl⟩
/-- errors.Is by the codes. -/
theorem is_at_code {A : Nat → Addr} {w : World} (hE : Errs w allCodes A) (p : Nat) (i : Int) (c k : Nat) (h : AtAt w p i (A c)) (hc1 : 1 ≤ c) (hc : c ≤ 20) (hk1 : 1 ≤ k) (hk : k ≤ 20) :
    Calls Tryd.prog 66 #[atv p, errv (A k)] w fun e w' => e = .returned (.bool (decide (c = k))) ∧ w' = w := by
  by_cases e : c = k
  · subst e
    simp only [decide_true]
    exact is_at_same p i _ _ h
  · obtain ⟨ca, ta, ha⟩ := hE.row c (mem_all hc1 hc)
    obtain ⟨cb, tb, hb⟩ := hE.row k (mem_all hk1 hk)
    have e' : decide (c = k) = false := decide_eq_false e
    rw [e']
    exact is_at_other p i (A c) (A k) ca cb ta tb w h (hE.ne c (mem_all hc1 hc) k (mem_all hk1 hk) e) ha hb
set_option maxRecDepth 100000 in
theorem api_code2_at {A : Nat → Addr} (w : World) (hE : Errs w allCodes A) (p : Nat) (i : Int) (c : Nat) (hat : AtAt w p i (A c)) (hc1 : 11 ≤ c) (hc : c ≤ 20) :
    Calls Tryd.prog 67 #[atv p] w fun e w' => e = .returned (.int .i64 (c : Int)) ∧ w' = w := by
  obtain ⟨bk, hbk⟩ : ∃ bk : Nat → Bool, bk = fun k => decide (c = k) := ⟨_, rfl⟩
  have HC : Kp (∀ k, 1 ≤ k → k ≤ 20 → Calls Tryd.prog 66 #[atv p, errv (A k)] w fun e w' => e = .returned (.bool (bk k)) ∧ w' = w) := ⟨fun k h1 h2 => by rw [hbk]; exact is_at_code hE p i c k hat (by omega) hc h1 h2⟩
  have HB : Kp (∀ k, bk k = true → c = k) := ⟨fun k h => by rw [hbk] at h; exact of_decide_eq_true h⟩
  have HF : Kp (∀ k, bk k = false → c ≠ k) := ⟨fun k h => by rw [hbk] at h; exact of_decide_eq_false h⟩
  have hcell := hE.cell
  have E11 := hcell 11 (by decide)
  have E12 := hcell 12 (by decide)
  have E13 := hcell 13 (by decide)
  have E14 := hcell 14 (by decide)
  have E15 := hcell 15 (by decide)
  have E16 := hcell 16 (by decide)
  have E17 := hcell 17 (by decide)
  have E18 := hcell 18 (by decide)
  have E19 := hcell 19 (by decide)
  have E20 := hcell 20 (by decide)
  simp only [errVar] at E11 E12 E13 E14 E15 E16 E17 E18 E19 E20
  have HX := Kp.mk (And.intro hc1 hc)
  clear hbk hcell hE hc1 hc hat
  go_enter Tryd.func67, Tryd.ntmps67
  go_wp2_with (go_at_call 66; refine (HC.out _ (by decide) (by decide)).mono ?_; rintro e w' ⟨rfl, rfl⟩)
  all_goals go_ret
  all_goals first
    | (have h := HB.out _ (by assumption); exact ⟨ret_int (by rw [h]; rfl), rfl⟩)
    | (exfalso; have hx := HX.out; have h11 := HF.out 11 (by assumption); have h12 := HF.out 12 (by assumption); have h13 := HF.out 13 (by assumption); have h14 := HF.out 14 (by assumption); have h15 := HF.out 15 (by assumption); have h16 := HF.out 16 (by assumption); have h17 := HF.out 17 (by assumption); have h18 := HF.out 18 (by assumption); have h19 := HF.out 19 (by assumption); have h20 := HF.out 20 (by assumption); omega)
set_option maxRecDepth 100000 in
/-- api.Code of it. -/
theorem api_code_at {A : Nat → Addr} (w : World) (hE : Errs w allCodes A) (p : Nat) (i : Int) (c : Nat) (hat : AtAt w p i (A c)) (hc1 : 1 ≤ c) (hc : c ≤ 20) :
    Calls Tryd.prog 49 #[atv p] w fun e w' => e = .returned (.int .i64 (c : Int)) ∧ w' = w := by
  obtain ⟨bk, hbk⟩ : ∃ bk : Nat → Bool, bk = fun k => decide (c = k) := ⟨_, rfl⟩
  have HC : Kp (∀ k, 1 ≤ k → k ≤ 20 → Calls Tryd.prog 66 #[atv p, errv (A k)] w fun e w' => e = .returned (.bool (bk k)) ∧ w' = w) := ⟨fun k h1 h2 => by rw [hbk]; exact is_at_code hE p i c k hat (by omega) hc h1 h2⟩
  have HB : Kp (∀ k, bk k = true → c = k) := ⟨fun k h => by rw [hbk] at h; exact of_decide_eq_true h⟩
  have HF : Kp (∀ k, bk k = false → c ≠ k) := ⟨fun k h => by rw [hbk] at h; exact of_decide_eq_false h⟩
  have HC2 : Kp (11 ≤ c → Calls Tryd.prog 67 #[atv p] w fun e w' => e = .returned (.int .i64 (c : Int)) ∧ w' = w) := ⟨fun h => api_code2_at w hE p i c hat h hc⟩
  have hcell := hE.cell
  have E1 := hcell 1 (by decide)
  have E2 := hcell 2 (by decide)
  have E3 := hcell 3 (by decide)
  have E4 := hcell 4 (by decide)
  have E5 := hcell 5 (by decide)
  have E6 := hcell 6 (by decide)
  have E7 := hcell 7 (by decide)
  have E8 := hcell 8 (by decide)
  have E9 := hcell 9 (by decide)
  have E10 := hcell 10 (by decide)
  simp only [errVar] at E1 E2 E3 E4 E5 E6 E7 E8 E9 E10
  have HX := Kp.mk (And.intro hc1 hc)
  clear hbk hcell hE hc1 hc hat
  go_enter Tryd.func49, Tryd.ntmps49
  go_wp2_with (first
    | (go_at_call 66; refine (HC.out _ (by decide) (by decide)).mono ?_; rintro e w' ⟨rfl, rfl⟩)
    | (go_at_call 67; refine (HC2.out ?_).mono ?_; (have hx := HX.out; have h1 := HF.out 1 (by assumption); have h2 := HF.out 2 (by assumption); have h3 := HF.out 3 (by assumption); have h4 := HF.out 4 (by assumption); have h5 := HF.out 5 (by assumption); have h6 := HF.out 6 (by assumption); have h7 := HF.out 7 (by assumption); have h8 := HF.out 8 (by assumption); have h9 := HF.out 9 (by assumption); have h10 := HF.out 10 (by assumption); omega); rintro e w' ⟨rfl, rfl⟩))
  all_goals go_ret
  all_goals first
    | exact ⟨rfl, rfl⟩
    | (have h := HB.out _ (by assumption); exact ⟨ret_int (by rw [h]; rfl), rfl⟩)
theorem atTypeOf (v : Value) (w : World) : (Extern.ReflectliteType.typeOf #[.iface 122 v]).run Tryd.prog w = .ok (.iface 144 (.agg #[.pointer (some ⟨21, 122, none⟩)])) w := by kernel_rfl
theorem atAssignable (w : World) : (ReflectliteType.relation "AssignableTo" ReflectliteType.assignableTo #[.agg #[.pointer (some ⟨21, 122, none⟩)], .iface 144 (.agg #[.pointer (some ⟨21, 122, none⟩)])]).run Tryd.prog w = .ok (.bool true) w := by kernel_rfl
theorem atValueOf (q : Addr) (w : World) : (ReflectliteValue.unpack (.iface 122 (.pointer (some q)))).run Tryd.prog w
    = .ok (.agg #[.pointer (some ⟨21, 122, none⟩), .pointer (some ⟨w.heap.size, 0, none⟩), .int .u64 150]) (w.alloc (.cells #[.pointer (some q)] 122)) := by kernel_rfl
theorem atElemType (w : World) : (Rtype.elem? 124).run Tryd.prog w = .ok (some 122) w := by kernel_rfl
theorem atMk (t : Addr) (w : World) : (ReflectliteValue.mk 122 t ReflectliteValue.flagAddr).run Tryd.prog w = .ok (.agg #[.pointer (some ⟨21, 122, none⟩), .pointer (some t), .int .u64 406]) w := by kernel_rfl
theorem atElem (a t : Addr) (W : World) (ha : W.cell? a = some (.pointer (some t))) :
    (ReflectliteValue.method (ReflectliteValue.valueError "reflectlite.Value.Elem" 0) ReflectliteValue.elem #[.agg #[.pointer (some ⟨21, 124, none⟩), .pointer (some a), .int .u64 150]]).run Tryd.prog W = .ok (.agg #[.pointer (some ⟨21, 122, none⟩), .pointer (some t), .int .u64 406]) W := by
  rw [rlm]
  simp only [Sem.run_bind, asParts, Result.andThen]
  simp [ReflectliteValue.elem, loadVar, isAgg, underlying, Tryd.underlying124, ha, Result.andThen, atElemType, atMk]
theorem atParts (t : Addr) (f : Int) (w : World) (hf : f = 150 ∨ f = 406) : (ReflectliteValue.parts (.agg #[.pointer (some ⟨21, 122, none⟩), .pointer (some t), .int .u64 f])).run Tryd.prog w = .ok (some (122, t, f.toNat)) w := by
  rcases hf with rfl | rfl <;> kernel_rfl
theorem atDirect (w : World) : (Rtype.directlyAssignable 122 122).run Tryd.prog w = .ok true w := by kernel_rfl
theorem atSize (w : World) : (sizeOf 122).run Tryd.prog w = .ok 1 w := by kernel_rfl
theorem atSet (t b q : Addr) (old : Value) (W : World) (ht : W.cell? t = some old) (hf : W.frozen? t = false) (hb : W.cell? b = some (.pointer (some q))) :
    (ReflectliteValue.set #[.agg #[.pointer (some ⟨21, 122, none⟩), .pointer (some t), .int .u64 406], .agg #[.pointer (some ⟨21, 122, none⟩), .pointer (some b), .int .u64 150]]).run Tryd.prog W = .ok (.tuple #[]) (W.setCell t (.pointer (some q))) := by
  have h0 : t.add 0 = t := by cases t; unfold Addr.add; split <;> simp_all
  have hst : (store t (.pointer (some q))).run Tryd.prog W = .ok () (W.setCell t (.pointer (some q))) := by
    rw [run_store Tryd.prog W t (.pointer (some q)) _ rfl, ht, hf]; rfl
  have p1 := atParts t 406 W (.inr rfl)
  have p2 := atParts b 150 W (.inl rfl)
  change Sem.run Tryd.prog (bind (ReflectliteValue.parts _) _) W = _
  simp only [Array.getLit, List.getElem_toArray, List.getElem_cons_zero, List.getElem_cons_succ, Sem.run_bind, p1, p2, Result.andThen]
  simp [loadVar, isAgg, underlying, Tryd.underlying122, hb, atDirect, storeVar, atSize, storeCells, Value.cells, h0, hst, Result.andThen, ReflectliteValue.flagAddr]
end Go.Proofs.YtjlgnbjfgeppcaaDoor
