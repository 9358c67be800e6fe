/- errors.As of a sentinel at a target of type **api.At: it finds none; api.Place. Walked. -/
import Derived.Test.YtjlgnbjfgeppcaaDoorIsWalk
import Derived.Stop.Asserts
import Derived.LaidHandle
namespace Go.Proofs.YtjlgnbjfgeppcaaDoor
open Go Go.RowKit Go.Extern.Stop Go.Stop Go.Extern
set_option linter.unusedVariables false

theorem as_nil (t : Value) (w : World) :
    Calls Tryd.prog 71 #[.nilIface, t] w fun e w' => e = .returned (.bool false) ∧ w' = w := by
  go_enter Tryd.func71, Tryd.ntmps71
  go_wp2
  go_ret
  exact ⟨rfl, rfl⟩
theorem asValueOf (t : Addr) (w : World) : (ReflectliteValue.unpack (.iface 124 (.pointer (some t)))).run Tryd.prog w
    = .ok (.agg #[.pointer (some ⟨21, 124, none⟩), .pointer (some ⟨w.heap.size, 0, none⟩), .int .u64 150]) (w.alloc (.cells #[.pointer (some t)] 124)) := by kernel_rfl
theorem asType (a : Addr) (w : World) : (ReflectliteValue.methodAny (ReflectliteValue.valueError "reflectlite.Value.Type" 0) (fun t _ _ _ => ReflectliteType.toType t) #[.agg #[.pointer (some ⟨21, 124, none⟩), .pointer (some a), .int .u64 150]]).run Tryd.prog w
    = .ok (.iface 144 (.agg #[.pointer (some ⟨21, 124, none⟩)])) w := by kernel_rfl
theorem asMethodKind (h : Value) (w : World) : (Go.method 291 144 (.agg #[h]) "Kind").run Tryd.prog w = .ok (95, h) w := by kernel_rfl
theorem asKind1 (w : World) : ((ReflectliteType.abiMethod fun t => (fun a : Nat => Value.int IntKind.u8 (a : Int)) <$> Rtype.kind t) #[.pointer (some ⟨21, 124, none⟩)]).run Tryd.prog w = .ok (.int .u8 22) w := by kernel_rfl
theorem asKind2 (w : World) : ((ReflectliteType.abiMethod fun t => (fun a : Nat => Value.int IntKind.u8 (a : Int)) <$> Rtype.kind t) #[.pointer (some ⟨21, 122, none⟩)]).run Tryd.prog w = .ok (.int .u8 22) w := by kernel_rfl
theorem rlm (z : Sem Value) (f : TypeId → Addr → Nat → Nat → Sem Value) (v : Value) :
    ReflectliteValue.method z f #[v] = (do match ← ReflectliteValue.parts v with | none => z | some (t, a, fl) => f t a fl (fl % 32)) := rfl
theorem asParts (a : Addr) (w : World) : (ReflectliteValue.parts (.agg #[.pointer (some ⟨21, 124, none⟩), .pointer (some a), .int .u64 150])).run Tryd.prog w = .ok (some (124, a, 150)) w := by kernel_rfl
theorem asIsNil (a p : Addr) (W : World) (ha : W.cell? a = some (.pointer (some p))) :
    (ReflectliteValue.method (ReflectliteValue.valueError "reflectlite.Value.IsNil" 0) ReflectliteValue.isNil #[.agg #[.pointer (some ⟨21, 124, none⟩), .pointer (some a), .int .u64 150]]).run Tryd.prog W = .ok (.bool false) W := by
  rw [rlm]
  simp only [Sem.run_bind, asParts, Result.andThen]
  simp [ReflectliteValue.isNil, loadVar, isAgg, underlying, Tryd.underlying124, ha, Result.andThen]
theorem asMethodElem (h : Value) (w : World) : (Go.method 291 144 (.agg #[h]) "Elem").run Tryd.prog w = .ok (106, .agg #[h]) w := by kernel_rfl
theorem asMethodImplements (h : Value) (w : World) : (Go.method 291 144 (.agg #[h]) "Implements").run Tryd.prog w = .ok (107, .agg #[h]) w := by kernel_rfl
theorem asMethodAssignable (h : Value) (w : World) : (Go.method 291 144 (.agg #[h]) "AssignableTo").run Tryd.prog w = .ok (104, .agg #[h]) w := by kernel_rfl
theorem asElem (w : World) : (ReflectliteType.method ReflectliteType.elem #[.agg #[.pointer (some ⟨21, 124, none⟩)]]).run Tryd.prog w = .ok (.iface 144 (.agg #[.pointer (some ⟨21, 122, none⟩)])) w := by kernel_rfl
theorem asImplements (w : World) : (ReflectliteType.relation "Implements" ReflectliteType.implements_ #[.agg #[.pointer (some ⟨21, 122, none⟩)], .iface 144 (.agg #[.pointer (some ⟨21, 31, none⟩)])]).run Tryd.prog w = .ok (.bool true) w := by kernel_rfl
theorem asAssignable (w : World) : (ReflectliteType.relation "AssignableTo" ReflectliteType.assignableTo #[.agg #[.pointer (some ⟨21, 158, none⟩)], .iface 144 (.agg #[.pointer (some ⟨21, 122, none⟩)])]).run Tryd.prog w = .ok (.bool false) w := by kernel_rfl
theorem noAsE (v : Value) (xT : TypeId) (w : World) : (Instr.typeAssert (.iface 158 v) xT 155 true).run Tryd.prog w = .ok (.tuple #[.nilIface, .bool false]) w := run_typeAssert_lacksB Tryd.underlying155 (by kernel_rfl) (by kernel_rfl) v xT w

/-- The handle of the type error, where errors.As looks for it. -/
def TypeVar (w : World) : Prop := w.cell? ⟨20, 0, none⟩ = some (.iface 144 (.agg #[.pointer (some ⟨21, 31, none⟩)]))
theorem TypeVar.later {w w' : World} (h : TypeVar w) (hb : Below w.heap.size w w') : TypeVar w' :=
  (hb.cell (p := ⟨20, 0, none⟩) (World.block_lt_of_cell? w _ h)).trans h

set_option maxRecDepth 100000 in
set_option maxHeartbeats 4000000 in
theorem as_miss (e t : Addr) (old : Value) (w : World) (hg : TypeVar w) (ht0 : w.cell? t = some old) :
    Calls Tryd.prog 71 #[errv e, .iface 124 (.pointer (some t))] w fun ev w' => ev = .returned (.bool false) ∧ w'.cell? t = some old ∧ Below w.heap.size w w' := by
  have h6 := @run_callFunc_extern Tryd.prog 75 _ (fun args => ReflectliteValue.unpack (args.getD 0 (.tuple #[]))) Tryd.func75 (by kernel_rfl) (by kernel_rfl) (by kernel_rfl) (by kernel_rfl)
  have h7 := @run_callFunc_extern Tryd.prog 76 _ (ReflectliteValue.methodAny (ReflectliteValue.valueError "reflectlite.Value.Type" 0) (fun t _ _ _ => ReflectliteType.toType t)) Tryd.func76 (by kernel_rfl) (by kernel_rfl) (by kernel_rfl) (by kernel_rfl)
  have h8 := @run_callFunc_extern Tryd.prog 77 _ (ReflectliteValue.method (ReflectliteValue.valueError "reflectlite.Value.IsNil" 0) ReflectliteValue.isNil) Tryd.func77 (by kernel_rfl) (by kernel_rfl) (by kernel_rfl) (by kernel_rfl)
  have h27 := @run_callFunc_extern Tryd.prog 95 _ (ReflectliteType.abiMethod fun t => do pure (.int .u8 (← Rtype.kind t))) Tryd.func95 (by kernel_rfl) (by kernel_rfl) (by kernel_rfl) (by kernel_rfl)
  have h37 := @run_callFunc_extern Tryd.prog 106 _ (ReflectliteType.method ReflectliteType.elem) Tryd.func106 (by kernel_rfl) (by kernel_rfl) (by kernel_rfl) (by kernel_rfl)
  have h38 := @run_callFunc_extern Tryd.prog 107 _ (ReflectliteType.relation "Implements" ReflectliteType.implements_) Tryd.func107 (by kernel_rfl) (by kernel_rfl) (by kernel_rfl) (by kernel_rfl)
  have h10 := @run_callFunc_extern Tryd.prog 72 _ ReflectliteType.typeOf Tryd.func72 (by kernel_rfl) (by kernel_rfl) (by kernel_rfl) (by kernel_rfl)
  have h35 := @run_callFunc_extern Tryd.prog 104 _ (ReflectliteType.relation "AssignableTo" ReflectliteType.assignableTo) Tryd.func104 (by kernel_rfl) (by kernel_rfl) (by kernel_rfl) (by kernel_rfl)
  have tO := isTypeOf
  have mA := asMethodAssignable
  have aA := asAssignable
  have f6 := asValueOf
  have f7 := asType
  have mK := asMethodKind
  have mE := asMethodElem
  have mI := asMethodImplements
  have k1 := asKind1
  have k2 := asKind2
  have eE := asElem
  have iI := asImplements
  have nA := noAsE
  have uE := noUnwrapE
  have vE := noUnwrapsE
  unfold TypeVar at hg
  have n8 := asIsNil ⟨w.heap.size, 0, none⟩ t ((w.alloc (.cells #[.pointer (some t)] 124)).alloc (.cells #[.pointer (some ⟨21, 124, none⟩), .pointer (some ⟨w.heap.size, 0, none⟩), .int .u64 150] 136)) (by simp)
  have hlt : 20 < w.heap.size := World.block_lt_of_cell? w _ hg
  have hg2 : ((w.alloc (.cells #[.pointer (some t)] 124)).alloc (.cells #[.pointer (some ⟨21, 124, none⟩), .pointer (some ⟨w.heap.size, 0, none⟩), .int .u64 150] 136)).cell? ⟨20, 0, none⟩ = some (.iface 144 (.agg #[.pointer (some ⟨21, 31, none⟩)])) := by
    rw [World.cell?_alloc_lt _ _ ⟨20, 0, none⟩ (by simp; omega), World.cell?_alloc_lt _ _ ⟨20, 0, none⟩ hlt]; exact hg
  have htl : t.block < w.heap.size := World.block_lt_of_cell? w _ ht0
  have HT := Kp.mk ht0
  have HL := Kp.mk htl
  clear ht0 htl
  go_enter Tryd.func71, Tryd.ntmps71
  go_wp2
  refine wp_loop_rounds 1 ?_
  rw [rounds_succ]
  go_wp2
  go_ret
  have b1 := fun (o : Obj) => (Below.refl w.heap.size w).alloc (Nat.le_refl _) o
  have b2 := fun (o o' : Obj) => (b1 o).alloc (b1 o).size o'
  have b3 := fun (o o' o'' : Obj) => (b2 o o').alloc (b2 o o').size o''
  exact ⟨rfl, ((b3 _ _ _).cell HL.out).trans HT.out, b3 _ _ _⟩
set_option maxRecDepth 100000 in
/-- api.Place of a sentinel. -/
theorem api_place (e : Addr) (w : World) (hg : TypeVar w) :
    Calls Tryd.prog 58 #[errv e] w fun ev w' => ev = .returned (.int .i64 (-1)) ∧ Below w.heap.size w w' := by
  have HG := Kp.mk hg
  clear hg
  go_enter Tryd.func58, Tryd.ntmps58
  go_wp2_with fail
  refine (as_miss e _ (.pointer none) _ (HG.out.later ((Below.refl _ _).alloc (Nat.le_refl _) _)) (by rw [World.cell?_alloc_at _ _ _ _ rfl]; rfl)).mono ?_
  rintro e w1 ⟨rfl, _, hb⟩
  have HB := Kp.mk hb
  clear hb
  go_wp2
  go_ret
  have b1 := (Below.refl w.heap.size w).alloc (Nat.le_refl _) (.cells #[.pointer none] 122)
  exact ⟨rfl, b1.trans (HB.out.mono b1.size)⟩
theorem api_place_nil (w : World) :
    Calls Tryd.prog 58 #[.nilIface] w fun ev w' => ev = .returned (.int .i64 (-1)) ∧ Below w.heap.size w w' := by
  go_enter Tryd.func58, Tryd.ntmps58
  go_wp2_with fail
  refine (as_nil _ _).mono ?_
  rintro e w1 ⟨rfl, rfl⟩
  go_wp2
  go_ret
  exact ⟨rfl, (Below.refl w.heap.size w).alloc (Nat.le_refl _) _⟩
/-- The listed handle is the one that errors.As looks for. -/
theorem typeVar_of_handles {W : World} {hs : List (String × DataW Unit)} (h : handlesMet Tryd.prog hs W) (hm : ("errors.errorType", (Rows.laid_errors_errorType : DataW Unit)) ∈ hs) : TypeVar W := by
  have h0 := h _ hm
  have hf : (Rows.laid_errors_errorType : DataW Unit).funcsIn? = none := by kernel_rfl
  simp only [hf] at h0
  obtain ⟨name, u, ty, h1, h2, h3, h4, h5⟩ := h0
  have e1 : (Rows.laid_errors_errorType : DataW Unit).handleName? = some [101, 114, 114, 111, 114] := by kernel_rfl
  rw [e1] at h1
  obtain rfl := Option.some.inj h1
  have e2 : (Tryd.prog.cutTypes.find? (·.1 == "internal/reflectlite.rtype")).map (·.2) = some 144 := by kernel_rfl
  rw [e2] at h2
  obtain rfl := Option.some.inj h2
  have hall : ((List.range Tryd.prog.types.size).all fun t => !(Tryd.prog.rowNamed t [101, 114, 114, 111, 114]) || t == 31) = true := by kernel_rfl
  have h6 := List.all_eq_true.1 hall ty (List.mem_range.2 h3)
  rw [h4] at h6
  obtain rfl : ty = 31 := by simpa using h6
  have hg : Tryd.prog.globalNamed "errors.errorType" = some 20 := by kernel_rfl
  unfold TypeVar
  have := World.var?_cell hg h5 0
  simpa [typeHandle] using this
end Go.Proofs.YtjlgnbjfgeppcaaDoor
