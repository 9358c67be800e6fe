/- A case by value, boxed: its plan, its port, its data. -/
import Derived.Test.YtjlgnbjfgeppcaaDoorPortFixed
namespace Go.Proofs.YtjlgnbjfgeppcaaDoor
open Go Go.RowKit
set_option linter.unusedVariables false

/-- A case: a plan, a port, data, and three slices. -/
structure CaseV where
  p : PortP
  a : Option Addr
  n : Nat
  cap : Nat
  g : Int
  D : ByteArray
  pa : Option Addr
  pn : Nat
  pc : Nat
  qa : Option Addr
  qn : Nat
  qc : Nat
  ma : Option Addr
  mn : Nat
  mc : Nat
def CaseV.row (x : CaseV) : Array Value := #[.int .i64 x.p.kind, .int .i64 x.p.size, .int .i64 x.p.depth, .int .i64 x.p.refresh, .slice x.a x.n x.cap, .int .i64 x.g, .string x.D, .slice x.pa x.pn x.pc, .slice x.qa x.qn x.qc, .slice x.ma x.mn x.mc]
abbrev caseA (k s d r : Int) (a : Option Addr) (n cap : Nat) (g : Int) (D : ByteArray) (pa : Option Addr) (pn pc : Nat) (qa : Option Addr) (qn qc : Nat) (ma : Option Addr) (mn mc : Nat) : Array Value :=
  #[.int .i64 k, .int .i64 s, .int .i64 d, .int .i64 r, .slice a n cap, .int .i64 g, .string D, .slice pa pn pc, .slice qa qn qc, .slice ma mn mc]
/-- The cells of a case that a call reads. -/
def CS (w : World) (b : Nat) (k s d r : Int) (a : Option Addr) (n cap : Nat) (g : Int) (D : ByteArray) : Prop :=
  w.cell? ⟨b, 0, none⟩ = some (.int .i64 k) ∧ w.cell? ⟨b, 1, none⟩ = some (.int .i64 s) ∧ w.cell? ⟨b, 2, none⟩ = some (.int .i64 d) ∧ w.cell? ⟨b, 3, none⟩ = some (.int .i64 r) ∧
  w.cell? ⟨b, 4, none⟩ = some (.slice a n cap) ∧ w.cell? ⟨b, 5, none⟩ = some (.int .i64 g) ∧ w.cell? ⟨b, 6, none⟩ = some (.string D)
theorem cs_of {w : World} {b : Nat} {k s d r : Int} {a : Option Addr} {n cap : Nat} {g : Int} {D : ByteArray} {pa : Option Addr} {pn pc : Nat} {qa : Option Addr} {qn qc : Nat} {ma : Option Addr} {mn mc : Nat} {T : TypeId}
    (h : Blk w b (caseA k s d r a n cap g D pa pn pc qa qn qc ma mn mc) T) : CS w b k s d r a n cap g D :=
  ⟨h.cell 0 _ rfl, h.cell 1 _ rfl, h.cell 2 _ rfl, h.cell 3 _ rfl, h.cell 4 _ rfl, h.cell 5 _ rfl, h.cell 6 _ rfl⟩
/-- A port in a variable: its cells, its messages. -/
structure PV (W : World) (vb : Nat) (a : Option Addr) (m c : Nat) (g : Int) (l : List ByteArray) : Prop where
  blk : Blk W vb #[.slice a m c, .int .i64 g] 29
  rd : RdS W a m c l
theorem PV.later {W W' : World} {vb : Nat} {a : Option Addr} {m c : Nat} {g : Int} {l : List ByteArray} (h : PV W vb a m c g l) (hb : Below W.heap.size W W') : PV W' vb a m c g l := ⟨h.blk.later hb, h.rd.later hb⟩
theorem freeC_le (p : PortP) (l : List ByteArray) (g : Int) : freeC p l g ≤ 20 := by
  unfold freeC
  have := portC_or p l g
  cases decide (portC p l g = 0) <;> cases decide (p.kind < 3) <;> simp <;> omega
theorem mostC_le (p : PortP) : mostC p ≤ 20 := by unfold mostC; cases decide (planC p = 0) <;> simp
theorem bl3 (w : World) (c : Array Value) (T : TypeId) : Below w.heap.size w (w.alloc (.cells c T)).drew := (below_alloc w _).trans ((Drew.once _).below.mono (below_alloc w _).size)
theorem new3 (w : World) (c : Array Value) (T : TypeId) : Blk (w.alloc (.cells c T)).drew w.heap.size c T := Blk.new w c T
theorem RdS.far2 {w : World} {B : Nat} {a : Option Addr} {n c : Nat} {l : List ByteArray} (h : OwnS w B (.slice a n c) l) (b : Nat) (x0 x1 : Value) (hb : b < B) (hn : l.length ≤ 8796093022208) (hs : ∀ s ∈ l, s.size < 9223372036854775808) : RdS ((w.setCell ⟨b, 0, none⟩ x0).setCell ⟨b, 1, none⟩ x1) a n c l :=
  (h.set2 b x0 x1 hb).rdn hn hs
end Go.Proofs.YtjlgnbjfgeppcaaDoor
