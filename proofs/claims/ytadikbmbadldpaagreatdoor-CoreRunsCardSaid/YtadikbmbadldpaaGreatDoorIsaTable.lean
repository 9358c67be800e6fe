
/- The table of isa, made: rows, walked. -/
import Derived.Test.YtadikbmbadldpaaGreatDoorIsaRows
namespace Go.Proofs.YtadikbmbadldpaaGreatDoor
open Go Go.RowKit
set_option linter.unusedVariables false

/-- The library's table of blanks stands. -/
def BlankT (w : World) : Prop := Lib.TabIs Tryz.prog w "strings.asciiSpace" .u8 Lib.asciiSpaceTab
theorem BlankT.later {w w' : World} (h : BlankT w) (hb : Below w.heap.size w w') : BlankT w' := by
  unfold BlankT Lib.TabIs World.var? at h ⊢
  rw [hg157] at h ⊢
  simp only [Option.bind_some] at h ⊢
  cases hg : w.heap[lays157_ren.g 0]? with
  | none => rw [hg] at h; simp at h
  | some o =>
    have hlt : lays157_ren.g 0 < w.heap.size := (Array.getElem?_eq_some_iff.1 hg).1
    rw [hb.block _ hlt]
    exact h
theorem ascii_of {l : List UInt8} (h : l.all (fun b => decide (b.toNat < 128)) = true) : ∀ (j : Nat) b, l[j]? = some b → b.toNat < 128 := fun j b hb =>
  of_decide_eq_true (List.all_eq_true.1 h b (List.mem_of_getElem? hb))
/-- The table as it grows. -/
structure TabI (w wr : World) (ob : Nat) (L : List (List Value)) (v : Value) : Prop where
  var : Blk wr ob #[v] 172
  own : OwnR wr 164 3 w.heap.size v L
  far : v.ownBlock ≠ some ob
  base : w.heap.size ≤ ob
  below : Below w.heap.size w wr
  tab : BlankT w
def addW (form op : Nat) (l : List UInt8) : List (List Value) := addR form op (Lib.fields l) (Lib.fields l).length
theorem isa_add_st (form op : Nat) (l : List UInt8) {s : ByteArray} (hl : s.data.toList = l) {w wr : World} {ob : Nat} {v : Value} {L X : List (List Value)} (h : TabI w wr ob L v) (hX : Kp (L = X)) (hL : X.length ≤ 1000) (hs : s.size < 4294967281) (hascii : s.data.toList.all (fun b => decide (b.toNat < 128)) = true) (hf8 : (Lib.fields s.data.toList).length ≤ 100) (ho8 : op ≤ 1000) (fi oi : Int) (hfi : fi = (form : Int)) (hoi : oi = (op : Int)) :
    Calls Tryz.prog 98 #[.int .i64 fi, .int .i64 oi, .string s, .pointer (some ⟨ob, 0, none⟩)] wr fun e w' => e = .returned (.tuple #[]) ∧ ∃ v' L', Kp (TabI w w' ob L' v') ∧ Kp (L' = X ++ addW form op l) := by
  subst hfi hoi hl
  rw [← hX.out] at hL ⊢
  exact (isa_add form op s _ rfl hs (ascii_of hascii) hf8 ho8 ob w.heap.size v L hL wr h.var h.own h.far h.base (h.tab.later h.below)).mono fun e w' ⟨he, v', h1, h2, h3, h4⟩ => ⟨he, v', _, ⟨⟨h1, h2, h3, h.base, h.below.trans h4, h.tab⟩⟩, ⟨rfl⟩⟩
theorem TabI.start (w : World) (h : BlankT w) : TabI w (w.alloc (.cells #[.slice none 0 0] 172)) w.heap.size [] (.slice none 0 0) :=
  ⟨Blk.new _ _ _, OwnR.nil _ _ _ _, by simp [Value.ownBlock], Nat.le_refl _, below_alloc _ _, h⟩
def lit1 : List UInt8 := [97, 100, 100, 32, 115, 117, 98, 32, 97, 110, 100, 32, 111, 114, 32, 120, 111, 114, 32, 115, 104, 108, 32, 115, 104, 114, 32, 115, 97, 114, 32, 109, 117, 108, 32, 100, 105, 118, 117, 32, 100, 105, 118, 115, 32, 114, 101, 109, 117, 32, 114, 101, 109, 115, 32, 115, 108, 116, 117, 32, 115, 108, 116, 115]
def lit2 : List UInt8 := [97, 100, 100, 105]
def lit3 : List UInt8 := [97, 110, 100, 105, 32, 111, 114, 105, 32, 120, 111, 114, 105]
def lit4 : List UInt8 := [108, 117, 105]
def lit5 : List UInt8 := [108, 119, 32, 108, 104, 32, 108, 98, 32, 115, 119, 32, 115, 104, 32, 115, 98]
def lit6 : List UInt8 := [98, 101, 113, 32, 98, 110, 101, 32, 98, 108, 116, 117, 32, 98, 108, 116, 115, 32, 98, 103, 101, 117, 32, 98, 103, 101, 115]
def lit7 : List UInt8 := [106, 97, 108]
def lit8 : List UInt8 := [106, 114]
def lit9 : List UInt8 := [115, 121, 115]
/-- The table. -/
def tabL : List (List Value) := [] ++ addW 1 1 lit1 ++ addW 2 16 lit2 ++ addW 3 17 lit3 ++ addW 4 20 lit4 ++ addW 2 32 lit5 ++ addW 2 48 lit6 ++ addW 5 54 lit7 ++ addW 6 55 lit8 ++ addW 7 64 lit9
def nmL : List (List UInt8) := Lib.fields lit1 ++ Lib.fields lit2 ++ Lib.fields lit3 ++ Lib.fields lit4 ++ Lib.fields lit5 ++ Lib.fields lit6 ++ Lib.fields lit7 ++ Lib.fields lit8 ++ Lib.fields lit9
theorem tabL_len : tabL.length = 35 := by kernel_rfl
theorem tabL_eq : tabL = (List.range 35).map fun i => [Value.int .i64 (rowsT.getD i (0, 0)).1, .string ⟨(nmL.getD i []).toArray⟩, .int .i64 ((rowsT.getD i (0, 0)).2 : Int)] := by kernel_rfl
theorem tabL_at (i : Nat) (hi : i < 35) : ∃ nm : ByteArray, tabL.getD i [] = [Value.int .i64 (rowsT.getD i (0, 0)).1, .string nm, .int .i64 ((rowsT.getD i (0, 0)).2 : Int)] := by
  refine ⟨⟨(nmL.getD i []).toArray⟩, ?_⟩
  rw [tabL_eq, List.getD_eq_getElem?_getD, List.getElem?_map, List.getElem?_range hi, Option.map_some, Option.getD_some]
theorem TabI.re {w wr : World} {ob : Nat} {L L' : List (List Value)} {v : Value} (h : TabI w wr ob L v) (e : L = L') : TabI w wr ob L' v := e ▸ h
set_option maxRecDepth 100000 in
set_option maxHeartbeats 4000000 in
theorem isa_rows (w : World) (ht : BlankT w) : Calls Tryz.prog 96 #[] w fun e w' => ∃ v, e = .returned v ∧ OwnR w' 164 3 w.heap.size v tabL ∧ Below w.heap.size w w' := by
  obtain ⟨w1, e1⟩ : ∃ w1, w1 = w.alloc (.cells #[.slice none 0 0] 172) := ⟨_, rfl⟩
  have H0 : Kp (TabI w w1 w.heap.size [] (.slice none 0 0)) := ⟨by rw [e1]; exact TabI.start w ht⟩
  have E1 := Kp.mk e1
  clear ht e1
  go_enter Tryz.func96, Tryz.ntmps96
  go_wp2_with fail
  rw [← E1.out]
  with_reducible refine (isa_add_st 1 1 lit1 rfl H0.out ⟨rfl⟩ (by decide +kernel) (by decide +kernel) (by decide +kernel) (by decide +kernel) (by decide +kernel) 1 1 rfl rfl).mono ?_
  rintro e x1 ⟨rfl, u1, L1, H1, X1⟩
  clear H0 E1
  go_wp2_with fail
  with_reducible refine (isa_add_st 2 16 lit2 rfl H1.out X1 (by decide +kernel) (by decide +kernel) (by decide +kernel) (by decide +kernel) (by decide +kernel) 2 16 rfl rfl).mono ?_
  rintro e x2 ⟨rfl, u2, L2, H2, X2⟩
  clear H1 X1
  go_wp2_with fail
  with_reducible refine (isa_add_st 3 17 lit3 rfl H2.out X2 (by decide +kernel) (by decide +kernel) (by decide +kernel) (by decide +kernel) (by decide +kernel) 3 17 rfl rfl).mono ?_
  rintro e x3 ⟨rfl, u3, L3, H3, X3⟩
  clear H2 X2
  go_wp2_with fail
  with_reducible refine (isa_add_st 4 20 lit4 rfl H3.out X3 (by decide +kernel) (by decide +kernel) (by decide +kernel) (by decide +kernel) (by decide +kernel) 4 20 rfl rfl).mono ?_
  rintro e x4 ⟨rfl, u4, L4, H4, X4⟩
  clear H3 X3
  go_wp2_with fail
  with_reducible refine (isa_add_st 2 32 lit5 rfl H4.out X4 (by decide +kernel) (by decide +kernel) (by decide +kernel) (by decide +kernel) (by decide +kernel) 2 32 rfl rfl).mono ?_
  rintro e x5 ⟨rfl, u5, L5, H5, X5⟩
  clear H4 X4
  go_wp2_with fail
  with_reducible refine (isa_add_st 2 48 lit6 rfl H5.out X5 (by decide +kernel) (by decide +kernel) (by decide +kernel) (by decide +kernel) (by decide +kernel) 2 48 rfl rfl).mono ?_
  rintro e x6 ⟨rfl, u6, L6, H6, X6⟩
  clear H5 X5
  go_wp2_with fail
  with_reducible refine (isa_add_st 5 54 lit7 rfl H6.out X6 (by decide +kernel) (by decide +kernel) (by decide +kernel) (by decide +kernel) (by decide +kernel) 5 54 rfl rfl).mono ?_
  rintro e x7 ⟨rfl, u7, L7, H7, X7⟩
  clear H6 X6
  go_wp2_with fail
  with_reducible refine (isa_add_st 6 55 lit8 rfl H7.out X7 (by decide +kernel) (by decide +kernel) (by decide +kernel) (by decide +kernel) (by decide +kernel) 6 55 rfl rfl).mono ?_
  rintro e x8 ⟨rfl, u8, L8, H8, X8⟩
  clear H7 X7
  go_wp2_with fail
  with_reducible refine (isa_add_st 7 64 lit9 rfl H8.out X8 (by decide +kernel) (by decide +kernel) (by decide +kernel) (by decide +kernel) (by decide +kernel) 7 64 rfl rfl).mono ?_
  rintro e x9 ⟨rfl, u9, L9, H9, X9⟩
  clear H8 X8
  have hcell := H9.out.var.cell 0 _ rfl
  have HE : L9 = tabL := X9.out
  clear X9
  go_wp2_with fail
  go_ret
  exact ⟨u9, rfl, by rw [← HE]; exact H9.out.own, H9.out.below⟩
end Go.Proofs.YtadikbmbadldpaaGreatDoor
