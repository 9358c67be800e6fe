
/- The closure of isa.rows that grows the table, walked. -/
import Derived.Test.YtadikbmbadldpaaGreatDoorIsaFields
import Derived.Test.YtadikbmbadldpaaGreatDoorIsaPure
import Derived.Deep.DeepMust
namespace Go.Proofs.YtadikbmbadldpaaGreatDoor
open Go Go.RowKit
set_option linter.unusedVariables false

theorem str_fields (s : ByteArray) (w : World) (hs : s.size < 4294967281) (hascii : ∀ (j : Nat) b, s.data.toList[j]? = some b → b.toNat < 128) (htab : Lib.TabIs Tryz.prog w "strings.asciiSpace" .u8 Lib.asciiSpaceTab) :
    Calls Tryz.prog 99 #[.string s] w fun e w' =>
      e = .returned (.slice (some ⟨w.heap.size, 0, none⟩) (Lib.fields s.data.toList).length (Lib.fields s.data.toList).length) ∧ w' = w.alloc (.cells ((Lib.fields s.data.toList).map fun l => Value.string ⟨l.toArray⟩).toArray 9) :=
  Any.strings_Fields lays157 hi157 hg157 s w hs hascii htab
theorem infoRow : (Tryz.prog.info? 164).map (fun i => (i.zero, i.size, i.bytes)) = some (some (.agg #[.int .i64 0, .string ⟨#[]⟩, .int .i64 0]), 3, 32) := by kernel_rfl
/-- A row of the table as it lies. -/
def rowV (form op : Nat) (l : List UInt8) : List Value := [.int .i64 (op : Int), .string ⟨l.toArray⟩, .int .i64 (form : Int)]
/-- The rows of so many words. -/
def addR (form op : Nat) (F : List (List UInt8)) (k : Nat) : List (List Value) := (List.range k).map fun i => rowV form (op + i) (F.getD i [])
theorem addR_snoc (form op : Nat) (F : List (List UInt8)) (k : Nat) : addR form op F (k + 1) = addR form op F k ++ [rowV form (op + k) (F.getD k [])] := by
  unfold addR; rw [List.range_succ, List.map_append]; rfl
theorem addR_len (form op : Nat) (F : List (List UInt8)) (k : Nat) : (addR form op F k).length = k := by unfold addR; simp
theorem OwnR.keep {w w1 : World} {E : TypeId} {k B : Nat} {v : Value} {L : List (List Value)} (h : OwnR w E k B v L) (hk : ∀ g, g < w.heap.size → v.ownBlock = some g → w1.heap[g]? = w.heap[g]?) : OwnR w1 E k B v L := by
  refine ⟨⟨h.row.1, ?_⟩, h.len, h.one⟩
  rcases h.row.2 with h' | ⟨g, cap, cur, hv, hB, hh, r⟩
  · exact .inl h'
  · exact .inr ⟨g, cap, cur, hv, hB, (hk g (Array.getElem?_eq_some_iff.1 hh).1 (by rw [hv]; rfl)).trans hh, r⟩
/-- The captured variable, the table in it, the words. -/
structure AddI (w wr : World) (B ob : Nat) (L : List (List Value)) (fb : Nat) (F : List (List UInt8)) (v : Value) : Prop where
  var : Blk wr ob #[v] 172
  own : OwnR wr 164 3 B v L
  far : v.ownBlock ≠ some ob
  farF : v.ownBlock ≠ some fb
  words : Blk wr fb (F.map fun l => Value.string ⟨l.toArray⟩).toArray 9
  below : Below B w wr
set_option maxRecDepth 100000 in
set_option maxHeartbeats 4000000 in
theorem isa_add (form op : Nat) (s : ByteArray) (F : List (List UInt8)) (hF : Lib.fields s.data.toList = F) (hs : s.size < 4294967281) (hascii : ∀ (j : Nat) b, s.data.toList[j]? = some b → b.toNat < 128) (hf8 : F.length ≤ 100) (ho8 : op ≤ 1000) (ob B : Nat) (v : Value) (L : List (List Value)) (hL : L.length ≤ 1000) (w : World) (hv : Blk w ob #[v] 172) (hw : OwnR w 164 3 B v L) (hob : v.ownBlock ≠ some ob) (hB : B ≤ ob) (htab : Lib.TabIs Tryz.prog w "strings.asciiSpace" .u8 Lib.asciiSpaceTab) :
    Calls Tryz.prog 98 #[.int .i64 (form : Int), .int .i64 (op : Int), .string s, .pointer (some ⟨ob, 0, none⟩)] w fun e w' => e = .returned (.tuple #[]) ∧ ∃ v', Blk w' ob #[v'] 172 ∧ OwnR w' 164 3 B v' (L ++ addR form op F F.length) ∧ v'.ownBlock ≠ some ob ∧ Below B w w' := by
  have HC := Kp.mk (str_fields s w hs hascii htab)
  rw [hF] at HC
  have hlt := hv.lt
  obtain ⟨w1, e1⟩ : ∃ w1, w1 = w.alloc (.cells (F.map fun l => Value.string ⟨l.toArray⟩).toArray 9) := ⟨_, rfl⟩
  have b1 : Below w.heap.size w w1 := by rw [e1]; exact below_alloc _ _
  have HI : Kp (AddI w w1 B ob (L ++ addR form op F 0) w.heap.size F v) := ⟨⟨hv.later b1, by unfold addR; simpa using hw.later b1, hob, fun e => by have := (hw.lt e).2; omega, by rw [e1]; exact Blk.new _ _ _, b1.mono (by omega)⟩⟩
  have E1 := Kp.mk e1
  obtain ⟨fb, hfb⟩ : ∃ b, b = w.heap.size := ⟨_, rfl⟩
  have hfo : fb ≠ ob := by omega
  have HBB := Kp.mk hB
  rw [← hfb] at HI HC
  clear hv hw htab hs hascii e1 b1 hF hob hB hfb hlt
  go_enter Tryz.func98, Tryz.ntmps98
  go_wp2_with fail
  refine HC.out.mono ?_
  rintro e w2 ⟨rfl, hw2⟩
  rw [← E1.out] at hw2
  subst hw2
  go_wp2_with fail
  go_loopw [12] (fun iv wr => ∃ i : Nat, i ≤ F.length ∧ iv = .int .i64 (i : Int) ∧ Kp (∃ v, AddI w wr B ob (L ++ addR form op F i) fb F v)) (fun iv _ => F.length - (intOf iv).toNat)
  case atStart => exact ⟨0, by omega, rfl, ⟨⟨v, HI.out⟩⟩⟩
  case round =>
    obtain ⟨i, hi, rfl, HJ⟩ := hrel
    obtain ⟨u, hJ⟩ := HJ.out
    by_cases hlt : i < F.length
    · have t1 : decide ((i : Int) < F.length) = true := decide_eq_true (by omega)
      have t2 : (0 : Int) ≤ (i : Int) := by omega
      have t3 : (i : Int) < (F.length : Int) := by omega
      have y0 := hJ.words.cell i (.string ⟨(F.getD i []).toArray⟩) (by simp [List.getD_eq_getElem?_getD, hlt])
      obtain ⟨sj, hsj⟩ : ∃ x : ByteArray, x = ⟨(F.getD i []).toArray⟩ := ⟨_, rfl⟩
      rw [← hsj] at y0
      have x0 := hJ.var.cell 0 _ rfl
      have f0 := hJ.var.free 0
      have hob := hJ.var.lt
      have HJ2 := Kp.mk hJ
      have HSJ := Kp.mk hsj
      have HLL : Kp ((L ++ addR form op F i).length ≤ 1100) := ⟨by rw [List.length_append, addR_len]; omega⟩
      clear hJ HJ hsj
      go_wp2_with (at_builtin; go_must (refine append_row rfl (.tmp 17) (.tmp 24) 172 164 3 32 _ rfl Tryz.underlying172 infoRow rfl (by decide) B _ _ rfl HJ2.out.own _ rfl (by intro x hx; simp only [List.mem_cons, List.not_mem_nil, or_false] at hx; rcases hx with rfl | rfl | rfl <;> rfl) rfl (by unfold maxLen; have := HLL.out; omega) (by have := HLL.out; omega) (Nat.le_trans HBB.out (Nat.le_of_lt HJ2.out.var.lt)) ?_; rintro v' w6 hr6 hg6 hb6 h46; obtain ⟨va, vc, vm, hvm, rfl⟩ := hr6.shape; have V6 : Kp (Blk w6 ob #[u] 172) := ⟨(hg6.block ob (Nat.lt_trans HJ2.out.var.lt (by simp)) (fun e => HJ2.out.far e.symm)).trans (((below_alloc wr _).block ob HJ2.out.var.lt).trans HJ2.out.var)⟩; have W6 : Kp (Blk w6 fb _ 9) := ⟨(hg6.block fb (Nat.lt_trans HJ2.out.words.lt (by simp)) (fun e => HJ2.out.farF e.symm)).trans (((below_alloc wr _).block fb HJ2.out.words.lt).trans HJ2.out.words)⟩; clear x0 f0; have x6 := V6.out.cell 0 _ rfl; have f6 := V6.out.free 0))
      have hfar : ∀ b, b = ob ∨ b = fb → (Value.slice va vm vc).ownBlock ≠ some b := fun b hb e => by
        rcases h46 with h | h
        · rw [h] at e
          rcases hb with rfl | rfl
          · exact HJ2.out.far e
          · exact HJ2.out.farF e
        · rw [h] at e
          have h1 := HJ2.out.var.lt
          have h2 := HJ2.out.words.lt
          simp at e
          rcases hb with rfl | rfl <;> omega
      have J6 : Kp (AddI w (w6.setCell ⟨ob, 0, none⟩ (Value.slice va vm vc)) B ob (L ++ addR form op F (i + 1)) fb F (Value.slice va vm vc)) := ⟨⟨V6.out.set 0 (Value.slice va vm vc), by
        rw [addR_snoc, ← List.append_assoc]
        refine OwnR.keep (w := w6) (by rw [HSJ.out] at hr6; simpa [rowV] using hr6) fun g _ hg => heap_setCell_other _ ⟨ob, 0, none⟩ g _ (fun e => hfar g (.inl e) hg), hfar ob (.inl rfl), hfar fb (.inr rfl), W6.out.other ob 0 (Value.slice va vm vc) hfo, (HJ2.out.below.trans hb6).setCell (p := ⟨ob, 0, none⟩) HBB.out (Value.slice va vm vc)⟩⟩
      clear hr6 hg6 hb6 h46 hfar
      go_roundw
      case rel => exact ⟨i + 1, by omega, by go_num, ⟨⟨(Value.slice va vm vc), J6.out⟩⟩⟩
      case measure => simp [intOf]; omega
    · have hie : F.length = i := by omega
      have t1 : decide ((i : Int) < F.length) = false := decide_eq_false (by omega)
      have HJ2 := Kp.mk hJ
      clear hJ HJ
      go_wp2_with fail
      go_end0
      refine ⟨rfl, u, HJ2.out.var, ?_, HJ2.out.far, HJ2.out.below⟩
      rw [hie]
      exact HJ2.out.own
end Go.Proofs.YtadikbmbadldpaaGreatDoor
