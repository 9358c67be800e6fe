
/- CoreFetches: the plain facts and the walk. -/
import Derived.Test.YtadikbmbadldpaaDoorCoreMem
import Derived.Stop.LaidErr
namespace Go.Proofs.YtadikbmbadldpaaDoor
open Go Go.RowKit
set_option linter.unusedVariables false

theorem mem_fetchC : ftC (memP 12) 2 0 = 0 := by kernel_rfl
theorem mem_fetchI : ftI (memP 12) 2 0 = ⟨16, 1, 0, 0, 5⟩ := by kernel_rfl
set_option maxRecDepth 100000 in
set_option maxHeartbeats 4000000 in
theorem law_CoreFetches (A : Nat → Addr) (a : Option Addr) (n cap : Nat) (P : Nat → PageV) (pc : BitVec 32) (w : World) (h : RdP w a n cap P) (hE : Errs w [4, 7, 12] A) (ht : BlankT w) :
    Calls Tryd.prog 3 #[.slice a n cap, .int .u32 (pc.toNat : Int)] w fun e w' => e = .returned (.bool true) ∧ Below w.heap.size w w' := by
  have hE2 : Errs w [4, 7] A := hE.sub (by intro c hc; simp at hc ⊢; omega)
  have KM := Kp.mk (law_memory w)
  have K0 : Kp (∀ v B w1, OwnP w1 B v 2 (memP 12) → Below w.heap.size w w1 → Calls Tryd.prog 10 #[v, .int .u32 0] w1 fun e w' => e = .returned (.tuple #[.agg (insA 16 1 0 0 5), .int .i64 0]) ∧ Below w1.heap.size w1 w') := ⟨fun v B w1 ho hb => by
    obtain ⟨a, cap, rfl, hrd⟩ := ho.rd (by decide)
    have := core_fetch A a 2 cap (memP 12) w1 hrd 0 (by decide) (ht.later hb) (hE2.later hb)
    rw [mem_fetchC, mem_fetchI] at this
    exact this⟩
  have K1 := Kp.mk (fun w1 (hb : Below w.heap.size w w1) => core_fetch A a n cap P w1 (h.later hb) pc.toNat pc.isLt (ht.later hb) (hE2.later hb))
  have K2 := Kp.mk (fun w1 (hb : Below w.heap.size w w1) => ref6_fetch a n cap P w1 (h.later hb) pc.toNat pc.isLt)
  obtain ⟨i, hi⟩ : ∃ i, i = ftI P n pc.toNat := ⟨_, rfl⟩
  obtain ⟨f, hf⟩ : ∃ f : Int, f = (ftC P n pc.toNat : Nat) := ⟨_, rfl⟩
  obtain ⟨p, hp⟩ : ∃ p : Int, p = (pc.toNat : Int) := ⟨_, rfl⟩
  rw [← hi, ← hf, ← hp] at K1 K2
  rw [← hp]
  obtain ⟨io, ia, ib, ic, im⟩ := i
  simp only [InsV.arr] at K1 K2
  clear hi hf hp h hE hE2 ht
  go_enter Tryd.func3, Tryd.ntmps3
  go_wp2_with fail
  refine KM.out.mono ?_
  rintro e w1 ⟨v, rfl, ho, hb⟩
  have H1 := Kp.mk ho
  have B1 := Kp.mk hb
  clear ho hb KM
  go_wp2_with fail
  refine (K0.out v _ w1 H1.out B1.out).mono ?_
  rintro e w2 ⟨rfl, hb⟩
  obtain ⟨w3, e3⟩ : ∃ w3, w3 = w2.alloc (.cells (insA 16 1 0 0 5) 25) := ⟨_, rfl⟩
  obtain ⟨g, hg⟩ : ∃ g, g = w2.heap.size := ⟨_, rfl⟩
  have V3 : Kp (Blk w3 g (insA 16 1 0 0 5) 25) := ⟨by rw [e3, hg]; exact Blk.new _ _ _⟩
  have b12 : Below w.heap.size w w2 := B1.out.trans (hb.mono B1.out.size)
  have B3 : Kp (Below w.heap.size w w3) := ⟨b12.trans (by rw [e3]; exact (below_alloc _ _).mono b12.size)⟩
  have HGW : Kp (w.heap.size ≤ w2.heap.size) := ⟨b12.size⟩
  have E3 := Kp.mk e3
  have HG := Kp.mk hg
  clear hb b12 e3 hg K0 H1 B1
  go_wp2_with fail
  rw [← HG.out, ← E3.out]
  refine (K2.out w3 B3.out).mono ?_
  rintro e w4 ⟨rfl, hb⟩
  obtain ⟨w5, e5⟩ : ∃ w5, w5 = w4.alloc (.cells (insA io ia ib ic im) 25) := ⟨_, rfl⟩
  obtain ⟨g2, hg2⟩ : ∃ g, g = w4.heap.size := ⟨_, rfl⟩
  have V4 := V3.out.later hb
  have hne : g ≠ g2 := by have := V4.lt; omega
  have b45 : Below w4.heap.size w4 w5 := by rw [e5]; exact below_alloc _ _
  have V5 : Kp (Blk w5 g (insA 16 1 0 0 5) 25) := ⟨V4.later b45⟩
  have U5 : Kp (Blk w5 g2 (insA io ia ib ic im) 25) := ⟨by rw [e5, hg2]; exact Blk.new _ _ _⟩
  have b04 : Below w.heap.size w w4 := B3.out.trans (hb.mono B3.out.size)
  have B5 : Kp (Below w.heap.size w w5) := ⟨b04.trans (b45.mono b04.size)⟩
  have hgw : w.heap.size ≤ g := by
    rw [HG.out]
    have := B3.out.size
    have h1 := V3.out.lt
    rw [E3.out] at h1
    have h2 := HGW.out
    omega
  have E5 := Kp.mk e5
  have HG2 := Kp.mk hg2
  have HGB := Kp.mk hgw
  clear V4 hb b45 b04 e5 hg2 hgw V3 B3 E3 HG K2 HGW
  go_wp2_with fail
  rw [← HG2.out, ← E5.out]
  refine (K1.out w5 B5.out).mono ?_
  rintro e w6 ⟨rfl, hb⟩
  have V6 := Kp.mk (V5.out.later hb)
  have U6 := Kp.mk (U5.out.later hb)
  have B6 := Kp.mk (B5.out.trans (hb.mono B5.out.size))
  clear V5 U5 B5 E5 HG2 K1 hb
  have c0 := V6.out.cell 0 _ rfl
  have c1 := V6.out.cell 1 _ rfl
  have c2 := V6.out.cell 2 _ rfl
  have c3 := V6.out.cell 3 _ rfl
  have c4 := V6.out.cell 4 _ rfl
  have f0 := V6.out.free 0
  have f1 := V6.out.free 1
  have f2 := V6.out.free 2
  have f3 := V6.out.free 3
  have f4 := V6.out.free 4
  have d0 := U6.out.cell 0 _ rfl
  have d1 := U6.out.cell 1 _ rfl
  have d2 := U6.out.cell 2 _ rfl
  have d3 := U6.out.cell 3 _ rfl
  have d4 := U6.out.cell 4 _ rfl
  have n1 : ¬ g = g2 := hne
  have n2 : ¬ g2 = g := fun e => hne e.symm
  clear hne
  go_wp2_with fail
  go_ret
  exact ⟨by simp, below_set5 B6.out g _ _ _ _ _ HGB.out⟩
theorem blank_at {W : World} : ∀ (k : Nat) (L : List (String × DataW Unit)), laidMet Tryd.prog L W → (L.drop k).head? = some ("strings.asciiSpace", Lib.tabData .u8 Lib.asciiSpaceTab) → BlankT W
  | 0, L, h, hL => by
    cases L with
    | nil => cases hL
    | cons x r =>
      obtain rfl := Option.some.inj hL
      exact Lib.tabIs_of_head (t := (((Tryd.prog.globals[lays157_ren.g 0]?).map (·.type)).getD 0)) (g := lays157_ren.g 0) (n := 256) hg157 (by kernel_rfl) (by kernel_rfl) Tryd.underlying5 (by kernel_rfl) (by kernel_rfl) h
  | k + 1, L, h, hL => by
    cases L with
    | nil => cases hL
    | cons x r => exact blank_at k r h.tail hL
end Go.Proofs.YtadikbmbadldpaaDoor
