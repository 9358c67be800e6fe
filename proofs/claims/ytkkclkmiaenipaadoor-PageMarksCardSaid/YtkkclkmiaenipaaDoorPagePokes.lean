/- The statements' pokes, walked. -/
import Derived.Test.YtkkclkmiaenipaaDoorPageUni
import Derived.Test.YtkkclkmiaenipaaDoorErrCode5
namespace Go.Proofs.YtkkclkmiaenipaaDoor
open Go Go.RowKit
set_option linter.unusedVariables false

/-- A call, as the statements have it. -/
structure PopV where
  kind : Int
  size : Int
  addr : BitVec 32
  v : BitVec 32
  data : ByteArray
def PopV.row (o : PopV) : List Value := [.int .i64 o.kind, .int .i64 o.size, .int .u32 (o.addr.toNat : Int), .int .u32 (o.v.toNat : Int), .string o.data]
/-- Of sizes that there are. -/
def PopV.fits (o : PopV) : Prop := o.size < 9223372036854775808 ∧ o.data.size < 9223372036854775808
/-- The same with its words as numbers. -/
structure PopN where
  kind : Int
  s : Int
  ad : Nat
  x : Nat
  D : ByteArray
def PopN.row (o : PopN) : List Value := [.int .i64 o.kind, .int .i64 o.s, .int .u32 (o.ad : Int), .int .u32 (o.x : Int), .string o.D]
theorem PopV.num (o : PopV) (h : o.fits) : ∃ (kind s : Int) (ad x : Nat) (D : ByteArray), o.row = PopN.row ⟨kind, s, ad, x, D⟩ ∧ ad < 4294967296 ∧ x < 4294967296 ∧ s < 9223372036854775808 ∧ D.size < 9223372036854775808 ∧ kind = o.kind :=
  ⟨o.kind, o.size, o.addr.toNat, o.v.toNat, o.data, rfl, o.addr.isLt, o.v.isLt, h.1, h.2, rfl⟩
/-- Where one lies. -/
def OpAt (w : World) (b : Nat) (o : PopN) : Prop := w.rangeAt b 0 o.row
theorem OpAt.later {w w' : World} {b : Nat} {o : PopN} (h : OpAt w b o) (hb : Below w.heap.size w w') : OpAt w' b o := prange_later h hb
theorem OpAt.c0 {w : World} {b : Nat} {kind s : Int} {ad x : Nat} {D : ByteArray} (h : OpAt w b ⟨kind, s, ad, x, D⟩) : w.cell? ⟨b, 0, none⟩ = some (.int .i64 kind) := h 0 _ rfl
theorem OpAt.c1 {w : World} {b : Nat} {kind s : Int} {ad x : Nat} {D : ByteArray} (h : OpAt w b ⟨kind, s, ad, x, D⟩) : w.cell? ⟨b, 1, none⟩ = some (.int .i64 s) := h 1 _ rfl
theorem OpAt.c2 {w : World} {b : Nat} {kind s : Int} {ad x : Nat} {D : ByteArray} (h : OpAt w b ⟨kind, s, ad, x, D⟩) : w.cell? ⟨b, 2, none⟩ = some (.int .u32 (ad : Int)) := h 2 _ rfl
theorem OpAt.c3 {w : World} {b : Nat} {kind s : Int} {ad x : Nat} {D : ByteArray} (h : OpAt w b ⟨kind, s, ad, x, D⟩) : w.cell? ⟨b, 3, none⟩ = some (.int .u32 (x : Int)) := h 3 _ rfl
theorem OpAt.c4 {w : World} {b : Nat} {kind s : Int} {ad x : Nat} {D : ByteArray} (h : OpAt w b ⟨kind, s, ad, x, D⟩) : w.cell? ⟨b, 4, none⟩ = some (.string D) := h 4 _ rfl
theorem OpAt.made (w : World) (o : PopN) : OpAt (w.alloc (.cells o.row.toArray 41)) w.heap.size o := by
  intro j u hu
  rw [Nat.zero_add, World.cell?_alloc_new]
  simpa using hu
theorem intNe {F : Nat} (h : F ≠ 0) : ((F : Int) != 0) = true := by simp; omega
set_option maxRecDepth 100000 in
set_option maxHeartbeats 4000000 in
theorem law_pokes (A : Nat → Addr) (a : Option Addr) (n cap : Nat) (P : Nat → PageV) (o : PopV) (ho : o.fits) (w : World) (h : RdP w a n cap P) (hE : Errs w allCodes A) (hT : TypeVar w) :
    Calls Tryd.prog 52 #[.slice a n cap, .agg o.row.toArray] w fun e w' => ∃ a' cap' P', e = .returned (.tuple #[.slice a' n cap', .bool true]) ∧ RdP w' a' n cap' P' ∧ Below w.heap.size w w' := by
  have H0 := Kp.mk h
  have HE := Kp.mk hE
  have HT := Kp.mk hT
  have hn := h.bound
  obtain ⟨kind, s, ad, x, D, hr, had, hx, hs, hD, hkk⟩ := o.num ho
  rw [hr]
  clear h hE hT hr ho hkk
  obtain ⟨w1, hw1⟩ : ∃ w1, w1 = w.alloc (.cells (PopN.row ⟨kind, s, ad, x, D⟩).toArray 41) := ⟨_, rfl⟩
  have B1 : Kp (Below w.heap.size w w1) := ⟨by rw [hw1]; exact (Below.refl _ _).alloc (Nat.le_refl _) _⟩
  have O1 : Kp (OpAt w1 w.heap.size ⟨kind, s, ad, x, D⟩) := ⟨by rw [hw1]; exact OpAt.made w _⟩
  have W1 := Kp.mk hw1
  obtain ⟨g0, hg0⟩ : ∃ g0, g0 = w.heap.size := ⟨_, rfl⟩
  have G0 := Kp.mk hg0
  rw [← hg0] at O1
  clear hw1 hg0
  have hle := stC_le s
  have hok := stOk_iff P n ad s
  obtain ⟨F, hF⟩ : ∃ F, F = stF P n ad s 1 := ⟨_, rfl⟩
  obtain ⟨C, hC⟩ : ∃ C, C = stC s := ⟨_, rfl⟩
  rw [← hF, ← hC] at hok
  rw [← hC] at hle
  have K1 := Kp.mk (uni_ref_store a n cap P w1 (H0.out.later B1.out) ad had s x hx)
  have KP := Kp.mk (fun (w' : World) B v (hv : OwnP w' B v n P) (he : Errs w' [12] A) => uni_poke A n P w' B v hv hn ad had s x hx he)
  rw [← hF, ← hC] at K1 KP
  have hFF : ((F : Int) == (F : Int)) = true := by simp
  have hCC : ((C : Int) == (C : Int)) = true := by simp
  obtain ⟨T, hTT⟩ : ∃ T, T = stOk P n ad s := ⟨_, rfl⟩
  rw [← hTT] at hok
  have hL : stL P n ad s = bif T then n else 0 := by rw [hTT]; rfl
  have hPk : pkP P n ad s x = bif T then stP P ad s x else P := by rw [hTT]; rfl
  rw [hL] at K1
  rw [hPk] at KP
  have HLE := Kp.mk hle
  have c1 := O1.out.c1
  have c2 := O1.out.c2
  have c3 := O1.out.c3
  clear hF hC hTT hL hPk hle
  have c1k := Kp.mk c1
  cases T
  · rw [cond_false] at K1 KP
    have hz : F ≠ 0 ∨ F = 0 ∧ C ≠ 0 := by
      by_cases e : F = 0
      · exact .inr ⟨e, fun e2 => by have := hok.2 ⟨e, e2⟩; cases this⟩
      · exact .inl e
    clear hok
    rcases hz with hz | ⟨rfl, hz⟩
    all_goals (
      have hne := intNe hz
      clear hz
      go_enter Tryd.func52, Tryd.ntmps52
      go_wp2_with (refine Great.wpList_boxTo rfl 41 (.tmp 1) rfl _ rfl g0 G0.out.symm (PopN.row ⟨kind, s, ad, x, D⟩).toArray rfl ?_; rw [← W1.out])
      refine K1.out.mono ?_
      rintro e w2 ⟨v2, rfl, _, hb⟩
      have B2 := Kp.mk (B1.out.trans (hb.mono B1.out.size))
      have O2 := Kp.mk (O1.out.later hb)
      clear hb c1 c2 c3 K1
      have RW := Kp.mk (H0.out.later B2.out)
      go_wp2_with fail
      refine (ref_copy _ _ _ _ w2 (H0.out.later B2.out)).mono ?_
      rintro e w3 ⟨v3, rfl, o3, hb⟩
      have B3 := Kp.mk (B2.out.trans (hb.mono B2.out.size))
      have R3 := Kp.mk (RW.out.later hb)
      have O3 := Kp.mk (O2.out.later hb)
      have N3 := Kp.mk o3
      have B23 := Kp.mk hb
      have S3 := Kp.mk hb.size
      clear o3 hb
      have c1 := O3.out.c1
      have c2 := O3.out.c2
      have c3 := O3.out.c3
      go_wp2_with fail
      refine (KP.out w3 w2.heap.size v3 N3.out ((HE.out.later B3.out).sub (by decide))).mono ?_
      rintro e w4 ⟨rfl, o4, hb, _⟩
      have B34 := hb w2.heap.size (Nat.le_refl _) S3.out
      have B4 := Kp.mk (B3.out.trans (hb w.heap.size B2.out.size B3.out.size))
      obtain ⟨a4, cap4, rfl, hr4⟩ := o4.rd hn
      have R4 := Kp.mk hr4
      have RW4 : Kp (RdP w4 a n cap P) := ⟨RW.out.later (B23.out.trans B34)⟩
      clear o4 hb hr4 c1 c2 c3
      go_wp2_with fail
      refine (ref_same _ _ n _ _ _ _ w4 R4.out RW4.out (fun i hi => rfl)).mono ?_
      rintro e w5 ⟨rfl, hd⟩
      have B5 := Kp.mk (B4.out.trans (hd.below.mono B4.out.size))
      have RW5 := Kp.mk (RW4.out.later hd.below)
      clear hd
      go_wp2_with fail
      refine (law_code A _ w5 HLE.out (HE.out.later B5.out) (HT.out.later B5.out)).mono ?_
      rintro e w6 ⟨rfl, hb⟩
      have B6 := Kp.mk (B5.out.trans (hb.mono B5.out.size))
      have RW6 := Kp.mk (RW5.out.later hb)
      clear hb
      go_wp2
      go_ret2
      exact ⟨_, _, _, rfl, RW6.out, B6.out⟩)
  · rw [cond_true] at K1 KP
    obtain ⟨rfl, rfl⟩ := hok.1 rfl
    clear hok
    go_enter Tryd.func52, Tryd.ntmps52
    go_wp2_with (refine Great.wpList_boxTo rfl 41 (.tmp 1) rfl _ rfl g0 G0.out.symm (PopN.row ⟨kind, s, ad, x, D⟩).toArray rfl ?_; rw [← W1.out])
    refine K1.out.mono ?_
    rintro e w2 ⟨v2, rfl, ho2, hb⟩
    obtain ⟨a2, cap2, rfl, hr2⟩ := ho2.rd hn
    have RW0 := Kp.mk hr2
    have B2 := Kp.mk (B1.out.trans (hb.mono B1.out.size))
    have O2 := Kp.mk (O1.out.later hb)
    clear hb c1 c2 c3 K1 ho2 hr2
    have RW := Kp.mk (RW0.out)
    go_wp2_with fail
    refine (ref_copy _ _ _ _ w2 (H0.out.later B2.out)).mono ?_
    rintro e w3 ⟨v3, rfl, o3, hb⟩
    have B3 := Kp.mk (B2.out.trans (hb.mono B2.out.size))
    have R3 := Kp.mk (RW.out.later hb)
    have O3 := Kp.mk (O2.out.later hb)
    have N3 := Kp.mk o3
    have B23 := Kp.mk hb
    have S3 := Kp.mk hb.size
    clear o3 hb
    have c1 := O3.out.c1
    have c2 := O3.out.c2
    have c3 := O3.out.c3
    go_wp2_with fail
    refine (KP.out w3 w2.heap.size v3 N3.out ((HE.out.later B3.out).sub (by decide))).mono ?_
    rintro e w4 ⟨rfl, o4, hb, _⟩
    have B34 := hb w2.heap.size (Nat.le_refl _) S3.out
    have B4 := Kp.mk (B3.out.trans (hb w.heap.size B2.out.size B3.out.size))
    obtain ⟨a4, cap4, rfl, hr4⟩ := o4.rd hn
    have R4 := Kp.mk hr4
    have RW4 : Kp (RdP w4 a2 n cap2 (stP P ad s x)) := ⟨RW.out.later (B23.out.trans B34)⟩
    clear o4 hb hr4 c1 c2 c3
    go_wp2_with fail
    refine (ref_same _ _ n _ _ _ _ w4 R4.out RW4.out (fun i hi => rfl)).mono ?_
    rintro e w5 ⟨rfl, hd⟩
    have B5 := Kp.mk (B4.out.trans (hd.below.mono B4.out.size))
    have RW5 := Kp.mk (RW4.out.later hd.below)
    clear hd
    go_wp2_with fail
    refine (law_code A _ w5 HLE.out (HE.out.later B5.out) (HT.out.later B5.out)).mono ?_
    rintro e w6 ⟨rfl, hb⟩
    have B6 := Kp.mk (B5.out.trans (hb.mono B5.out.size))
    have RW6 := Kp.mk (RW5.out.later hb)
    clear hb
    go_wp2
    go_ret2
    exact ⟨_, _, _, rfl, RW6.out, B6.out⟩
end Go.Proofs.YtkkclkmiaenipaaDoor
