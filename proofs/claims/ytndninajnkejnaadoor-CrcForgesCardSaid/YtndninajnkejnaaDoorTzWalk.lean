/- math/bits.TrailingZeros32, walked over its table. -/
import Derived.Test.YtndninajnkejnaaDoorTzPure
import Derived.Test.YtndninajnkejnaaDoorLaid
import Derived.Test.YtndninajnkejnaaDoorDrew
import Derived.Lib.LaidTab
import Derived.Deep.QuietTactic
import Derived.BigQuiet
namespace Go.Proofs.YtndninajnkejnaaDoor
open Go Go.RowKit
set_option linter.unusedVariables false

/-- The table lies where the code looks for it. -/
def TabAt (W : World) : Prop := ∀ i, i < 32 → W.cell? ⟨12, i, none⟩ = some (.int .u8 (Crc.deB.getD i 0))
theorem TabAt.later {w w' : World} (h : TabAt w) (hb : Below w.heap.size w w') : TabAt w' := fun i hi =>
  (hb.cell (p := ⟨12, i, none⟩) (World.block_lt_of_cell? w _ (h i hi))).trans (h i hi)
theorem tabAt_of {W : World} {rest : List (String × DataW Unit)} (h : laidMet Tryd.prog (("math/bits.deBruijn32tab", Lib.tabData .u8 Crc.deB) :: rest) W) : TabAt W := fun i hi =>
  (Lib.tabIs_of_head (t := 83) (g := 12) (n := 32) (by kernel_rfl) (by kernel_rfl) Tryd.underlying83 Tryd.underlying5 (by kernel_rfl) (by kernel_rfl) h).cell (by kernel_rfl) i hi
theorem tabAt_first {W : World} {L : List (String × DataW Unit)} (h : laidMet Tryd.prog L W) (hL : L.head? = some ("math/bits.deBruijn32tab", Lib.tabData .u8 Crc.deB)) : TabAt W := by
  cases L with
  | nil => cases hL
  | cons x r =>
    obtain rfl := Option.some.inj hL
    exact tabAt_of h
set_option maxRecDepth 100000 in
theorem bits_tz32 (x : BitVec 32) (t : Nat) (w : World) (ht : Crc.Low x t) (hT : TabAt w) :
    Calls Tryd.prog 60 #[.int .u32 (x.toNat : Int)] w fun e w' => e = .returned (.int .i64 (t : Int)) ∧ w' = w := by
  have hx0 : x ≠ 0#32 := fun e => by have := ht.2.1; rw [e] at this; simp at this
  have hz : ((x.toNat : Int) == 0) = false := by
    have : x.toNat ≠ 0 := fun e => hx0 (BitVec.eq_of_toNat_eq e)
    simp; omega
  obtain ⟨y, hy⟩ : ∃ y, y = -x := ⟨_, rfl⟩
  obtain ⟨p, hp⟩ : ∃ p, p = 1#32 <<< t := ⟨_, rfl⟩
  have hn : (-(x.toNat : Int)) % 4294967296 = (y.toNat : Int) := by rw [hy, BitVec.toNat_neg]; have := x.isLt; omega
  have hn2 : (4294967296 - (x.toNat : Int)) % 4294967296 = (y.toNat : Int) := by rw [hy, BitVec.toNat_neg]; have := x.isLt; omega
  have ha := Crc.and32 x y
  have hxy : x &&& y = p := by rw [hy, hp]; exact Crc.and_neg x t ht
  rw [hxy] at ha
  have h32 := Crc.deB_at ⟨t, ht.1⟩
  simp only at h32
  rw [← hp] at h32
  obtain ⟨i, hi⟩ : ∃ i, i = p.toNat * 125613361 % 4294967296 / 134217728 := ⟨_, rfl⟩
  rw [← hi] at h32
  have hcell := hT i h32.2
  rw [h32.1] at hcell
  have hil := h32.2
  have ht31 : t < 32 := ht.1
  obtain ⟨q, hq⟩ : ∃ q : Nat, q = p.toNat * 125613361 % 4294967296 := ⟨_, rfl⟩
  rw [← hq] at hi
  have hm1 : (p.toNat : Int) * 125613361 % 4294967296 = (q : Int) := by omega
  have hm2 : (q : Int) / 134217728 = (i : Int) := by omega
  clear hi h32 hxy hp hy ht hT hx0 hq
  go_enter Tryd.func60, Tryd.ntmps60
  go_wp2
  go_ret
  exact ⟨rfl, rfl⟩
end Go.Proofs.YtndninajnkejnaaDoor
