/- The law's copiedAll, walked. -/
import Derived.Test.YtjlgnbjfgeppcaaDoorPortOwn
namespace Go.Proofs.YtjlgnbjfgeppcaaDoor
open Go Go.RowKit
set_option linter.unusedVariables false

/-- So many ports of the call's own, of these lists and ages. -/
def CopyL (w : World) (V : Nat → PortV) (ov : Value) (i : Nat) (wr : World) : Prop :=
  ∃ U, OwnPo wr w.heap.size ov i U ∧ (∀ j, j < i → (U j).l = (V j).l ∧ (U j).g = (V j).g) ∧ Below w.heap.size w wr
theorem rd_lens {w : World} {a : Option Addr} {n c : Nat} {l : List ByteArray} (h : RdS w a n c l) : l.length ≤ 8796093022208 ∧ ∀ s ∈ l, s.size < 9223372036854775808 := ⟨by rw [h.len]; exact h.bound, h.size⟩
set_option maxRecDepth 100000 in
set_option maxHeartbeats 4000000 in
theorem law_copiedAll (a : Option Addr) (n cap : Nat) (V : Nat → PortV) (w : World) (h : RdPo w a n cap V) :
    Calls Tryd.prog 41 #[.slice a n cap] w fun e w' => ∃ v, e = .returned v ∧ CopyL w V v n w' := by
  have H := Kp.mk h
  have hn := h.bound
  clear h
  go_enter Tryd.func41, Tryd.ntmps41
  go_wp2
  go_loopw [3, 4] (fun ov iv wr => ∃ i : Nat, i ≤ n ∧ iv = .int .i64 (i : Int) ∧ Kp (CopyL w V ov i wr)) (fun _ iv _ => n - (intOf iv).toNat)
  case atStart => exact ⟨0, by omega, rfl, ⟨⟨V, OwnPo.nil _ _ _, fun j hj => by omega, Below.refl _ _⟩⟩⟩
  case round =>
    obtain ⟨i, hi, rfl, HL⟩ := hrel
    obtain ⟨U, hU, hUV, hB⟩ := HL.out
    obtain ⟨oa, oc, rfl⟩ := hU.shape
    have HU := Kp.mk (And.intro hU hUV)
    have HB := Kp.mk hB
    clear hU hUV hB HL
    by_cases hlt : i < n
    · have hb : decide ((i : Int) < n) = true := decide_eq_true (by omega)
      have hb1 : (0 : Int) ≤ (i : Int) := by omega
      have hb2 : (i : Int) < (n : Int) := by omega
      obtain ⟨b1, o1, ha1, q0, q1⟩ := (H.out.later HB.out).at i hlt
      have r1 := (H.out.later HB.out).rd i hlt
      obtain ⟨⟨va, vm, vc, vg, vl⟩, hv⟩ : ∃ v, v = V i := ⟨_, rfl⟩
      rw [← hv] at q0 q1 r1
      have HV := Kp.mk hv
      have q0 : wr.cell? ⟨b1, o1 + i * 2, none⟩ = some (.slice va vm vc) := q0
      have q1 : wr.cell? ⟨b1, o1 + i * 2 + 1, none⟩ = some (.int .i64 vg) := q1
      have r1 : RdS wr va vm vc vl := r1
      have HC := Kp.mk (law_copied va vm vc vl vg wr r1)
      subst ha1
      clear hv r1
      go_wp2_with fail
      refine HC.out.mono ?_
      rintro e w3 ⟨v, rfl, ho, hb3⟩
      obtain ⟨na, nc, nm, hnm, rfl⟩ := ho.shapeN
      have HB3 := Kp.mk (HB.out.trans (hb3.mono HB.out.size))
      have O3 := Kp.mk (HU.out.1.later hb3)
      have NO := Kp.mk (ho.mono HB.out.size)
      have NF : Kp (∀ b, (Value.slice oa i oc).ownBlock = some b → (Value.slice na nm nc).ownBlock ≠ some b) := ⟨fun b hb e => by
        have h1 := (ownS_in ho e).1
        have h2 : b < wr.heap.size := by
          rcases HU.out.1.row.2 with ⟨hv, _⟩ | ⟨g, cap, cur, hv, _, hh, _⟩
          · rw [hv] at hb; simp [Value.ownBlock] at hb
          · rw [hv] at hb
            simp [Value.ownBlock] at hb
            subst hb
            exact (Array.getElem?_eq_some_iff.1 hh).1
        omega⟩
      clear hb3 ho q0 q1 HC
      go_wp2_with (at_builtin; refine append_port rfl (.tmp 11) (.tmp 17) rfl w.heap.size _ i U rfl O3.out ⟨na, nm, nc, vg, vl⟩ NO.out NF.out rfl (by omega) HB3.out.size ?_; rintro v5 w5 ho5 hb5 _ _)
      have HL5 : Kp (CopyL w V v5 (i + 1) w5) := ⟨⟨pupd U i ⟨na, nm, nc, vg, vl⟩, ho5, fun j hj => by
        rcases Nat.lt_or_ge j i with h | h
        · rw [pupd_lt _ _ _ h]; exact HU.out.2 j h
        · have : j = i := by omega
          subst this
          rw [pupd_at, ← HV.out]
          exact ⟨rfl, rfl⟩, HB3.out.trans hb5⟩⟩
      clear ho5 hb5
      go_roundw
      case rel => exact ⟨i + 1, by omega, by go_num, HL5⟩
      case measure => simp [intOf]; omega
    · have : i = n := by omega
      subst this
      have hb : decide ((i : Int) < i) = false := by simp
      go_wp2
      go_ret
      exact ⟨_, rfl, U, HU.out.1, HU.out.2, HB.out⟩
end Go.Proofs.YtjlgnbjfgeppcaaDoor
