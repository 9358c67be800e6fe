/- Package crc's Patch, walked. -/
import Derived.Test.YtndninajnkejnaaDoorPatchPure
import Derived.Test.YtndninajnkejnaaDoorSealWalk
import Derived.Test.YtndninajnkejnaaDoorCrcWalk2
import Derived.Test.YtndninajnkejnaaDoorLaid
import Derived.Laws.CopyOwn
import Derived.Deep.MidRow
import Derived.Deep.RegionLaw
namespace Go.Proofs.YtndninajnkejnaaDoor
open Go Go.RowKit
set_option linter.unusedVariables false

namespace Crc
theorem top_bit (x : R) : ((x.toNat : Int) / 2147483648 == 1) = x.getLsbD 31 := by
  have h : x.toNat < 4294967296 := x.isLt
  rw [BitVec.getLsbD, Nat.testBit]
  by_cases e : x.toNat / 2147483648 = 1
  · have e1 : ((x.toNat : Int) / 2147483648 == 1) = true := by rw [beq_iff_eq]; omega
    rw [e1, Nat.shiftRight_eq_div_pow, show 2 ^ 31 = 2147483648 from rfl, e]
    try rfl
  · have e0 : x.toNat / 2147483648 = 0 := by omega
    have e1 : ((x.toNat : Int) / 2147483648 == 1) = false := by rw [beq_eq_false_iff_ne]; omega
    rw [e1, Nat.shiftRight_eq_div_pow, show 2 ^ 31 = 2147483648 from rfl, e0]
    try rfl
theorem shl1 (x : R) : (x.toNat : Int) * 2 % 4294967296 = ((x <<< 1).toNat : Int) := by
  rw [BitVec.toNat_shiftLeft, Nat.shiftLeft_eq]; simp
theorem or1 (x : R) : bits .or .u32 (x.toNat : Int) 1 = ((x ||| 1#32).toNat : Int) := or32 x 1#32
theorem xorp (x : R) : bits .xor .u32 (x.toNat : Int) 3988292384 = ((x ^^^ poly).toNat : Int) := xor32 x poly
theorem xor_byte (x : R) (c : B) : bits .xor .u32 (x.toNat : Int) (c.toNat : Int) = ((x ^^^ c.setWidth 32).toNat : Int) := by
  have e : (c.toNat : Int) = ((c.setWidth 32).toNat : Int) := by
    rw [BitVec.toNat_setWidth, Nat.mod_eq_of_lt (by have := c.isLt; omega)]
  rw [e, xor32]
end Crc
set_option maxRecDepth 100000 in
theorem crc_back (x : BitVec 32) (w : World) :
    Calls Tryd.prog 57 #[.int .u32 (x.toNat : Int)] w fun e w' => e = .returned (.int .u32 ((Crc.bk x).toNat : Int)) ∧ w' = w := by
  have ht := Crc.top_bit x
  have hlt : (x.toNat : Int) < 4294967296 := by have := x.isLt; omega
  by_cases hb : x.getLsbD 31 = true
  · rw [hb] at ht
    have hx := Crc.xorp x
    obtain ⟨y, hy⟩ : ∃ y, y = x ^^^ Crc.poly := ⟨_, rfl⟩
    rw [← hy] at hx
    obtain ⟨z, hz⟩ : ∃ z, z = y <<< 1 := ⟨_, rfl⟩
    have hs : (y.toNat : Int) * 2 % 4294967296 = (z.toNat : Int) := by have := Crc.shl1 y; rw [hz]; omega
    have ho := Crc.or1 z
    have e : Crc.bk x = z ||| 1#32 := by unfold Crc.bk; rw [if_pos hb, hz, hy]
    obtain ⟨u, hu⟩ : ∃ u, u = z ||| 1#32 := ⟨_, rfl⟩
    rw [← hu] at ho e
    rw [e]
    have HS := Kp.mk hs
    have HO := Kp.mk ho
    clear hu e hz hy hb hs ho
    go_enter Tryd.func57, Tryd.ntmps57
    go_wp2
    go_ret
    exact ⟨ret_int (by rw [HS.out, HO.out]), rfl⟩
  · have hb' : x.getLsbD 31 = false := by simpa using hb
    rw [hb'] at ht
    have hs : (x.toNat : Int) * 2 % 4294967296 = ((x <<< 1).toNat : Int) := by have := Crc.shl1 x; omega
    have e : Crc.bk x = x <<< 1 := by unfold Crc.bk; rw [if_neg hb]
    obtain ⟨z, hz⟩ : ∃ z, z = x <<< 1 := ⟨_, rfl⟩
    rw [← hz] at hs e
    rw [e]
    have HS := Kp.mk hs
    clear hz e hb hb' hs
    go_enter Tryd.func57, Tryd.ntmps57
    go_wp2
    go_ret
    exact ⟨ret_int HS.out, rfl⟩
theorem splice_patched (cur : List Value) (l : List (BitVec 8)) (n j : Nat) (v : BitVec 32) (hl : l.length = n) (hj : j + 4 ≤ n) (ht : cur.take n = bv l) : (splice cur j (bv (laidB v))).take n = bv (Crc.patched l j v) := by
  have hn : n ≤ cur.length := by
    have := congrArg List.length ht
    rw [List.length_take, bv_length] at this
    omega
  have hc : cur = bv l ++ cur.drop n := by rw [← ht, List.take_append_drop]
  have hb : (bv l).length = n := by rw [bv_length, hl]
  have e : splice cur j (bv (laidB v)) = bv (Crc.patched l j v) ++ cur.drop n := by
    unfold splice Crc.patched
    rw [bv_append, bv_append]
    conv => lhs; rw [hc]
    rw [List.take_append_of_le_length (by omega), List.drop_append_of_le_length (by rw [bv_length]; show j + 4 ≤ _; omega)]
    simp only [bv, List.map_take, List.map_drop, List.append_assoc, List.length_map]
    rfl
  rw [e, List.take_append_of_le_length (by rw [bv_length, Crc.patched_length l j v (by omega), hl]; omega), List.take_of_length_le (by rw [bv_length, Crc.patched_length l j v (by omega), hl]; omega)]
theorem rdb_src {w : World} {x : Addr} {n cap : Nat} {l : List (BitVec 8)} (h : RdB w (some x) n cap l) : ∀ i u, (bv l)[i]? = some u → w.cell? (x.add i) = some u := by
  intro i u hu
  have hi : i < l.length := by have := (List.getElem?_eq_some_iff.1 hu).1; rwa [bv_length] at this
  obtain ⟨b, off, e, hc⟩ := h.cells (by rw [← h.len]; omega)
  cases e
  rw [bv_get _ _ hi] at hu
  cases hu
  rw [Addr.add_mid]
  exact hc i (by rw [← h.len]; exact hi)
set_option maxRecDepth 100000 in
set_option maxHeartbeats 4000000 in
theorem crc_patch_yes (a : Option Addr) (n cap : Nat) (l : List (BitVec 8)) (k : Nat) (want : BitVec 32) (w : World) (h : RdB w a n cap l) (hk : k + 4 ≤ n) :
    Calls Tryd.prog 37 #[.slice a n cap, .int .i64 (k : Int), .int .u32 (want.toNat : Int)] w fun e w' => ∃ g c' v, e = .returned (.tuple #[.slice (some ⟨g, 0, none⟩) n c', .nilIface]) ∧ Crc.sum (Crc.patched l k v) = want ∧ w'.ownsRow w.heap.size 5 1 (.slice (some ⟨g, 0, none⟩) n c') n (bv (Crc.patched l k v)) ∧ Below w.heap.size w w' := by
  have hb := h.bound
  have hlen := h.len
  have HR := Kp.mk h
  have hO := Crc.patched_length l k 0#32 (by omega)
  have HG := Kp.mk (fun i => Crc.patched_get l k i 0#32 (by omega))
  obtain ⟨O, hOO⟩ : ∃ O, O = Crc.patched l k 0#32 := ⟨_, rfl⟩
  rw [← hOO] at hO HG
  have HOO := Kp.mk hOO
  have HOL : Kp (O.length = n) := ⟨by rw [hO, hlen]⟩
  have HL := Kp.mk hlen
  have hk0 : decide ((k : Int) < 0) = false := decide_eq_false (by omega)
  have hk4 : decide ((n : Int) - 4 < (k : Int)) = false := decide_eq_false (by omega)
  obtain ⟨b, off, rfl, hcl⟩ := HR.out.cells (by omega)
  have HC := Kp.mk hcl
  have hun := unary_not32 want (want ^^^ Crc.ones) rfl
  obtain ⟨r0, hr0⟩ : ∃ r0, r0 = want ^^^ Crc.ones := ⟨_, rfl⟩
  rw [← hr0] at hun
  have H0 := Kp.mk hr0
  clear hOO hO hlen hcl hr0 h
  go_enter Tryd.func37, Tryd.ntmps37
  go_wp2
  go_loop [8, 9] (fun r i => ∃ (j : Nat) (x : BitVec 32), k ≤ j ∧ j ≤ n ∧ i = .int .i64 ((j : Int) - 1) ∧ r = .int .u32 (x.toNat : Int) ∧ Kp (Crc.run x (O.drop j) = r0)) (fun _ i => (intOf i + 1).toNat)
  case atStart => exact ⟨n, r0, by omega, by omega, by go_num, rfl, ⟨by rw [List.drop_of_length_le (by rw [HOL.out]; omega)]; rfl⟩⟩
  case round =>
    obtain ⟨j, x, hkj, hjn, rfl, rfl, HI⟩ := hrel
    by_cases hlt : k < j
    · obtain ⟨i, rfl⟩ : ∃ i, j = i + 1 := ⟨j - 1, by omega⟩
      have ei : ((i + 1 : Nat) : Int) - 1 = (i : Int) := by omega
      rw [ei]
      have hb1 : decide ((k : Int) ≤ (i : Int)) = true := decide_eq_true (by omega)
      have hb2 : decide (k ≤ i) = true := decide_eq_true (by omega)
      have HN := Kp.mk (Crc.bk_next O r0 i x (by rw [HOL.out]; omega) HI.out)
      have HGI := Kp.mk (HG.out i)
      have hlo : (0 : Int) ≤ (i : Int) := by omega
      have hi1 : (i : Int) < n := by omega
      have HKI : Kp (k ≤ i ∧ i ≤ n) := ⟨by omega, by omega⟩
      clear ei hlt
      go_wp2
      go_loop [8, 31] (fun r t => ∃ m : Nat, m ≤ 8 ∧ t = .int .i64 m ∧ r = .int .u32 ((Crc.bks m x).toNat : Int)) (fun _ t => 8 - (intOf t).toNat)
      case atStart => exact ⟨0, by omega, rfl, rfl⟩
      case round =>
        obtain ⟨m, hm, rfl, rfl⟩ := hrel
        by_cases hmlt : m < 8
        · go_wp2_with (go_at_call 57; refine (crc_back _ _).mono ?_; rintro e w' ⟨rfl, rfl⟩)
          go_round
          case rel => exact ⟨m + 1, by omega, by go_num, by rw [Crc.bks_succ']⟩
          case measure => simp [intOf]; omega
        · have : m = 8 := by omega
          subst this
          obtain ⟨y, hy⟩ : ∃ y, y = Crc.bks 8 x := ⟨_, rfl⟩
          rw [← hy] at HN ⊢
          clear hy
          by_cases h4 : k + 4 ≤ i
          · have hb3 : decide ((k : Int) + 4 ≤ (i : Int)) = true := decide_eq_true (by omega)
            have hb4 : decide (k + 4 ≤ i) = true := decide_eq_true (by omega)
            have hc := HC.out i (by omega)
            obtain ⟨c, hcc⟩ : ∃ c, c = l.getD i 0#8 := ⟨_, rfl⟩
            rw [← hcc] at hc
            have hx := Crc.xor_byte y c
            obtain ⟨z, hz⟩ : ∃ z, z = y ^^^ c.setWidth 32 := ⟨_, rfl⟩
            rw [← hz] at hx
            have HZ : Kp (Crc.run z (O.drop i) = r0) := ⟨by
              have e := HN.out
              rw [HGI.out, if_neg (by omega), ← hcc, ← hz] at e
              exact e⟩
            clear hz hcc h4
            go_wp2
            go_round
            case rel => exact ⟨i, z, HKI.out.1, HKI.out.2, by go_num, rfl, HZ⟩
            case measure => simp [intOf] <;> omega
          · have hb3 : decide ((k : Int) + 4 ≤ (i : Int)) = false := decide_eq_false (by omega)
            have hb4 : decide (k + 4 ≤ i) = false := decide_eq_false (by omega)
            have HZ : Kp (Crc.run y (O.drop i) = r0) := ⟨by
              have e := HN.out
              have hki := HKI.out.1
              rw [HGI.out, if_pos (by omega), Crc.laid_zero, show (BitVec.setWidth 32 (0#8) : Crc.R) = 0#32 from rfl, BitVec.xor_zero] at e
              exact e⟩
            clear h4
            go_wp2
            go_round
            case rel => exact ⟨i, y, HKI.out.1, HKI.out.2, by go_num, rfl, HZ⟩
            case measure => simp [intOf] <;> omega
    · have : j = k := by omega
      subst this
      have hb1 : decide ((j : Int) ≤ (j : Int) - 1) = false := decide_eq_false (by omega)
      clear hlt hkj hjn
      go_wp2_with fail
      refine (bytes_clone _ n cap l _ HR.out).mono ?_
      rintro e w1 ⟨g, c', rfl, ho, hbl, hg⟩
      have HO1 := Kp.mk ho
      have HB1 := Kp.mk hbl
      have HGE := Kp.mk hg
      obtain ⟨cur, hcur, hcl, htk, hcc, hnc⟩ : ∃ cur : List Value, w1.heap[g]? = some (.cells cur.toArray 5 (0, 0)) ∧ cur.length = c' ∧ cur.take n = bv l ∧ c' ≤ maxLen ∧ n ≤ c' := by
        rcases ho.2 with ⟨hv, _⟩ | ⟨g2, c2, cur, hv, hb2, hh, hf2, hm, hcs, ht⟩
        · simp at hv
        · simp only [Value.slice.injEq, Option.some.injEq, Addr.mk.injEq] at hv
          obtain ⟨⟨rfl, _⟩, _, rfl⟩ := hv
          exact ⟨cur.toList, by rw [hh], by simpa using hcs, by simpa using ht, hm, hf2⟩
      have HCUR := Kp.mk hcur
      have HCL := Kp.mk hcl
      have HTK := Kp.mk htk
      have hjc : ¬ c' = j := by omega
      have hjc2 : j ≤ c' := by omega
      have hjn2 : j ≤ n := by omega
      have hji : (j : Int) ≤ (n : Int) := by omega
      have hj0 : (0 : Int) ≤ (j : Int) := by omega
      have hcapj : ¬ cap = j := by have := HR.out.fits; omega
      have hcapj2 : j ≤ cap := by have := HR.out.fits; omega
      have HI' : Kp (RdB w1 (some ⟨b, off, none⟩) j cap (l.take j)) := ⟨by simpa using (HR.out.later hbl).sub 0 j (by omega)⟩
      obtain ⟨s, hs⟩ : ∃ s, s = Crc.run Crc.ones (l.take j) := ⟨_, rfl⟩
      have CM := fun w h => crc_move Crc.ones (some ⟨b, off, none⟩) j cap (l.take j) w h
      rw [← hs] at CM
      rw [show ((Crc.ones.toNat : Nat) : Int) = 4294967295 from rfl] at CM
      have HCM := Kp.mk CM
      have hx := Crc.xor32 x s
      obtain ⟨v, hv⟩ : ∃ v, v = x ^^^ s := ⟨_, rfl⟩
      rw [← hv] at hx
      have HSUM : Kp (Crc.sum (Crc.patched l j v) = want) := ⟨by
        rw [hv, hs]
        exact Crc.patched_back l j x want (by rw [HL.out]; omega) (by rw [← HOO.out, HI.out, H0.out])⟩
      have hhn := HL.out
      have HNC : Kp (n ≤ c' ∧ c' ≤ maxLen) := ⟨hnc, hcc⟩
      clear ho hbl hg hcur hcl htk CM hs hv hcc hnc
      go_wp2
      go_region_law (first
        | (go_simp
           go_at_call 43
           refine (HCM.out _ (HI'.out.later (Drew.once _).below)).mono ?_
           rintro e w2 ⟨rfl, hb2⟩
           have HB2 := Kp.mk ((Drew.once w1).below.trans (hb2.mono (Drew.once w1).below.size))
           clear hb2)
        | (go_simp
           go_at_call 41
           refine (crc_laid _ _).mono ?_
           rintro e w3 ⟨rfl, hb3, hr3⟩
           have HB3 := Kp.mk (HB2.out.trans (hb3.mono HB2.out.size))
           have HS3 := Kp.mk (rdb_src hr3)
           clear hb3 hr3)
        | (refine step_copy_splice rfl (.tmp 51) (.tmp 58) 22 22 rfl 5 Tryd.underlying22 (by kernel_rfl) _ _ _ _ _ _ (by first | rfl | simp [Act.eval, Act.put]) (by first | rfl | simp [Act.eval, Act.put]) g j cur 5 ((HB3.out.block g (Array.getElem?_eq_some_iff.1 HCUR.out).1).trans HCUR.out) (bv (laidB v)) ?_ ?_ ?_ (bv_one _) w.heap.size w (HB1.out.trans (HB3.out.mono HB1.out.size)) HGE.out ?_
           (exact (Nat.min_eq_left (show 4 ≤ n - j by omega)).symm)
           (intro _; exact ⟨rfl, _, rfl, HS3.out⟩)
           (show j + 4 ≤ cur.length; have := HCL.out; have := HNC.out; omega)
           intro w4 hg4 hb4))
      all_goals (
        have HG4 := Kp.mk hg4
        have HB4 := Kp.mk hb4
        clear hg4 hb4
        go_wp2
        go_ret2
        exact ⟨g, c', v, rfl, HSUM.out, ⟨by rw [bv_length, Crc.patched_length l j v (by omega), hhn]; omega, .inr ⟨g, c', _, rfl, HGE.out, HG4.out, HNC.out.1, HNC.out.2, (by rw [List.size_toArray, length_splice _ _ _ (by rw [bv_length, Crc.laidB_length]; have := HCL.out; have := HNC.out; omega), HCL.out, Nat.mul_one]), (by rw [Nat.mul_one]; exact splice_patched cur l n j v hhn hk HTK.out)⟩⟩, HB4.out⟩)
end Go.Proofs.YtndninajnkejnaaDoor
