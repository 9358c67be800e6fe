/- 'CrcPieces', walked: the sum of two pieces by More and by Join. -/
import Derived.Test.YtndninajnkejnaaDoorPiecesPure
import Derived.Test.YtndninajnkejnaaDoorShiftWalk2
import Derived.Test.YtndninajnkejnaaDoorCrcWalk3
import Derived.Test.YtndninajnkejnaaDoorSealWalk
namespace Go.Proofs.YtndninajnkejnaaDoor
open Go Go.RowKit
set_option linter.unusedVariables false

set_option maxRecDepth 100000 in
theorem crc_join (x y z : BitVec 32) (n : Nat) (w : World) (hn : n < 9223372036854775808) (hT : TabAt w) (hz : Crc.steps (8 * n) x ^^^ y = z) :
    Calls Tryd.prog 21 #[.int .u32 (x.toNat : Int), .int .u32 (y.toNat : Int), .int .i64 (n : Int)] w fun e w' => e = .returned (.tuple #[.int .u32 (z.toNat : Int), .nilIface]) ∧ Below w.heap.size w w' := by
  have C := crc_shift x n w hn hT
  obtain ⟨a, ha⟩ : ∃ a, a = Crc.steps (8 * n) x := ⟨_, rfl⟩
  rw [← ha] at C hz
  have K := Kp.mk C
  have hx := Crc.xor32 a y
  rw [hz] at hx
  clear C ha hz hT
  go_enter Tryd.func21, Tryd.ntmps21
  go_wp2_with fail
  refine K.out.mono ?_
  rintro e w1 ⟨rfl, hb⟩
  have B := Kp.mk hb
  clear hb
  go_wp2
  go_ret2
  exact ⟨rfl, B.out⟩
set_option maxRecDepth 100000 in
set_option maxHeartbeats 1000000 in
theorem law_CrcPieces (a : Option Addr) (n ca : Nat) (l : List (BitVec 8)) (b : Option Addr) (m cb : Nat) (k : List (BitVec 8)) (w : World) (h1 : RdB w a n ca l) (h2 : RdB w b m cb k) (hbound : n + m ≤ 140737488355328) (hTab : TabAt w) :
    Calls Tryd.prog 4 #[.slice a n ca, .slice b m cb] w fun e w' => e = .returned (.bool true) ∧ Below w.heap.size w w' := by
  have H1 := Kp.mk h1
  have H2 := Kp.mk h2
  have HX := Kp.mk hTab
  clear h1 h2 hTab
  go_enter Tryd.func4, Tryd.ntmps4
  go_wp2_with fail
  refine (law_awake _).mono ?_
  rintro e w1 ⟨rfl, hb⟩
  have B1 := Kp.mk hb; clear hb
  have A1 := Kp.mk (H1.out.later B1.out)
  go_wp2_with (first
    | (at_builtin; refine append_fresh rfl _ _ rfl rfl _ _ _ l rfl A1.out ?_; intro g c' w2 HO HB hBg hgl hnc; have B2 := Kp.mk (B1.out.trans (HB.out.mono B1.out.size)); have K2 := Kp.mk (H2.out.later B2.out))
    | (at_builtin; refine append_bytes rfl _ _ rfl w1.heap.size _ n (bv l) rfl HO.out _ m cb k rfl K2.out hbound HB.out.size ?_; intro v' w3 hown hg hne; have B3 := Kp.mk (B2.out.grown hg (Nat.le_trans B1.out.size HB.out.size) (fun j hj => Nat.le_trans B1.out.size (HO.out.lt j hj).1)); rw [← bv_append] at hown; obtain ⟨x3, c3, rfl, hr3⟩ := own_rd hown (by omega); have R3 := Kp.mk hr3; clear hown hg hne hr3))
  obtain ⟨X, hX⟩ : ∃ X, X = Crc.sum l := ⟨_, rfl⟩
  obtain ⟨Y, hY⟩ : ∃ Y, Y = Crc.sum k := ⟨_, rfl⟩
  obtain ⟨Z, hZ⟩ : ∃ Z, Z = Crc.sum (l ++ k) := ⟨_, rfl⟩
  have S1 := fun w h => crc_sum x3 (n + m) c3 (l ++ k) w h
  have S2 := fun w h => crc_sum a n ca l w h
  have S3 := fun w h => crc_sum b m cb k w h
  have M1 := fun w h => crc_more X b m cb k w h
  have M2 := fun w h => crc_more 0#32 a n ca l w h
  have M3 := fun w h => crc_more X none 0 0 [] w h
  rw [hX, Crc.more_sum, ← hX] at M1
  rw [Crc.more_zero] at M2
  rw [Crc.more_nil] at M3
  rw [← hZ] at S1 M1
  rw [← hX] at S2 M2
  rw [← hY] at S3
  have J := Kp.mk (fun w h => crc_join X Y Z m w (by omega) h (by rw [hX, hY, hZ, ← Crc.join_sum l k, H2.out.len]))
  have K1 := Kp.mk S1
  have K3 := Kp.mk S2
  have K4 := Kp.mk S3
  have K5 := Kp.mk M1
  have K6 := Kp.mk M2
  have K7 := Kp.mk M3
  have hzz : ((Z.toNat : Int) != (Z.toNat : Int)) = false := by simp
  have hxx : ((X.toNat : Int) != (X.toNat : Int)) = false := by simp
  clear hX hY hZ S1 S2 S3 M1 M2 M3
  refine (K1.out _ R3.out).mono ?_
  rintro e w4 ⟨rfl, hb⟩
  have B4 := Kp.mk (B3.out.trans (hb.mono B3.out.size)); clear hb
  go_wp2_with fail
  refine (K3.out _ (H1.out.later B4.out)).mono ?_
  rintro e w5 ⟨rfl, hb⟩
  have B5 := Kp.mk (B4.out.trans (hb.mono B4.out.size)); clear hb
  go_wp2_with fail
  refine (K4.out _ (H2.out.later B5.out)).mono ?_
  rintro e w6 ⟨rfl, hb⟩
  have B6 := Kp.mk (B5.out.trans (hb.mono B5.out.size)); clear hb
  go_wp2_with fail
  refine (K5.out _ (H2.out.later B6.out)).mono ?_
  rintro e w7 ⟨rfl, hb⟩
  have B7 := Kp.mk (B6.out.trans (hb.mono B6.out.size)); clear hb
  go_wp2_with fail
  refine (K6.out _ (H1.out.later B7.out)).mono ?_
  rintro e w8 ⟨rfl, hb⟩
  have B8 := Kp.mk (B7.out.trans (hb.mono B7.out.size)); clear hb
  go_wp2_with fail
  refine (K7.out _ (RdB.own (World.ownsRow_nil w8 0 0 1) (by omega))).mono ?_
  rintro e w9 ⟨rfl, hb⟩
  have B9 := Kp.mk (B8.out.trans (hb.mono B8.out.size)); clear hb
  go_wp2_with fail
  refine (J.out _ (HX.out.later B9.out)).mono ?_
  rintro e w10 ⟨rfl, hb⟩
  have B10 := Kp.mk (B9.out.trans (hb.mono B9.out.size)); clear hb
  go_wp2
  go_ret
  exact ⟨ret_bool (by simp), B10.out⟩
end Go.Proofs.YtndninajnkejnaaDoor
