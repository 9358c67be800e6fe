/- 'CrcThere', walked: what is sealed opens; what opens is sealed bytes. -/
import Derived.Test.YtndninajnkejnaaDoorSealWalk
import Derived.Test.YtndninajnkejnaaDoorStep
namespace Go.Proofs.YtndninajnkejnaaDoor
open Go Go.RowKit
set_option linter.unusedVariables false

theorem sealed_eq (l : List (BitVec 8)) (n : Nat) (hn : l.length = n) (h4 : 4 ≤ n) (h : laidB (Crc.sum (l.take (n - 4))) = l.drop (n - 4)) : l.take (n - 4) ++ laidB (Crc.sum (l.take (n - 4))) = l := by
  rw [h, List.take_append_drop]
theorem open_sealed (l : List (BitVec 8)) (n : Nat) (hn : l.length = n) : (l ++ laidB (Crc.sum l)).take (n + 4 - 4) = l ∧ (l ++ laidB (Crc.sum l)).drop (n + 4 - 4) = laidB (Crc.sum l) := by
  subst hn
  simp

theorem rfl_cell (w : World) (cs : Array Value) (t : TypeId) (j : Nat) {v : Value} (h : cs[j]? = some v) : (w.alloc (.cells cs t)).cell? ⟨w.heap.size, j, none⟩ = some v := by
  rw [World.cell?_alloc_at _ _ _ _ rfl]
  exact h
theorem below_d1 (w : World) (o : Obj) : Below w.heap.size w (w.drew.alloc o) := (Below.refl _ _).drew.alloc (Nat.le_refl _) _
theorem below_d2 (w : World) (o o' : Obj) : Below w.heap.size w ((w.drew.alloc o).alloc o') := (below_d1 w o).alloc (below_d1 w o).size _
set_option maxRecDepth 100000 in
set_option maxHeartbeats 4000000 in
theorem law_CrcThere (A : Nat → Addr) (a : Option Addr) (n cap : Nat) (l : List (BitVec 8)) (c : BitVec 8) (w : World) (h : RdB w a n cap l) (hn : n ≤ 140737488351232) (hE : Errs w [1, 6] A) :
    Calls Tryd.prog 3 #[.slice a n cap, .int .u8 (c.toNat : Int)] w fun e w' => e = .returned (.bool true) ∧ Below w.heap.size w w' := by
  have H0 := Kp.mk h
  have HE0 := Kp.mk hE
  clear h hE
  go_enter Tryd.func3, Tryd.ntmps3
  go_wp2_with fail
  refine (law_awake _).mono ?_
  rintro e w1 ⟨rfl, hb⟩
  have H1 := Kp.mk (H0.out.later hb)
  have HE1 := Kp.mk (HE0.out.later hb)
  have B1 := Kp.mk hb; clear hb
  go_wp2_with fail
  refine (crc_seal _ _ _ l _ H1.out (by omega)).mono ?_
  rintro e w2 ⟨g, cs, rfl, ho, hb⟩
  have R2 := Kp.mk (RdB.own ho (by omega))
  have H2 := Kp.mk (H1.out.later hb)
  have HE2 := Kp.mk (HE1.out.later hb)
  have B2 := Kp.mk (B1.out.trans (hb.mono B1.out.size)); clear hb ho
  go_wp2_with fail
  refine (crc_open A _ _ _ _ _ HE2.out R2.out).mono ?_
  rintro e w3 ⟨hb, h⟩
  have hos := open_sealed l n H0.out.len
  rw [hos.1, hos.2] at h
  obtain ⟨v, rfl, ho⟩ : ∃ v, e = .returned (.tuple #[v, .nilIface]) ∧ w3.ownsRow w2.heap.size 5 1 v n (bv l) := by
    rcases h with ⟨h, _⟩ | ⟨_, h, _⟩ | ⟨_, _, v, h1, h2⟩
    · omega
    · exact absurd rfl h
    · exact ⟨v, h1, h2⟩
  clear hos h
  have R3 := Kp.mk (R2.out.later hb)
  have H3 := Kp.mk (H2.out.later hb)
  have HE3 := Kp.mk (HE2.out.later hb)
  have B3 := Kp.mk (B2.out.trans (hb.mono B2.out.size))
  obtain ⟨nx, rfl⟩ : ∃ nx, nx = n := ⟨n, rfl⟩
  obtain ⟨x, cx, rfl, hx⟩ := own_rd ho (by omega)
  have RX := Kp.mk hx
  clear hb ho hx
  go_wp2_with fail
  refine (ref_equal _ _ _ _ _ _ l l _ RX.out H3.out).mono ?_
  rintro e w4 ⟨rfl, hd⟩
  have B4 := Kp.mk (B3.out.trans (hd.below.mono B3.out.size))
  have H4 := Kp.mk (H3.out.later hd.below)
  have R4 := Kp.mk (R3.out.later hd.below)
  have HE4 := Kp.mk (HE3.out.later hd.below)
  clear hd
  have hwr : IntKind.i64.wrap ((nx : Int) + 4 - 1) = (nx : Int) + 3 := IntWalk.i64_in ((nx : Int) + 4 - 1) (by omega) |>.trans (by omega)
  have hcs : Kp (nx + 4 ≤ cs) := ⟨R4.out.fits⟩
  have h0i : (0 : Int) ≤ (nx : Int) + 3 := by omega
  have h3i : (nx : Int) + 3 ≤ (cs : Int) := by have := hcs.out; omega
  have h3t : ((nx : Int) + 3).toNat = nx + 3 := by omega
  go_wp2
  go_region_law (first
    | (refine step_append_fresh rfl (.tmp 36) (.tmp 37) rfl _ (by first | rfl | simp [Act.eval, Act.put]) ⟨g, 0, none⟩ (nx + 4) cs (l ++ laidB (Crc.sum l)) (by first | rfl | simp [Act.eval, Act.put]) (by first | exact R4.out.later (below_d1 _ _) | exact R4.out.later (below_d2 _ _ _)) (by omega) ?_
       intro v5 w5 ho5 hg5
       have hg := below_of_grown hg5
       have HO5 : Kp (w5.ownsRow w4.heap.size 5 1 v5 (nx + 4) (bv (l ++ laidB (Crc.sum l)))) := ⟨by first | exact own_mono ho5 (below_d1 _ _).size | exact own_mono ho5 (below_d2 _ _ _).size⟩
       have HB5 : Kp (Below w4.heap.size w4 w5) := ⟨by first | exact (below_d1 _ _).trans (hg.mono (below_d1 _ _).size) | exact (below_d2 _ _ _).trans (hg.mono (below_d2 _ _ _).size)⟩
       first
         | (have RC5 := Kp.mk ((RdB.lit1 (w4.drew.alloc _) c).later hg))
         | (have RC5 := Kp.mk (((RdB.lit1 w4.drew c).later ((Below.refl _ _).alloc (Nat.le_refl _) _)).later hg))
         | skip
       clear ho5 hg5 hg)
    | (refine step_append_bytes rfl (.tmp 38) (.tmp 40) rfl w4.heap.size _ (nx + 4) (bv (l ++ laidB (Crc.sum l))) (by first | rfl | simp [Act.eval, Act.put]) (by first | exact HO5.out | exact HO5.out.alloc _) _ 1 1 [c] (by first | rfl | simp [Act.eval, Act.put]) (by first | exact RdB.lit1 _ _ | exact RC5.out | simpa using RC5.out) (by omega) (by first | exact HB5.out.size | exact Nat.le_trans HB5.out.size (by simp)) ?_
       intro v6 w6 ho6 hg6
       have HB6 : Kp (Below w4.heap.size w4 w6) := ⟨by first | exact HB5.out.grown hg6 HB5.out.size (fun k hk => (HO5.out.lt k hk).1) | exact (HB5.out.alloc HB5.out.size _).grown hg6 (HB5.out.alloc HB5.out.size _).size (fun k hk => (HO5.out.lt k hk).1)⟩
       obtain ⟨g6, c6, rfl, _⟩ := own_shape ho6 (by rintro rfl; rcases ho6.2 with ⟨_, h⟩ | ⟨_, _, _, h, _⟩ <;> simp at h)
       rw [← bv_append] at ho6
       have R6 := Kp.mk (RdB.own ho6 (by omega))
       clear ho6 hg6))
  all_goals (
    have HT : Kp (∀ j, j < 3 → ∃ a' n' c' l', (w6.alloc (.cells #[.slice a nx cap, .slice (some ⟨g6, 0, none⟩) (nx + 4 + 1) c6, .slice (some ⟨g, 0, none⟩) (nx + 3) cs] 22)).cell? ⟨w6.heap.size, j, none⟩ = some (.slice a' n' c') ∧ RdB (w6.alloc (.cells #[.slice a nx cap, .slice (some ⟨g6, 0, none⟩) (nx + 4 + 1) c6, .slice (some ⟨g, 0, none⟩) (nx + 3) cs] 22)) a' n' c' l' ∧ n' ≤ nx + 5) := ⟨fun j hj => by
      have hB := (Below.refl w6.heap.size w6).alloc (Nat.le_refl _) (.cells #[.slice a nx cap, .slice (some ⟨g6, 0, none⟩) (nx + 4 + 1) c6, .slice (some ⟨g, 0, none⟩) (nx + 3) cs] 22)
      match j, hj with
      | 0, _ => exact ⟨a, nx, cap, l, rfl_cell _ _ _ _ rfl, (H4.out.later HB6.out).later hB, by omega⟩
      | 1, _ => exact ⟨_, _, _, _, rfl_cell _ _ _ _ rfl, R6.out.later hB, by omega⟩
      | 2, _ => exact ⟨_, _, _, _, rfl_cell _ _ _ _ rfl, by
          have := ((R4.out.later HB6.out).later hB).sub 0 (nx + 3) (by omega)
          simpa using this, by omega⟩⟩
    have HE6 := Kp.mk ((HE4.out.later HB6.out).later ((Below.refl w6.heap.size w6).alloc (Nat.le_refl _) (.cells #[.slice a nx cap, .slice (some ⟨g6, 0, none⟩) (nx + 4 + 1) c6, .slice (some ⟨g, 0, none⟩) (nx + 3) cs] 22)))
    have B6 := Kp.mk ((B4.out.trans (HB6.out.mono B4.out.size)).alloc (B4.out.trans (HB6.out.mono B4.out.size)).size (.cells #[.slice a nx cap, .slice (some ⟨g6, 0, none⟩) (nx + 4 + 1) c6, .slice (some ⟨g, 0, none⟩) (nx + 3) cs] 22))
    generalize (w6.alloc (.cells #[.slice a nx cap, .slice (some ⟨g6, 0, none⟩) (nx + 4 + 1) c6, .slice (some ⟨g, 0, none⟩) (nx + 3) cs] 22)) = W0 at HT HE6 B6 ⊢
    clear h0i h3i h3t hwr hcs HO5 HB5
    go_wp2
    go_simp
    go_loopw [6, 7, 9, 49] (fun x6 x7 x9 i wr => ∃ j : Nat, j ≤ 3 ∧ i = .int .i64 j ∧ Kp (Below W0.heap.size W0 wr)) (fun _ _ _ i _ => 3 - (intOf i).toNat)
    case atStart => exact ⟨0, by omega, rfl, ⟨Below.refl _ _⟩⟩
    case round =>
      obtain ⟨j, hj, rfl, HBr⟩ := hrel
      by_cases hlt : j < 3
      · have hbt : decide ((j : Int) < 3) = true := decide_eq_true (by omega)
        obtain ⟨a', n', c', l', hc, hr, hn'⟩ := HT.out j hlt
        have hcell := (HBr.out.cell (World.block_lt_of_cell? W0 _ hc)).trans hc
        have HRr := Kp.mk (hr.later HBr.out)
        have HEr := Kp.mk (HE6.out.later HBr.out)
        have HN := Kp.mk hn'
        have hj3 : j < 3 := hlt
        clear hc hr hlt hn'
        go_wp2_with fail
        refine (crc_open A _ _ _ l' _ HEr.out HRr.out).mono ?_
        rintro e w7 ⟨hb, h⟩
        have HB7 := Kp.mk (HBr.out.trans (hb.mono HBr.out.size))
        have HR7 := Kp.mk (HRr.out.later hb)
        clear hb
        rcases h with ⟨_, rfl⟩ | ⟨_, _, rfl⟩ | ⟨h4, heq, v, rfl, ho⟩
        · go_wp2
          go_roundw
          case rel => exact ⟨j + 1, by omega, by go_num, HB7⟩
          case measure => simp [intOf]; omega
        · go_wp2
          go_roundw
          case rel => exact ⟨j + 1, by omega, by go_num, HB7⟩
          case measure => simp [intOf]; omega
        · obtain ⟨xv, cv, hv, hx⟩ := own_rd ho (by have := HN.out; omega)
          subst hv
          have HX7 := Kp.mk hx
          have HEQ := Kp.mk (sealed_eq l' n' HR7.out.len h4 heq)
          clear hx h4 heq ho
          go_wp2_with fail
          refine (crc_seal _ _ _ (l'.take (n' - 4)) _ HX7.out (by have := HN.out; omega)).mono ?_
          rintro e w8 ⟨g8, c8, rfl, ho, hb⟩
          rw [HEQ.out] at ho
          have HB8 := Kp.mk (HB7.out.trans (hb.mono HB7.out.size))
          have HR8 := Kp.mk (HR7.out.later hb)
          have HS8 := Kp.mk (RdB.own ho (by have := HN.out; omega))
          clear ho hb
          go_wp2_with fail
          refine (ref_equal _ _ _ _ _ _ l' l' _ HS8.out HR8.out).mono ?_
          rintro e w9 ⟨rfl, hd⟩
          have HB9 := Kp.mk (HB8.out.trans (hd.below.mono HB8.out.size))
          clear hd
          have ht : decide (l' = l') = true := decide_eq_true rfl
          go_wp2
          go_roundw
          case rel => exact ⟨j + 1, by omega, by go_num, HB9⟩
          case measure => simp [intOf]; omega
      · have : j = 3 := by omega
        subst this
        go_wp2
        go_ret
        exact ⟨rfl, B6.out.trans (HBr.out.mono B6.out.size)⟩)
end Go.Proofs.YtndninajnkejnaaDoor
