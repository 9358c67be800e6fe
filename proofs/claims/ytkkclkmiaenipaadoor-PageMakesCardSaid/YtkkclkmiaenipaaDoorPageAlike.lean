/- Pages alike: the document's Alike, the program's. -/
import Derived.Test.YtkkclkmiaenipaaDoorPageSame
import Derived.Great.Ranges
namespace Go.Proofs.YtkkclkmiaenipaaDoor
open Go Go.RowKit
set_option linter.unusedVariables false

theorem like_false {p q : PageV} (h : ¬ p.rights = q.rights) : p.like q = false := by simp [PageV.like, h]
theorem like_data {p q : PageV} (h : p.rights = q.rights) : p.like q = dataEq p.data q.data := by simp [PageV.like, h]
set_option maxRecDepth 100000 in
set_option maxHeartbeats 4000000 in
theorem ref_alike (a1 a2 : Option Addr) (n m c1 c2 : Nat) (P Q : Nat → PageV) (w : World) (h1 : RdP w a1 n c1 P) (h2 : RdP w a2 m c2 Q) (r : Bool)
    (h : r = true ↔ n = m ∧ ∀ i, i < n → (P i).like (Q i) = true) :
    Calls Tryd.prog 29 #[.slice a1 n c1, .slice a2 m c2] w fun e w' => e = .returned (.bool r) ∧ Drew w w' := by
  have H1 := Kp.mk h1
  have H2 := Kp.mk h2
  have HR := Kp.mk h
  have hn := h1.bound
  clear h1 h2 h
  by_cases hnm : n = m
  · subst hnm
    have hb : ((n : Int) != (n : Int)) = false := by simp
    have hg := guardData
    have he := data_eq 9998
    go_enter Tryd.func29, Tryd.ntmps29
    go_wp2
    go_loopw [5] (fun i wr => ∃ k : Nat, k ≤ n ∧ i = .int .i64 k ∧ Kp (Drew w wr) ∧ Kp (∀ i, i < k → (P i).like (Q i) = true)) (fun i _ => n - (intOf i).toNat)
    case atStart => exact ⟨0, by omega, rfl, ⟨Drew.refl _⟩, ⟨fun i hi => by omega⟩⟩
    case round =>
      obtain ⟨k, hk, rfl, HB, HA⟩ := hrel
      by_cases hlt : k < n
      · have hb : decide ((k : Int) < n) = true := decide_eq_true (by omega)
        obtain ⟨b1, o1, ha1, _⟩ := H1.out.cells (by omega)
        obtain ⟨b2, o2, ha2, _⟩ := H2.out.cells (by omega)
        have G1 := Kp.mk (prange_later (H1.out.page ha1 k hlt) HB.out.below)
        have G2 := Kp.mk (prange_later (H2.out.page ha2 k hlt) HB.out.below)
        have L1 := Kp.mk (data_at G1.out)
        have L2 := Kp.mk (data_at G2.out)
        have k1 : wr.cell? ⟨b1, o1 + k * 66, none⟩ = some (.int .i64 (P k).rights) := G1.out 0 _ rfl
        have k2 : wr.cell? ⟨b2, o2 + k * 66, none⟩ = some (.int .i64 (Q k).rights) := G2.out 0 _ rfl
        subst ha1
        subst ha2
        obtain ⟨x1, hx1⟩ : ∃ x, x = (P k).rights := ⟨_, rfl⟩
        obtain ⟨x2, hx2⟩ : ∃ x, x = (Q k).rights := ⟨_, rfl⟩
        rw [← hx1] at k1
        rw [← hx2] at k2
        obtain ⟨d, hd⟩ : ∃ d, d = dataEq (P k).data (Q k).data := ⟨_, rfl⟩
        have he' := fun w => he (P k).data (Q k).data w
        rw [← hd] at he'
        have HD := Kp.mk hd
        have HX1 := Kp.mk hx1
        have HX2 := Kp.mk hx2
        clear he hd hx1 hx2
        by_cases hrt : x1 = x2
        · subst hrt
          have hne : (x1 != x1) = false := by simp
          have HK : Kp ((P k).like (Q k) = d) := ⟨by rw [like_data (HX1.out.symm.trans HX2.out), HD.out]⟩
          go_wp2
          refine wp_region_quiet_lit (by kernel_rfl) (by kernel_rfl) ?_
          repeat (first
            | ((first
                | (refine quiet_load rfl 34 _ rfl b1 (o1 + k * 66 + 2) rfl (dataL (P k).data) _ L1.out Tryd.underlying34 rfl (dataLen _) ?_)
                | (refine quiet_load rfl 34 _ rfl b2 (o2 + k * 66 + 2) rfl (dataL (Q k).data) _ L2.out Tryd.underlying34 rfl (dataLen _) ?_)); simp only [Act.put, List.setIfInBounds_toArray, List.set_cons_zero, List.set_cons_succ])
            | quiet_step (fail))
          refine wpQuiet_nil ?_
          rintro _ ⟨nq, rfl⟩
          have HB2 := Kp.mk (HB.out.trans ⟨nq, rfl⟩)
          cases d
          · have hr : r = false := by
              cases r with
              | false => rfl
              | true => exact absurd ((HR.out.1 rfl).2 k hlt) (by rw [HK.out]; simp)
            subst hr
            go_wp2
            go_ret
            exact ⟨by first | rfl | trivial, HB2.out⟩
          · have HA2 : Kp (∀ i, i < k + 1 → (P i).like (Q i) = true) := ⟨fun i hi => by
              by_cases e : i = k
              · subst e; exact HK.out
              · exact HA.out i (by omega)⟩
            go_wp2
            go_roundw
            case rel => exact ⟨k + 1, by omega, by go_num, HB2, HA2⟩
            case measure => simp [intOf]; omega
        · have hne : (x1 != x2) = true := by simpa using hrt
          have hr : r = false := by
            cases r with
            | false => rfl
            | true => exact absurd ((HR.out.1 rfl).2 k hlt) (by rw [like_false (by rw [← HX1.out, ← HX2.out]; exact hrt)]; simp)
          subst hr
          go_wp2
          go_quiet (fail)
          have HB2 := Kp.mk (HB.out.trans ⟨nq, rfl⟩)
          go_wp2
          go_ret
          exact ⟨by first | rfl | trivial, HB2.out⟩
      · have : k = n := by omega
        subst this
        have hr : r = true := HR.out.2 ⟨by first | rfl | trivial, HA.out⟩
        subst hr
        have hb : decide ((k : Int) < k) = false := by simp
        go_wp2
        go_ret
        exact ⟨rfl, HB.out⟩
  · have hr : r = false := by
      cases r with
      | false => rfl
      | true => exact absurd (HR.out.1 rfl).1 hnm
    subst hr
    have hb : ((n : Int) != (m : Int)) = true := by simp; omega
    go_enter Tryd.func29, Tryd.ntmps29
    go_wp2
    go_ret
    exact ⟨rfl, Drew.refl _⟩
/-- The zero page. -/
noncomputable def zPage : Array Value := (PageV.row ⟨0, false, fun _ => 0#8⟩).toArray
theorem zvPage (w : World) : (zeroValue 36).run Tryd.prog w = .ok (.agg zPage) w := by kernel_rfl
set_option maxRecDepth 100000 in
set_option maxHeartbeats 4000000 in
theorem page_alike1 (p q : PageV) (w : World) :
    Calls Tryd.prog 47 #[.agg p.row.toArray, .agg q.row.toArray] w fun e w' => e = .returned (.bool (p.like q)) ∧ Below w.heap.size w w' := by
  obtain ⟨w1, hw1⟩ : ∃ w1, w1 = w.alloc (.cells p.row.toArray 36) := ⟨_, rfl⟩
  obtain ⟨w2, hw2⟩ : ∃ w2, w2 = w1.alloc (.cells q.row.toArray 36) := ⟨_, rfl⟩
  have s1 : w1.heap.size = w.heap.size + 1 := by rw [hw1]; exact Array.size_push _
  have b1 : Below w.heap.size w w1 := by rw [hw1]; exact (Below.refl _ _).alloc (Nat.le_refl _) _
  have c2 : Below w1.heap.size w1 w2 := by rw [hw2]; exact (Below.refl _ _).alloc (Nat.le_refl _) _
  have g1 : w1.rangeAt w.heap.size 0 p.row := fun j v hv => by rw [hw1, Nat.zero_add, World.cell?_alloc_new]; simpa using hv
  have g2 : w2.rangeAt w1.heap.size 0 q.row := fun j v hv => by rw [hw2, Nat.zero_add, World.cell?_alloc_new]; simpa using hv
  have g1' := prange_later g1 c2
  rw [s1] at g2
  have L1 := Kp.mk (data_in g1')
  have L2 := Kp.mk (data_in g2)
  have k1 : w2.cell? ⟨w.heap.size, 0, none⟩ = some (.int .i64 p.rights) := g1' 0 _ rfl
  have k2 : w2.cell? ⟨w.heap.size + 1, 0, none⟩ = some (.int .i64 q.rights) := g2 0 _ rfl
  have HB := Kp.mk (b1.trans (c2.mono b1.size))
  have HW1 := Kp.mk hw1
  have HW2 := Kp.mk hw2
  have HS1 := Kp.mk s1
  clear g1 g2 g1' c2 b1 s1 hw1 hw2
  obtain ⟨x1, hx1⟩ : ∃ x, x = p.rights := ⟨_, rfl⟩
  obtain ⟨x2, hx2⟩ : ∃ x, x = q.rights := ⟨_, rfl⟩
  rw [← hx1] at k1
  rw [← hx2] at k2
  have hg := guardData
  have he := data_eq 9998 p.data q.data
  obtain ⟨d, hd⟩ : ∃ d, d = dataEq p.data q.data := ⟨_, rfl⟩
  rw [← hd] at he
  by_cases hrt : x1 = x2
  · have hk : p.like q = d := by rw [like_data (by rw [← hx1, ← hx2]; exact hrt), hd]
    rw [hk]
    subst hrt
    clear hk hd hx1 hx2
    have hne : (x1 == x1) = true := by simp
    go_enter Tryd.func47, Tryd.ntmps47
    go_wp2_with (first
      | (refine Great.wpList_boxTo rfl 36 (.tmp 0) rfl _ rfl w.heap.size rfl p.row.toArray rfl ?_; rw [← HW1.out])
      | (refine Great.wpList_boxTo rfl 36 (.tmp 1) rfl _ rfl (w.heap.size + 1) HS1.out q.row.toArray rfl ?_; rw [← HW2.out])
      | (refine wpList_load_mid_g rfl 34 _ rfl w.heap.size 2 rfl (dataL p.data) _ L1.out Tryd.underlying34 rfl (dataLen _) ?_)
      | (refine wpList_load_mid_g rfl 34 _ rfl (w.heap.size + 1) 2 rfl (dataL q.data) _ L2.out Tryd.underlying34 rfl (dataLen _) ?_))
    go_ret
    exact ⟨rfl, HB.out⟩
  · have hk : p.like q = false := like_false (by rw [← hx1, ← hx2]; exact hrt)
    rw [hk]
    have hne : (x1 == x2) = false := by simpa using hrt
    clear hk hd hx1 hx2
    go_enter Tryd.func47, Tryd.ntmps47
    go_wp2_with (first
      | (refine Great.wpList_boxTo rfl 36 (.tmp 0) rfl _ rfl w.heap.size rfl p.row.toArray rfl ?_; rw [← HW1.out])
      | (refine Great.wpList_boxTo rfl 36 (.tmp 1) rfl _ rfl (w.heap.size + 1) HS1.out q.row.toArray rfl ?_; rw [← HW2.out]))
    go_ret
    exact ⟨rfl, HB.out⟩
/-- A page in a new variable. -/
theorem page_local (wr : World) (p : PageV) : ∃ w1, w1 = (wr.alloc (.cells zPage 36)).setRow wr.heap.size p.row.toArray ∧ Below wr.heap.size wr w1 ∧ w1.heap[wr.heap.size]? = some (.cells p.row.toArray 36 (0, 0)) :=
  ⟨_, rfl, below_setRow ((Below.refl _ _).alloc (Nat.le_refl _) _) (Nat.le_refl _) _, setRow_heap _ _ _ _ _ (0, 0) (heap_alloc_last wr _)⟩
theorem zPage_size (p : PageV) : zPage.size = p.row.toArray.size := by simp [zPage, PageV.row_length]
theorem pageAll (p : PageV) : p.row.toArray.all (·.oneCell') = true := by
  rw [Array.all_eq_true_iff_forall_mem]
  intro v hv
  exact PageV.row_one p v (by simpa using hv)
theorem pageSize (p : PageV) : (Tryd.prog.info? 36).map (·.size) = some p.row.toArray.size := by
  rw [List.size_toArray]; exact pageLen p
set_option maxRecDepth 100000 in
set_option maxHeartbeats 4000000 in
theorem page_equal (a1 a2 : Option Addr) (n m c1 c2 : Nat) (P Q : Nat → PageV) (w : World) (h1 : RdP w a1 n c1 P) (h2 : RdP w a2 m c2 Q) (r : Bool)
    (h : r = true ↔ n = m ∧ ∀ i, i < n → (P i).like (Q i) = true) :
    Calls Tryd.prog 46 #[.slice a1 n c1, .slice a2 m c2, .func (.func 47) #[] #[]] w fun e w' => e = .returned (.bool r) ∧ Below w.heap.size w w' := by
  have H1 := Kp.mk h1
  have H2 := Kp.mk h2
  have HR := Kp.mk h
  have hn := h1.bound
  clear h1 h2 h
  by_cases hnm : n = m
  · subst hnm
    have hb : ((n : Int) != (n : Int)) = false := by simp
    have hzv := zvPage
    go_enter Tryd.func46, Tryd.ntmps46
    go_wp2
    go_loopw [17] (fun i wr => ∃ k : Nat, k ≤ n ∧ i = .int .i64 k ∧ Kp (Below w.heap.size w wr) ∧ Kp (∀ i, i < k → (P i).like (Q i) = true)) (fun i _ => n - (intOf i).toNat)
    case atStart => exact ⟨0, by omega, rfl, ⟨Below.refl _ _⟩, ⟨fun i hi => by omega⟩⟩
    case round =>
      obtain ⟨k, hk, rfl, HB, HA⟩ := hrel
      by_cases hlt : k < n
      · have hb : decide ((k : Int) < n) = true := decide_eq_true (by omega)
        obtain ⟨b1, o1, ha1, _⟩ := H1.out.cells (by omega)
        obtain ⟨b2, o2, ha2, _⟩ := H2.out.cells (by omega)
        have G1 := Kp.mk (prange_later (H1.out.page ha1 k hlt) HB.out)
        have G2 := prange_later (H2.out.page ha2 k hlt) HB.out
        subst ha1
        subst ha2
        obtain ⟨w1, e1, b1', x1⟩ := page_local wr (P k)
        obtain ⟨w2, e2, b2', x2⟩ := page_local w1 (Q k)
        have s1 : wr.heap.size < w1.heap.size := (Array.getElem?_eq_some_iff.1 x1).1
        have G3 := Kp.mk (prange_later G2 b1')
        have X1 := Kp.mk ((b2'.block _ s1).trans x1)
        have X2 := Kp.mk x2
        have E1 := Kp.mk e1
        have E2 := Kp.mk e2
        have B2 := Kp.mk (HB.out.trans ((b1'.trans (b2'.mono (Nat.le_of_lt s1))).mono HB.out.size))
        have KC := fun w => page_alike1 (P k) (Q k) w
        obtain ⟨d, hd⟩ : ∃ d, d = (P k).like (Q k) := ⟨_, rfl⟩
        rw [← hd] at KC
        have HD := Kp.mk hd
        have KC := Kp.mk KC
        clear G2 e1 e2 b1' b2' x1 x2 s1 hd
        cases d
        all_goals go_wp2_with (first
          | (refine wpList_load_mid rfl 36 _ rfl b1 (o1 + k * 66) rfl (P k).row _ G1.out Tryd.underlying36 rfl (pageLen _) ?_)
          | (refine wpList_load_mid rfl 36 _ rfl b2 (o2 + k * 66) rfl (Q k).row _ G3.out Tryd.underlying36 rfl (pageLen _) ?_)
          | (refine wpList_store_row rfl 36 _ _ rfl wr.heap.size (P k).row.toArray rfl rfl 36 zPage (heap_alloc_last wr _) (pageSize _) (zPage_size _) (pageAll _) ?_; rw [← E1.out])
          | (refine wpList_store_row rfl 36 _ _ rfl w1.heap.size (Q k).row.toArray rfl rfl 36 zPage (heap_alloc_last w1 _) (pageSize _) (zPage_size _) (pageAll _) ?_; rw [← E2.out])
          | (refine wpList_load_row rfl 36 _ rfl wr.heap.size rfl 36 (P k).row.toArray (0, 0) _ X1.out Tryd.underlying36 rfl (pageSize _) ?_)
          | (refine wpList_load_row rfl 36 _ rfl w1.heap.size rfl 36 (Q k).row.toArray (0, 0) _ X2.out Tryd.underlying36 rfl (pageSize _) ?_)
          | (refine (KC.out _).mono ?_; rintro e w3 ⟨rfl, hb3⟩))
        · have hr : r = false := by
            cases r with
            | false => rfl
            | true => exact absurd ((HR.out.1 rfl).2 k hlt) (by rw [← HD.out]; simp)
          subst hr
          go_ret
          exact ⟨rfl, B2.out.trans (hb3.mono B2.out.size)⟩
        · have HA2 : Kp (∀ i, i < k + 1 → (P i).like (Q i) = true) := ⟨fun i hi => by
            by_cases e : i = k
            · subst e; exact HD.out.symm
            · exact HA.out i (by omega)⟩
          have HB3 := Kp.mk (B2.out.trans (hb3.mono B2.out.size))
          go_roundw
          case rel => exact ⟨k + 1, by omega, by go_num, HB3, HA2⟩
          case measure => simp [intOf]; omega
      · have : k = n := by omega
        subst this
        have hr : r = true := HR.out.2 ⟨by first | rfl | trivial, HA.out⟩
        subst hr
        have hb : decide ((k : Int) < k) = false := by simp
        go_wp2
        go_ret
        exact ⟨rfl, HB.out⟩
  · have hr : r = false := by
      cases r with
      | false => rfl
      | true => exact absurd (HR.out.1 rfl).1 hnm
    subst hr
    have hb : ((n : Int) != (m : Int)) = true := by simp; omega
    go_enter Tryd.func46, Tryd.ntmps46
    go_wp2
    go_ret
    exact ⟨rfl, Below.refl _ _⟩
set_option maxRecDepth 100000 in
set_option maxHeartbeats 4000000 in
theorem page_alike (a1 a2 : Option Addr) (n m c1 c2 : Nat) (P Q : Nat → PageV) (w : World) (h1 : RdP w a1 n c1 P) (h2 : RdP w a2 m c2 Q) (r : Bool)
    (h : r = true ↔ n = m ∧ ∀ i, i < n → (P i).like (Q i) = true) :
    Calls Tryd.prog 22 #[.slice a1 n c1, .slice a2 m c2] w fun e w' => e = .returned (.bool r) ∧ Below w.heap.size w w' := by
  have K := Kp.mk (page_equal a1 a2 n m c1 c2 P Q w h1 h2 r h)
  clear h1 h2 h
  go_enter Tryd.func22, Tryd.ntmps22
  go_wp2_with fail
  refine K.out.mono ?_
  rintro e w3 ⟨rfl, hb3⟩
  go_wp2
  go_ret
  exact ⟨rfl, hb3⟩
end Go.Proofs.YtkkclkmiaenipaaDoor
