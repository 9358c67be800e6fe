/- What is stored is loaded, nothing else is touched: plain laws; the statements' others, walked. -/
import Derived.Test.YtkkclkmiaenipaaDoorPagePokes
namespace Go.Proofs.YtkkclkmiaenipaaDoor
open Go Go.RowKit
set_option linter.unusedVariables false

/-- Store is In of the number's bytes. -/
theorem store_inP (P : Nat → PageV) (ad s x : Nat) (hs : 0 < s) (hr : ad % 64 + s ≤ 64) : Pg.store P ad s x = inP P ad (fun j => BitVec.ofNat 8 (x / 256 ^ (s - 1 - j))) s := by
  obtain ⟨t, rfl⟩ : ∃ t, s = t + 1 := ⟨s - 1, by omega⟩
  have h := inP_piece P ad 0 (ad / 64) (ad % 64) (fun j => BitVec.ofNat 8 (x / 256 ^ (t + 1 - 1 - j))) (by rw [Nat.add_zero]) (by rw [Nat.add_zero]) t hr
  rw [Nat.zero_add] at h
  rw [h]
  have hd : (fun z => if ad % 64 ≤ z ∧ z < ad % 64 + (t + 1) then BitVec.ofNat 8 (x / 256 ^ (ad % 64 + (t + 1) - 1 - z)) else (P (ad / 64)).data z) = (fun z => if ad % 64 ≤ z ∧ z < ad % 64 + (t + 1) then BitVec.ofNat 8 (x / 256 ^ (t + 1 - 1 - (0 + (z - ad % 64)))) else (P (ad / 64)).data z) := by
    funext z
    by_cases hz : ad % 64 ≤ z ∧ z < ad % 64 + (t + 1)
    · simp only [hz, and_self, if_true]
      congr 3
      omega
    · simp only [hz, if_false]
  show upd P (ad / 64) ⟨(P (ad / 64)).rights, true, fun z => if ad % 64 ≤ z ∧ z < ad % 64 + (t + 1) then BitVec.ofNat 8 (x / 256 ^ (ad % 64 + (t + 1) - 1 - z)) else (P (ad / 64)).data z⟩ = upd P (ad / 64) ⟨(P (ad / 64)).rights, true, fun z => if ad % 64 ≤ z ∧ z < ad % 64 + (t + 1) then BitVec.ofNat 8 (x / 256 ^ (t + 1 - 1 - (0 + (z - ad % 64)))) else (P (ad / 64)).data z⟩
  rw [hd]
theorem byte_inP (P : Nat → PageV) (ad s x j : Nat) (hj : j < s) : Pg.byte (inP P ad (fun j => BitVec.ofNat 8 (x / 256 ^ (s - 1 - j))) s) (ad + j) = x / 256 ^ (s - 1 - j) % 256 := by
  unfold Pg.byte
  rw [(inP_in P ad _ s j hj).1, BitVec.toNat_ofNat]
theorem num_stored (P : Nat → PageV) (ad s x : Nat) : ∀ j, j ≤ s → Pg.num (inP P ad (fun j => BitVec.ofNat 8 (x / 256 ^ (s - 1 - j))) s) ad j = x / 256 ^ (s - j) % 256 ^ j
  | 0, _ => by simp [Pg.num, Nat.mod_one]
  | j + 1, hj => by
    rw [Pg.num, num_stored P ad s x j (by omega), byte_inP P ad s x j (by omega)]
    have e1 : s - 1 - j = s - (j + 1) := by omega
    have e2 : s - j = (s - (j + 1)) + 1 := by omega
    rw [e1, e2, Nat.pow_succ, ← Nat.div_div_eq_div_mul, Nat.pow_succ, Nat.mul_comm (256 ^ j) 256, Nat.mod_mul]
    omega
/-- The pages are alike but for k bytes from an address on and the marks of their pages. -/
structure Others (P Q : Nat → PageV) (n ad k : Nat) : Prop where
  rights : ∀ i, i < n → (P i).rights = (Q i).rights
  hit : ∀ i, i < n → 0 < k → ad / 64 ≤ i → i ≤ (ad + k - 1) / 64 → (Q i).dirty = true
  no : ∀ i, i < n → ¬ (0 < k ∧ ad / 64 ≤ i ∧ i ≤ (ad + k - 1) / 64) → (P i).row = (Q i).row
  data : ∀ i, i < n → ∀ j, j < 64 → (64 * i + j < ad ∨ ad + k ≤ 64 * i + j) → (P i).data j = (Q i).data j
theorem others_inP (P : Nat → PageV) (n ad k : Nat) (f : Nat → BitVec 8) : Others P (inP P ad f k) n ad k where
  rights := fun i _ => (inP_rights P ad f i k).symm
  hit := fun i _ hk h1 h2 => by
    by_cases h : i * 64 ≤ ad
    · have := (inP_in P ad f k 0 hk).2
      rwa [Nat.add_zero, show ad / 64 = i by omega] at this
    · have := (inP_in P ad f k (i * 64 - ad) (by omega)).2
      rwa [show (ad + (i * 64 - ad)) / 64 = i by omega] at this
  no := fun i _ h => by
    rw [inP_page P ad f i k (fun j hj e => h ⟨by omega, by omega, by omega⟩)]
  data := fun i _ j hj h => (inP_out P ad f i j hj k h).symm
theorem Others.to {P Q Q' : Nat → PageV} {n ad k : Nat} (h : Others P Q n ad k) (e : Q = Q') : Others P Q' n ad k := e ▸ h
theorem neq_self (x : Int) : (x != x) = false := by simp
theorem quiet_load_o {P : Program} {ops : Array Oper} {C : World → Prop} {Q : Act → Prop} {a : Act} {o : Oper} {rest : List Oper} (ty : TypeId) (x : Operand) (ho : o.op = .load ty x)
    (b off : Nat) (hx : a.eval x = .pointer (some ⟨b, off, none⟩)) (cs : List Value) (d : TypeDesc) (hc : ∀ w', C w' → w'.rangeAt b off cs)
    (hu : P.underlying ty = some d) (hd : d.isRow = true) (hi : (P.info? ty).map (·.size) = some cs.length) (hw : Region.wanted o (yielded ops a.tmps) = true)
    (h : wpQuiet P ops C Q rest (a.put o.dst (.agg cs.toArray))) : wpQuiet P ops C Q (o :: rest) a :=
  quiet_load hw ty x ho b off hx cs d hc hu hd hi h
set_option maxRecDepth 100000 in
set_option maxHeartbeats 8000000 in
theorem law_others (a1 a2 : Option Addr) (n c1 c2 : Nat) (P Q : Nat → PageV) (w : World) (h1 : RdP w a1 n c1 P) (h2 : RdP w a2 n c2 Q) (ad k : Nat) (had : ad < 4294967296) (hk : k < 4611686018427387904) (h : Others P Q n ad k) :
    Calls Tryd.prog 32 #[.slice a1 n c1, .slice a2 n c2, .int .i64 (ad : Int), .int .i64 (k : Int)] w fun e w' => e = .returned (.bool true) ∧ Drew w w' := by
  have H1 := Kp.mk h1
  have H2 := Kp.mk h2
  have HO := Kp.mk h
  have hn := h1.bound
  clear h1 h2 h
  have hb : ((n : Int) != (n : Int)) = false := by simp
  have hg := guardPage
  have he := page_eq 9997
  obtain ⟨q, hq⟩ : ∃ q, q = ad / 64 := ⟨_, rfl⟩
  obtain ⟨z, hz⟩ : ∃ z, z = ad + k := ⟨_, rfl⟩
  obtain ⟨q2, hq2⟩ : ∃ q2, q2 = (z - 1) / 64 := ⟨_, rfl⟩
  have hq1 : (ad : Int) / 64 = (q : Int) := by omega
  have hz1 : (ad : Int) + (k : Int) = (z : Int) := by omega
  have hzb : z < 4611686022722355200 := by omega
  have HQ := Kp.mk (And.intro hq (And.intro hz hq2))
  clear hq hz hq2
  go_enter Tryd.func32, Tryd.ntmps32
  go_wp2
  go_loopw [9, 10, 11] (fun i _ _ wr => ∃ t : Nat, t ≤ n ∧ i = .int .i64 t ∧ Kp (Drew w wr)) (fun i _ _ _ => n - (intOf i).toNat)
  case atStart => exact ⟨0, by omega, rfl, ⟨Drew.refl _⟩⟩
  case round =>
    obtain ⟨t, ht, rfl, HB⟩ := hrel
    by_cases hlt : t < n
    · have hb : decide ((t : Int) < n) = true := decide_eq_true (by omega)
      obtain ⟨b1, o1, ha1, hc1⟩ := H1.out.cells (by omega)
      obtain ⟨b2, o2, ha2, hc2⟩ := H2.out.cells (by omega)
      have G1 := hc1 t hlt
      have G2 := hc2 t hlt
      have C1 := Kp.mk G1
      have C2 := Kp.mk G2
      have L1 := Kp.mk (page_at (prange_later G1 HB.out.below))
      have L2 := Kp.mk (page_at (prange_later G2 HB.out.below))
      have r1 : wr.cell? ⟨b1, o1 + t * 66, none⟩ = some (.int .i64 (P t).rights) := prange_later G1 HB.out.below 0 _ rfl
      have r2 : wr.cell? ⟨b2, o2 + t * 66, none⟩ = some (.int .i64 (Q t).rights) := prange_later G2 HB.out.below 0 _ rfl
      have d2 : wr.cell? ⟨b2, o2 + t * 66 + 1, none⟩ = some (.bool (Q t).dirty) := prange_later G2 HB.out.below 1 _ rfl
      rw [HO.out.rights t hlt] at r1
      obtain ⟨x, hx⟩ : ∃ x, x = (Q t).rights := ⟨_, rfl⟩
      obtain ⟨dd, hdd⟩ : ∃ dd, dd = (Q t).dirty := ⟨_, rfl⟩
      rw [← hx] at r1 r2
      rw [← hdd] at d2
      have hxx := neq_self x
      subst ha1
      subst ha2
      clear hc1 hc2 G1 G2 hx
      have hcase : (0 < k ∧ q ≤ t ∧ decide ((t : Int) ≤ ((z : Int) - 1) / 64) = true ∧ dd = true) ∨ ((P t).row = (Q t).row ∧ (¬ 0 < k ∨ (0 < k ∧ ¬ q ≤ t) ∨ (0 < k ∧ q ≤ t ∧ decide ((t : Int) ≤ ((z : Int) - 1) / 64) = false))) := by
        obtain ⟨e1, e2, e3⟩ := HQ.out
        by_cases k0 : 0 < k
        · by_cases k1 : q ≤ t
          · by_cases k2 : t ≤ q2
            · exact .inl ⟨k0, k1, decide_eq_true (by omega), by rw [hdd]; exact HO.out.hit t hlt k0 (by omega) (by omega)⟩
            · exact .inr ⟨HO.out.no t hlt (by omega), .inr (.inr ⟨k0, k1, decide_eq_false (by omega)⟩)⟩
          · exact .inr ⟨HO.out.no t hlt (by omega), .inr (.inl ⟨k0, k1⟩)⟩
        · exact .inr ⟨HO.out.no t hlt (by omega), .inl k0⟩
      clear hdd
      have HD : Kp (∀ w', Drew w w' → ∀ j, j < 64 → (64 * t + j < ad ∨ z ≤ 64 * t + j) → ∃ c : Int, w'.cell? ⟨b1, o1 + t * 66 + 2 + j, none⟩ = some (.int .u8 c) ∧ w'.cell? ⟨b2, o2 + t * 66 + 2 + j, none⟩ = some (.int .u8 c)) := ⟨fun w' hd j hj hout => by
        have e1 := data_in (prange_later C1.out hd.below) j _ (dataL_get _ _ hj)
        have e2 := data_in (prange_later C2.out hd.below) j _ (dataL_get _ _ hj)
        rw [HO.out.data t hlt j hj (by have := HQ.out.2.1; omega)] at e1
        exact ⟨_, e1, e2⟩⟩
      rcases hcase with ⟨t1, t2, t3, rfl⟩ | ⟨hrow, t1 | ⟨t1, t2⟩ | ⟨t1, t2, t3⟩⟩
      · clear he
        go_wp2
        go_quiet (fail)
        have HB2 := Kp.mk (HB.out.trans ⟨nq, rfl⟩)
        go_wp2
        clear hq1 d2 hxx r1 r2 hg
        go_loopw [11] (fun jv wr2 => ∃ j : Nat, j ≤ 64 ∧ jv = .int .i64 j ∧ Kp (Drew w wr2)) (fun jv _ => 64 - (intOf jv).toNat)
        case atStart => exact ⟨0, by omega, rfl, HB2⟩
        case round =>
          obtain ⟨j, hj, rfl, HB2⟩ := hrel
          by_cases hlt2 : j < 64
          · have hb2 : decide ((j : Int) < 64) = true := decide_eq_true (by omega)
            obtain ⟨y, hy⟩ : ∃ y, y = 64 * t + j := ⟨_, rfl⟩
            have hy1 : 64 * (t : Int) + (j : Int) = (y : Int) := by omega
            have hyb : y < 112589990684224 := by omega
            have hty : 64 * (t : Int) < 112589990684224 := by omega
            by_cases hin : y < ad
            · have hb3 : decide ((y : Int) < (ad : Int)) = true := decide_eq_true (by omega)
              obtain ⟨c, k1, k2⟩ := HD.out _ HB2.out j hlt2 (.inl (by omega))
              have hcc := neq_self c
              clear hy hz1 hzb had hk ht hj
              go_wp2
              go_quiet (fail)
              have HB3 := Kp.mk (HB2.out.trans ⟨nq, rfl⟩)
              go_wp2
              go_roundw
              case rel => exact ⟨j + 1, by omega, by go_num, HB3⟩
              case measure => simp [intOf]; omega
            · have hb3 : decide ((y : Int) < (ad : Int)) = false := decide_eq_false (by omega)
              by_cases hout : z ≤ y
              · have hb4 : decide ((y : Int) ≥ (z : Int)) = true := decide_eq_true (by omega)
                obtain ⟨c, k1, k2⟩ := HD.out _ HB2.out j hlt2 (.inr (by omega))
                have hcc := neq_self c
                clear hy had hk ht hj
                go_wp2
                go_quiet (fail)
                have HB3 := Kp.mk (HB2.out.trans ⟨nq, rfl⟩)
                go_wp2
                go_roundw
                case rel => exact ⟨j + 1, by omega, by go_num, HB3⟩
                case measure => simp [intOf]; omega
              · have hb4 : decide ((y : Int) ≥ (z : Int)) = false := decide_eq_false (by omega)
                clear hy had hk ht hj
                go_wp2
                go_quiet (fail)
                have HB3 := Kp.mk (HB2.out.trans ⟨nq, rfl⟩)
                go_wp2
                go_roundw
                case rel => exact ⟨j + 1, by omega, by go_num, HB3⟩
                case measure => simp [intOf]; omega
          · have : j = 64 := by omega
            subst this
            go_wp2
            go_roundw
            case rel => exact ⟨t + 1, by omega, by go_num, HB2⟩
            case measure => simp [intOf]; omega
      all_goals (
        have he' := fun w => he (P t) (Q t) w
        have hlen := pageLen (P t)
        rw [PageV.same_of hrow] at he'
        have L2' := L2
        rw [← hrow] at he' L2'
        obtain ⟨row, hrw⟩ : ∃ row, row = (P t).row := ⟨_, rfl⟩
        have M1 : Kp (∀ (w' : World), (∃ n, w' = wr.drewN n) → w'.rangeAt b1 (o1 + t * 66) row) := ⟨by rw [hrw]; exact L1.out⟩
        have M2 : Kp (∀ (w' : World), (∃ n, w' = wr.drewN n) → w'.rangeAt b2 (o2 + t * 66) row) := ⟨by rw [hrw]; exact L2'.out⟩
        rw [← hrw] at he' hlen
        have HLN := Kp.mk hlen
        clear he hrow hrw hlen L2' L1 L2
        go_wp2
        refine wp_region_quiet_lit (by kernel_rfl) (by kernel_rfl) ?_
        repeat (first
          | go_big_quiet_skip
          | ((first
              | (refine quiet_load_o 36 _ rfl b1 (o1 + t * 66) rfl row _ M1.out Tryd.underlying36 rfl HLN.out rfl ?_)
              | (refine quiet_load_o 36 _ rfl b2 (o2 + t * 66) rfl row _ M2.out Tryd.underlying36 rfl HLN.out rfl ?_)); simp only [Act.put, List.setIfInBounds_toArray, List.set_cons_zero, List.set_cons_succ])
          | go_big_quiet_step (fail))
        refine wpQuiet_nil ?_
        rintro _ ⟨nq, rfl⟩
        have HB2 := Kp.mk (HB.out.trans ⟨nq, rfl⟩)
        go_wp2
        clear hq1 d2 hxx r1 r2 hg he'
        go_loopw [11] (fun jv wr2 => ∃ j : Nat, j ≤ 64 ∧ jv = .int .i64 j ∧ Kp (Drew w wr2)) (fun jv _ => 64 - (intOf jv).toNat)
        case atStart => exact ⟨0, by omega, rfl, HB2⟩
        case round =>
          obtain ⟨j, hj, rfl, HB2⟩ := hrel
          by_cases hlt2 : j < 64
          · have hb2 : decide ((j : Int) < 64) = true := decide_eq_true (by omega)
            obtain ⟨y, hy⟩ : ∃ y, y = 64 * t + j := ⟨_, rfl⟩
            have hy1 : 64 * (t : Int) + (j : Int) = (y : Int) := by omega
            have hyb : y < 112589990684224 := by omega
            have hty : 64 * (t : Int) < 112589990684224 := by omega
            by_cases hin : y < ad
            · have hb3 : decide ((y : Int) < (ad : Int)) = true := decide_eq_true (by omega)
              obtain ⟨c, k1, k2⟩ := HD.out _ HB2.out j hlt2 (.inl (by omega))
              have hcc := neq_self c
              clear hy hz1 hzb had hk ht hj
              go_wp2
              go_quiet (fail)
              have HB3 := Kp.mk (HB2.out.trans ⟨nq, rfl⟩)
              go_wp2
              go_roundw
              case rel => exact ⟨j + 1, by omega, by go_num, HB3⟩
              case measure => simp [intOf]; omega
            · have hb3 : decide ((y : Int) < (ad : Int)) = false := decide_eq_false (by omega)
              by_cases hout : z ≤ y
              · have hb4 : decide ((y : Int) ≥ (z : Int)) = true := decide_eq_true (by omega)
                obtain ⟨c, k1, k2⟩ := HD.out _ HB2.out j hlt2 (.inr (by omega))
                have hcc := neq_self c
                clear hy had hk ht hj
                go_wp2
                go_quiet (fail)
                have HB3 := Kp.mk (HB2.out.trans ⟨nq, rfl⟩)
                go_wp2
                go_roundw
                case rel => exact ⟨j + 1, by omega, by go_num, HB3⟩
                case measure => simp [intOf]; omega
              · have hb4 : decide ((y : Int) ≥ (z : Int)) = false := decide_eq_false (by omega)
                clear hy had hk ht hj
                go_wp2
                go_quiet (fail)
                have HB3 := Kp.mk (HB2.out.trans ⟨nq, rfl⟩)
                go_wp2
                go_roundw
                case rel => exact ⟨j + 1, by omega, by go_num, HB3⟩
                case measure => simp [intOf]; omega
          · have : j = 64 := by omega
            subst this
            go_wp2
            go_roundw
            case rel => exact ⟨t + 1, by omega, by go_num, HB2⟩
            case measure => simp [intOf]; omega)
    · have : t = n := by omega
      subst this
      have hb : decide ((t : Int) < t) = false := by simp
      go_wp2
      go_ret
      exact ⟨rfl, HB.out⟩
end Go.Proofs.YtkkclkmiaenipaaDoor
