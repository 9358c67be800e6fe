
/- The listed sentinel errors: where they lie, that they are unlike one another; a start that meets the list. -/
import Derived.Test.YtadikbmbadldpaaGreatDoorRows
import Derived.Test.YtadikbmbadldpaaGreatDoorBase
import Derived.Stop.LaidErr
import Derived.LaidHandle
import Derived.LaidOnce
import Derived.LaidEql
namespace Go.Proofs.YtadikbmbadldpaaGreatDoor
open Go Go.RowKit Go.ChangeShapes
set_option linter.unusedVariables false

theorem starName : ("*" ++ "errors.errorString" : String) = "*errors.errorString" := by decide
theorem rowSent (u : TypeId) (h : Tryz.prog.typeName? 3 u = some "*errors.errorString") : u = 199 :=
  typeName_ptr_named (nm := "errors.errorString") (by rw [starName]; kernel_rfl) (by kernel_rfl) (by decide) u (by rw [starName]; exact h)
theorem cellsSent : Tryz.prog.cellsOf 220 = 1 := by kernel_rfl
theorem cellsStr : Tryz.prog.cellsOf 9 = 1 := by kernel_rfl

/-- A sentinel's datum. -/
def errd (text : List UInt8) : DataW Unit := .iface "*errors.errorString" (.ptr (.agg [.lit (.string text)]))
def isIface : DataW Unit → Bool
  | .iface _ _ => true
  | _ => false
/-- Each listed variable that holds an interface is of the type error. -/
noncomputable def errsTyped (L : List (String × DataW Unit)) : Bool := L.all fun x => match Tryz.prog.globalNamed x.1 with | none => false | some g => ((Tryz.prog.globals[g]?).map (·.type) == some 32) || !(isIface x.2)

/-- One listed sentinel in memory: the variable's cell, the pointee's row. -/
def SentAt (W : World) (n : String) (a : Addr) : Prop :=
  (∀ g, Tryz.prog.globalNamed n = some g → W.cell? ⟨g, 0, none⟩ = some (.iface 199 (.pointer (some a)))) ∧ ∃ c t, W.heap[a.block]? = some (.cells c t (0, 0))

set_option maxRecDepth 1000000 in
theorem laid_all {W : World} : ∀ (L : List (String × DataW Unit)) (ps : List MemPlace), errsTyped L = true → DataW.LaidVars Tryz.prog W L ps → ps.Nodup →
    (∀ b off, MemPlace.cell b off ∈ ps → (∃ c t, W.heap[b]? = some (.cells c t (0, 0))) ∧ ∀ u v, W.cell? ⟨b, off, none⟩ = some (.iface u v) → Value.okWide Tryz.prog W .any 0 u v) →
    ∃ A : String → Addr, (∀ n text, (n, errd text) ∈ L → SentAt W n (A n) ∧ MemPlace.cell (A n).block (A n).off ∈ ps) ∧
      (∀ n tn m tm, (n, errd tn) ∈ L → (m, errd tm) ∈ L → n ≠ m → A n ≠ A m) ∧ (∀ n d, (n, d) ∈ L → ∃ g, Tryz.prog.globalNamed n = some g ∧ (isIface d = true → MemPlace.cell g 0 ∈ ps))
  | [], ps, _, _, _, _ => ⟨fun _ => ⟨0, 0, none⟩, by simp, by simp, by simp⟩
  | (n, d) :: r, ps, ht, hv, hnd, hrows => by
    obtain ⟨g, t, cs, fuel, p, q, hg, htt, hvar, hd, hr, rfl⟩ := hv
    have htr : errsTyped r = true := by unfold errsTyped at ht ⊢; rw [List.all_cons, Bool.and_eq_true] at ht; exact ht.2
    have ht0 : ((Tryz.prog.globals[g]?).map (·.type) == some 32 || !(isIface d)) = true := by
      unfold errsTyped at ht; rw [List.all_cons, Bool.and_eq_true] at ht
      have := ht.1
      simp only [hg] at this
      exact this
    obtain ⟨A, hA, hne, hall⟩ := laid_all r q htr hr (List.Nodup.sublist (List.sublist_append_right _ _) hnd) (fun b off hm => hrows b off (List.mem_append_right _ hm))
    by_cases hs : ∃ text, d = errd text
    · obtain ⟨text, rfl⟩ := hs
      have htE : t = 32 := by
        have : ((Tryz.prog.globals[g]?).map (·.type) == some 32) = true := by simpa [isIface, errd] using ht0
        rw [htt] at this
        simpa using this
      subst htE
      obtain ⟨l0⟩ := cs
      have ok0 : ∀ u v, l0 = [.iface u v] → Value.okWide Tryz.prog W .any 0 u v := fun u v e => by
        subst e
        exact (hrows g 0 (by simp [MemPlace.row])).2 u v (by simpa using World.var?_cell hg hvar 0)
      obtain ⟨a0, s0, rfl, hc0, hs0, hz0, rfl⟩ := errorString_of_trod Tryz.underlying32 rowSent Tryz.underlying199 Tryz.underlying220 rfl rfl Tryz.underlying9 cellsSent cellsStr hd ok0
      have hpl : MemPlace.cell a0.block a0.off ∈ MemPlace.row a0 1 := by simp [MemPlace.row]
      have hgl : MemPlace.cell g 0 ∈ MemPlace.row ⟨g, 0, none⟩ 1 := by simp [MemPlace.row]
      have hcell : W.cell? ⟨g, 0, none⟩ = some (.iface 199 (.pointer (some a0))) := by simpa using World.var?_cell hg hvar 0
      have hgood : SentAt W n a0 := ⟨fun g' hg' => by obtain rfl := Option.some.inj (hg.symm.trans hg'); exact hcell, (hrows a0.block a0.off (by simp [MemPlace.row])).1⟩
      have hnr : ∀ d', (n, d') ∈ r → isIface d' = true → False := fun d' hm hi => by
        obtain ⟨g', hg', hp'⟩ := hall n d' hm
        obtain rfl := Option.some.inj (hg.symm.trans hg')
        have := List.nodup_append.1 hnd
        exact this.2.2 _ (List.mem_append_left _ hgl) _ (hp' hi) rfl
      have hq : ∀ x, x ∈ q → x ≠ MemPlace.cell a0.block a0.off := fun x hx e => by
        have := List.nodup_append.1 hnd
        exact this.2.2 _ (List.mem_append_right _ hpl) _ hx e.symm
      refine ⟨fun m => if m = n then a0 else A m, ?_, ?_, ?_⟩
      · intro m text' hm
        by_cases e : m = n
        · subst e
          simp only [if_true]
          exact ⟨hgood, by simp [MemPlace.row]⟩
        · simp only [if_neg e]
          have hm' : (m, errd text') ∈ r := by
            rcases List.mem_cons.1 hm with h | h
            · exact absurd (Prod.mk.inj h).1 e
            · exact h
          exact ⟨(hA m text' hm').1, List.mem_append_right _ (hA m text' hm').2⟩
      · intro m1 t1 m2 t2 h1 h2 h12
        have key : ∀ m t, (m, errd t) ∈ (n, errd text) :: r → m ≠ n → MemPlace.cell (A m).block (A m).off ∈ q := fun m t hm e => by
          rcases List.mem_cons.1 hm with h | h
          · exact absurd (Prod.mk.inj h).1 e
          · exact (hA m t h).2
        by_cases e1 : m1 = n
        · have e2 : m2 ≠ n := fun e => h12 (e1.trans e.symm)
          simp only [if_pos e1, if_neg e2]
          intro h
          exact hq _ (key m2 t2 h2 e2) (by rw [h])
        · by_cases e2 : m2 = n
          · simp only [if_neg e1, if_pos e2]
            intro h
            exact hq _ (key m1 t1 h1 e1) (by rw [h])
          · simp only [if_neg e1, if_neg e2]
            refine hne m1 t1 m2 t2 ?_ ?_ h12
            · rcases List.mem_cons.1 h1 with h | h
              · exact absurd (Prod.mk.inj h).1 e1
              · exact h
            · rcases List.mem_cons.1 h2 with h | h
              · exact absurd (Prod.mk.inj h).1 e2
              · exact h
      · intro m d' hm
        rcases List.mem_cons.1 hm with h | h
        · obtain ⟨rfl, rfl⟩ := Prod.mk.inj h
          exact ⟨g, hg, fun _ => by simp [MemPlace.row]⟩
        · obtain ⟨g', hg', hp'⟩ := hall m d' h
          exact ⟨g', hg', fun hi => List.mem_append_right _ (hp' hi)⟩
    · have key : ∀ m t, (m, errd t) ∈ (n, d) :: r → (m, errd t) ∈ r := fun m t hm => by
        rcases List.mem_cons.1 hm with h | h
        · exact absurd ⟨t, (Prod.mk.inj h).2.symm⟩ hs
        · exact h
      refine ⟨A, fun m t hm => ⟨(hA m t (key m t hm)).1, List.mem_append_right _ (hA m t (key m t hm)).2⟩, fun m1 t1 m2 t2 h1 h2 h12 => hne m1 t1 m2 t2 (key _ _ h1) (key _ _ h2) h12, ?_⟩
      intro m d' hm
      rcases List.mem_cons.1 hm with h | h
      · obtain ⟨rfl, rfl⟩ := Prod.mk.inj h
        refine ⟨g, hg, fun hi => ?_⟩
        have htE : t = 32 := by
          have : ((Tryz.prog.globals[g]?).map (·.type) == some 32) = true := by simpa [hi] using ht0
          rw [htt] at this
          simpa using this
        subst htE
        have hsz : cs.toList ≠ [] := by
          intro e
          rw [e] at hd
          cases fuel with
          | zero => simp [DataW.trod] at hd
          | succ k =>
            unfold DataW.trod at hd
            rw [Tryz.underlying32] at hd
            simp at hd
        have : 0 < cs.size := by
          rcases Nat.eq_zero_or_pos cs.size with h0 | h0
          · exact absurd (by simpa using h0) hsz
          · exact h0
        exact List.mem_append_left _ (List.mem_append_left _ (by unfold MemPlace.row; exact List.mem_map.2 ⟨0, List.mem_range.2 this, by simp⟩))
      · obtain ⟨g', hg', hp'⟩ := hall m d' h
        exact ⟨g', hg', fun hi => List.mem_append_right _ (hp' hi)⟩

/-- The errors' variables' names and numbers, by the codes that api.Code answers. -/
def errName : Nat → String
  | 1 => "ferry/api.ErrShort"
  | 2 => "ferry/api.ErrRest"
  | 3 => "ferry/api.ErrTag"
  | 4 => "ferry/api.ErrRange"
  | 5 => "ferry/api.ErrLength"
  | 6 => "ferry/api.ErrSum"
  | 7 => "ferry/api.ErrKind"
  | 8 => "ferry/api.ErrPlan"
  | 9 => "ferry/api.ErrState"
  | 10 => "ferry/api.ErrBase"
  | 11 => "ferry/api.ErrSize"
  | 12 => "ferry/api.ErrArg"
  | 13 => "ferry/api.ErrEnd"
  | 14 => "ferry/api.ErrBusy"
  | 15 => "ferry/api.ErrDown"
  | 16 => "ferry/api.ErrLost"
  | 17 => "ferry/api.ErrNone"
  | 18 => "ferry/api.ErrText"
  | 19 => "ferry/api.ErrStop"
  | _ => "ferry/api.ErrDivide"
def errVar : Nat → Nat
  | 1 => 1
  | 2 => 2
  | 3 => 3
  | 4 => 4
  | 5 => 5
  | 6 => 6
  | 7 => 7
  | 8 => 8
  | 9 => 9
  | 10 => 10
  | 11 => 11
  | 12 => 0
  | 13 => 12
  | 14 => 13
  | 15 => 14
  | 16 => 15
  | 17 => 16
  | 18 => 17
  | 19 => 18
  | 20 => 19
  | _ => 0
/-- An error's value: the pointer to an errorString. -/
abbrev errv (a : Addr) : Value := .iface 199 (.pointer (some a))
/-- The sentinels of these codes lie in the world. -/
structure Errs (W : World) (S : List Nat) (A : Nat → Addr) : Prop where
  cell : ∀ c ∈ S, W.cell? ⟨errVar c, 0, none⟩ = some (errv (A c))
  row : ∀ c ∈ S, ∃ cs t, W.heap[(A c).block]? = some (.cells cs t (0, 0))
  ne : ∀ c ∈ S, ∀ d ∈ S, c ≠ d → A c ≠ A d
theorem Errs.sub {W : World} {S S' : List Nat} {A : Nat → Addr} (h : Errs W S A) (hs : ∀ c ∈ S', c ∈ S) : Errs W S' A :=
  ⟨fun c hc => h.cell c (hs c hc), fun c hc => h.row c (hs c hc), fun c hc d hd => h.ne c (hs c hc) d (hs d hd)⟩
theorem Errs.later {W W' : World} {S : List Nat} {A : Nat → Addr} (h : Errs W S A) (hb : Below W.heap.size W W') : Errs W' S A :=
  ⟨fun c hc => (hb.cell (p := ⟨errVar c, 0, none⟩) (World.block_lt_of_cell? W ⟨errVar c, 0, none⟩ (h.cell c hc))).trans (h.cell c hc),
   fun c hc => by
    obtain ⟨cs, t, hr⟩ := h.row c hc
    exact ⟨cs, t, (hb.block _ (Array.getElem?_eq_some_iff.1 hr).1).trans hr⟩, h.ne⟩
def isErrd : DataW Unit → Bool
  | .iface n (.ptr (.agg [.lit (.string _)])) => n == "*errors.errorString"
  | _ => false
theorem errd_of {d : DataW Unit} (h : isErrd d = true) : ∃ text, d = errd text := by
  unfold isErrd at h
  split at h
  · rename_i n t
    obtain rfl : n = "*errors.errorString" := by simpa using h
    exact ⟨t, rfl⟩
  · cases h
/-- The list bears these codes' variables, with the numbers that errVar tells, each a sentinel; no two codes have one name: a check. -/
noncomputable def errsListed (L : List (String × DataW Unit)) (S : List Nat) : Bool :=
  (S.all fun c => (Tryz.prog.globalNamed (errName c) == some (errVar c)) && (L.any fun x => x.1 == errName c && isErrd x.2)) && (S.all fun c => S.all fun d => errName c != errName d || c == d)
theorem errs_of_laid {W : World} {L : List (String × DataW Unit)} {S : List Nat} (h : laidMet Tryz.prog L W) (ht : errsTyped L = true) (hS : errsListed L S = true) : ∃ A : Nat → Addr, Errs W S A := by
  obtain ⟨ps, hv, hnd, hrows⟩ := h
  obtain ⟨A, hA, hne, _⟩ := laid_all L ps ht hv hnd hrows
  unfold errsListed at hS
  rw [Bool.and_eq_true] at hS
  have mem : ∀ c ∈ S, Tryz.prog.globalNamed (errName c) = some (errVar c) ∧ ∃ text, (errName c, errd text) ∈ L := fun c hc => by
    have := List.all_eq_true.1 hS.1 c hc
    simp only [Bool.and_eq_true, beq_iff_eq, List.any_eq_true] at this
    obtain ⟨h1, x, hx, h2, h3⟩ := this
    obtain ⟨text, ht⟩ := errd_of h3
    refine ⟨h1, text, ?_⟩
    rw [← h2, ← ht]; exact hx
  have hinj : ∀ c ∈ S, ∀ d ∈ S, errName c = errName d → c = d := fun c hc d hd e => by
    have := List.all_eq_true.1 (List.all_eq_true.1 hS.2 c hc) d hd
    simp only [Bool.or_eq_true, bne_iff_ne, beq_iff_eq] at this
    rcases this with h | h
    · exact absurd e h
    · exact h
  refine ⟨fun c => A (errName c), ⟨fun c hc => ?_, fun c hc => ?_, fun c hc d hd hcd => ?_⟩⟩
  · obtain ⟨h1, text, h2⟩ := mem c hc
    exact (hA _ _ h2).1.1 _ h1
  · obtain ⟨h1, text, h2⟩ := mem c hc
    exact (hA _ _ h2).1.2
  · obtain ⟨_, t1, h1⟩ := mem c hc
    obtain ⟨_, t2, h2⟩ := mem d hd
    exact hne _ _ _ _ h1 h2 (fun e => hcd (hinj c hc d hd e))
end Go.Proofs.YtadikbmbadldpaaGreatDoor
