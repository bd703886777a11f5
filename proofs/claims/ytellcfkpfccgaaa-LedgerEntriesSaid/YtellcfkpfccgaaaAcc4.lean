/- Accounts: the reference's check, Post and the rest. -/
import Derived.Test.YtellcfkpfccgaaaAcc3
set_option linter.unusedSimpArgs false
set_option linter.unusedVariables false
namespace Go.Proofs.Ytellcfkpfccgaaa
open Go.PA
open Go.RowKit

theorem replayS_days (credit : Int) : ∀ (es : List TEntry) (n d : Int) (l : List TSub) (r : Int × Int × List TSub), 0 ≤ d → replayS credit n d l es = some r → ∀ e, e ∈ es → d ≤ e.Day ∧ e.Day ≤ 36000
  | [], n, d, l, r, hd, h, e, he => by simp at he
  | x :: es, n, d, l, r, hd, h, e, he => by
    rw [replayS] at h
    split at h
    · rename_i hp
      obtain ⟨_, h2, h3, _⟩ := postS_ok hp
      rcases List.mem_cons.1 he with rfl | he
      · exact ⟨h2, h3⟩
      · have := replayS_days credit es _ _ _ r (by omega) h e he
        exact ⟨by omega, this.2⟩
    · cases h
theorem replayS_last (credit : Int) : ∀ (es : List TEntry) (last : TEntry) (l : List TSub) (r : Int × Int × List TSub), replayS credit last.Number last.Day l es = some r → r.1 = ((es.getLast?).getD last).Number ∧ r.2.1 = ((es.getLast?).getD last).Day
  | [], last, l, r, h => by
    simp only [replayS, Option.some.injEq] at h
    subst h
    exact ⟨rfl, rfl⟩
  | e :: es, last, l, r, h => by
    rw [replayS] at h
    split at h
    · have := replayS_last credit es e _ r h
      cases es with
      | nil => exact this
      | cons x es =>
        have e1 : (e :: x :: es).getLast? = (x :: es).getLast? := by rw [List.getLast?_cons_cons]
        rw [e1]
        have e2 : ∀ y, ((x :: es).getLast?).getD y = ((x :: es).getLast?).getD e := fun y => by
          rw [List.getLast?_eq_some_getLast (by simp)]; rfl
        rw [e2 last]
        exact this
    · cases h
theorem takeWhile_all {α : Type} (p : α → Bool) : ∀ l : List α, (∀ x, x ∈ l → p x = true) → l.takeWhile p = l
  | [], _ => rfl
  | a :: l, h => by
    rw [List.takeWhile_cons_of_pos (h a (by simp)), takeWhile_all p l fun x hx => h x (List.mem_cons_of_mem _ hx)]
/-- The last entry; the zero one without. -/
def lastE (a : TAccount) : TEntry := (a.Entries.getLast?).getD zeroE

/-- What a right account is. -/
theorem check_ok {a : TAccount} (h : checkA a = 0) : a.Subs.length ≤ 20 ∧ a.Entries.length ≤ 400 ∧ (0 ≤ a.Credit ∧ a.Credit ≤ 1000000000000) ∧ numB (ids a.Subs) = true ∧ replayS a.Credit 0 0 (zeroS a.Subs) a.Entries = some ((lastE a).Number, (lastE a).Day, a.Subs) := by
  unfold checkA at h
  split at h
  · simp at h
  rename_i h1
  split at h
  · simp at h
  rename_i h2
  split at h
  · simp at h
  rename_i r hr
  split at h
  · rename_i he
    have h2 : vB a.Credit = true ∧ numB (ids a.Subs) = true := by simpa using h2
    have h3 : 0 ≤ a.Credit ∧ a.Credit ≤ 1000000000000 := by simpa [vB, amongB] using h2.1
    have := replayS_last a.Credit a.Entries zeroE (zeroS a.Subs) r hr
    refine ⟨by omega, by omega, h3, h2.2, ?_⟩
    rw [hr]
    congr 1
    exact Prod.ext this.1 (Prod.ext this.2 he)
  · simp at h
theorem check_mk {a : TAccount} (h1 : a.Subs.length ≤ 20) (h2 : a.Entries.length ≤ 400) (h3 : 0 ≤ a.Credit ∧ a.Credit ≤ 1000000000000) (h4 : numB (ids a.Subs) = true) {n d : Int} (h5 : replayS a.Credit 0 0 (zeroS a.Subs) a.Entries = some (n, d, a.Subs)) : checkA a = 0 := by
  unfold checkA
  have hv : vB a.Credit = true := by simpa [vB, amongB] using h3
  rw [if_neg (by omega), if_neg (by simp [hv, h4]), h5]
  simp
theorem numB_facts {l : List Int} (h : numB l = true) : l.Nodup ∧ 0 ∉ l ∧ l.head? = some 1 := by
  simp only [numB, Bool.and_eq_true, decide_eq_true_eq] at h
  refine ⟨ascB_nodup l 0 h.1, fun h0 => ?_, h.2⟩
  have := ascB_gt l 0 h.1 0 h0
  omega
theorem check_keeps {a : TAccount} (h : checkA a = 0) : okAll a.Credit a.Subs = true ∧ (lastE a).Number = a.Entries.length ∧ 0 ≤ (lastE a).Day ∧ (lastE a).Day ≤ 36000 := by
  obtain ⟨_, _, h3, _, h5⟩ := check_ok h
  obtain ⟨a1, _, a3, a4, a5⟩ := replayS_keeps a.Credit a.Entries 0 0 (zeroS a.Subs) _ (zeroS_all h3.1 _) h5
  exact ⟨a1, by simpa using a3, a4, a5 (by omega)⟩

set_option maxHeartbeats 1000000 in
theorem check23_pf (a : TAccount) (hl : a.Subs.length ≤ 100000) (he : a.Entries.length ≤ 100000) : PFun Try.prog none none 101 [.agg a.cells] (· = iv (checkA a)) := by
  refine pfun_intro Try.func101 rfl (by simp [Try.f101]) (by kernel_rfl) ?_
  intro E hP hr hs hW hN
  have cA : a.cells = [iv a.Credit, subsL a.Subs, entsL a.Entries] := rfl
  by_cases c1 : 20 < a.Subs.length
  · have d1 : decide ((20 : Int) < a.Subs.length) = true := by simp; omega
    have : checkA a = 3 := by rw [checkA, if_pos (.inl c1)]
    simp -dsimp -implicitDefEqProofs [-getElem?_pos, go_sem, hP, cA, d1, this]
  have d1 : decide ((20 : Int) < a.Subs.length) = false := by simp; omega
  by_cases c2 : 400 < a.Entries.length
  · have d2 : decide ((400 : Int) < a.Entries.length) = true := by simp; omega
    have : checkA a = 3 := by rw [checkA, if_pos (.inr c2)]
    simp -dsimp -implicitDefEqProofs [-getElem?_pos, go_sem, hP, cA, d1, d2, this]
  have d2 : decide ((400 : Int) < a.Entries.length) = false := by simp; omega
  simp -dsimp -implicitDefEqProofs [-getElem?_pos, go_sem, hP, cA, d1, d2]
  have pl := plain_pf a hl
  rw [cA] at pl
  refine callB_is (pl.lift _ _) hP en_112 (by simp only [List.mem_singleton, forall_eq]; rw [← cA]; exact imm_acc a) .sc ?_
  by_cases c3 : (vB a.Credit && numB (ids a.Subs)) = true
  rotate_left
  · have : checkA a = 62 := by
      rw [checkA, if_neg (by omega), if_pos]
      cases h1 : vB a.Credit <;> cases h2 : numB (ids a.Subs) <;> simp [h1, h2] at c3 ⊢
    have c3 : (vB a.Credit && numB (ids a.Subs)) = false := by simpa using c3
    simp -dsimp -implicitDefEqProofs [-getElem?_pos, go_sem, hP, c3, this]
  simp only [Bool.and_eq_true] at c3
  obtain ⟨c3, c4⟩ := c3
  have hcr : 0 ≤ a.Credit ∧ a.Credit ≤ 1000000000000 := by simpa [vB, amongB] using c3
  obtain ⟨hnd, hz0, hhd⟩ := numB_facts c4
  have hchk : checkA a = (replayS a.Credit 0 0 (zeroS a.Subs) a.Entries).elim 62 (fun r => if r.2.2 = a.Subs then 0 else 62) := by
    rw [checkA, if_neg (by omega), if_neg (by simp [c3, c4])]
    cases replayS a.Credit 0 0 (zeroS a.Subs) a.Entries <;> rfl
  simp -dsimp -implicitDefEqProofs [-getElem?_pos, go_sem, hP, c3, c4]
  obtain ⟨I, hI⟩ : ∃ I : Nat → St → Prop, I = fun m s => ∃ (k : Nat), k ≤ a.Entries.length ∧ m = a.Entries.length - k ∧ (∀ e, e ∈ a.Entries.take k → amongB e.Day 0 36000 = true) ∧ s.t 1 = .ref 0 0 0 ∧ s.t 23 = entsL a.Entries ∧ s.t 24 = iv a.Entries.length ∧ s.t 25 = iv k ∧ s.H[0]? = some (some ⟨90, 3, [a.cells]⟩) := ⟨_, rfl⟩
  refine aloop0 I (a.Entries.length) (by rw [hN]; rfl) ?_ ?_
  · rw [hI]
    exact ⟨0, by omega, by omega, by simp, by simp -dsimp -implicitDefEqProofs [-getElem?_pos, go_sem], by simp -dsimp -implicitDefEqProofs [-getElem?_pos, go_sem], by simp -dsimp -implicitDefEqProofs [-getElem?_pos, go_sem], by simp -dsimp -implicitDefEqProofs [-getElem?_pos, go_sem], by simp -dsimp -implicitDefEqProofs [-getElem?_pos, go_sem, cA]⟩
  intro m s hs'
  rw [hI] at hs'
  obtain ⟨k, hk, hm, hdays, t1, t23, t24, t25, hA⟩ := hs'
  have hlt0 := (List.getElem?_eq_some_iff.1 hA).1
  simp -dsimp -implicitDefEqProofs [-getElem?_pos, go_sem, hP, t24, t25]
  refine condP (fun h => ?_) (fun h => ?_)
  · have hk : k < a.Entries.length := by simpa using h
    obtain ⟨e, hee⟩ : ∃ e, a.Entries[k]? = some e := ⟨_, List.getElem?_eq_getElem hk⟩
    have wk := wrap_in ((k : Int) + 1) (by omega)
    have e1 : a.Entries.take (k + 1) = a.Entries.take k ++ [e] := by rw [List.take_add_one, hee]; rfl
    simp -dsimp -implicitDefEqProofs [-getElem?_pos, go_sem, hP, t23, t25, hee, TEntry.cells]
    refine callB_pure (day23_pf e.Day) hP en_122 (args_same (by simp -dsimp -implicitDefEqProofs [-getElem?_pos, go_sem])) .sc ?_
    by_cases c5 : amongB e.Day 0 36000 = true
    · simp -dsimp -implicitDefEqProofs [-getElem?_pos, go_sem, hP, c5, t25, wk]
      refine ⟨a.Entries.length - (k + 1), by omega, ?_⟩
      rw [hI]
      refine ⟨k + 1, by omega, rfl, fun x hx => ?_, by simp -dsimp -implicitDefEqProofs [-getElem?_pos, go_sem, t1], by simp -dsimp -implicitDefEqProofs [-getElem?_pos, go_sem, t23], by simp -dsimp -implicitDefEqProofs [-getElem?_pos, go_sem, t24], by simp -dsimp -implicitDefEqProofs [-getElem?_pos, go_sem], by simp -dsimp -implicitDefEqProofs [-getElem?_pos, go_sem, hlt0, hA]⟩
      rw [e1, List.mem_append] at hx
      rcases hx with hx | hx
      · exact hdays x hx
      · simp at hx; subst hx; exact c5
    · have : checkA a = 62 := by
        rw [hchk]
        cases hr : replayS a.Credit 0 0 (zeroS a.Subs) a.Entries with
        | none => rfl
        | some r => exact absurd (amongB_iff.2 (replayS_days _ _ _ _ _ _ (Int.le_refl _) hr e (List.mem_of_getElem? hee))) c5
      simp -dsimp -implicitDefEqProofs [-getElem?_pos, go_sem, hP, c5, this]
  have hk : k = a.Entries.length := by simp at h; omega
  subst hk
  rw [List.take_length] at hdays
  have htw : a.Entries.takeWhile (early 36000) = a.Entries := by
    refine takeWhile_all _ _ fun e he => ?_
    have := amongB_iff.1 (hdays e he)
    simpa [early] using this.2
  have up := until_pf a 36000 hl he hcr hnd hz0
  rw [untilR, htw, cA] at up
  have tk : ([iv a.Credit, subsL a.Subs, entsL a.Entries] : List AV).take 3 = [iv a.Credit, subsL a.Subs, entsL a.Entries] := rfl
  simp -dsimp -implicitDefEqProofs [-getElem?_pos, go_sem, hP, t1, hA, cA]
  refine callB_is (up.lift _ _) hP en_102 (by simp only [List.mem_cons, List.not_mem_nil, or_false, forall_eq_or_imp, forall_eq]; rw [← cA]; exact ⟨imm_acc a, .sc⟩) (imm_pair (imm_subs _) .sc) ?_
  rcases runE_replay a.Credit a.Entries zeroE (zeroS a.Subs) with ⟨r, hr, hrun⟩ | ⟨hr, hrun1, hrun2⟩
  rotate_left
  · rw [show zeroE.Number = 0 from rfl, show zeroE.Day = 0 from rfl] at hr
    have : checkA a = 62 := by rw [hchk, hr]; rfl
    simp -dsimp -implicitDefEqProofs [-getElem?_pos, go_sem, hP, hrun2, this]
  rw [show zeroE.Number = 0 from rfl, show zeroE.Day = 0 from rfl] at hr
  have hids := (replayS_keeps a.Credit a.Entries 0 0 (zeroS a.Subs) r (zeroS_all hcr.1 _) hr).2.1
  rw [zeroS_ids] at hids
  rw [hr] at hchk
  obtain ⟨l, hlr⟩ : ∃ l, l = r.2.2 := ⟨_, rfl⟩
  rw [← hlr] at hids
  have hll : l.length = a.Subs.length := by rw [← ids_len l, hids, ids_len]
  have hchk : checkA a = if l = a.Subs then 0 else 62 := by rw [hchk, hlr]; rfl
  rw [hrun, ← hlr]
  simp -dsimp -implicitDefEqProofs [-getElem?_pos, go_sem, hP, hlt0, hA, t1, cA]
  obtain ⟨J, hJ⟩ : ∃ I : Nat → St → Prop, I = fun m s => ∃ (k : Nat), k ≤ a.Subs.length ∧ m = a.Subs.length - k ∧ l.take k = a.Subs.take k ∧ s.t 5 = subsL l ∧ s.t 42 = subsL a.Subs ∧ s.t 43 = iv a.Subs.length ∧ s.t 44 = iv k := ⟨_, rfl⟩
  refine aloop0 J (a.Subs.length) (by rw [hN]; rfl) ?_ ?_
  · rw [hJ]
    exact ⟨0, by omega, by omega, by simp, by simp -dsimp -implicitDefEqProofs [-getElem?_pos, go_sem], by simp -dsimp -implicitDefEqProofs [-getElem?_pos, go_sem], by simp -dsimp -implicitDefEqProofs [-getElem?_pos, go_sem], by simp -dsimp -implicitDefEqProofs [-getElem?_pos, go_sem]⟩
  clear t1 t23 t24 t25 hA hlt0
  intro m s hs'
  rw [hJ] at hs'
  obtain ⟨k, hk, hm, htk, t5, t42, t43, t44⟩ := hs'
  simp -dsimp -implicitDefEqProofs [-getElem?_pos, go_sem, hP, t43, t44]
  refine condP (fun h => ?_) (fun h => ?_)
  · have hk : k < a.Subs.length := by simpa using h
    obtain ⟨x, hx⟩ : ∃ x, a.Subs[k]? = some x := ⟨_, List.getElem?_eq_getElem hk⟩
    obtain ⟨y, hy⟩ : ∃ y, l[k]? = some y := ⟨_, List.getElem?_eq_getElem (by omega)⟩
    have wk := wrap_in ((k : Int) + 1) (by omega)
    have e1 : a.Subs.take (k + 1) = a.Subs.take k ++ [x] := by rw [List.take_add_one, hx]; rfl
    have e2 : l.take (k + 1) = l.take k ++ [y] := by rw [List.take_add_one, hy]; rfl
    simp -dsimp -implicitDefEqProofs [-getElem?_pos, go_sem, hP, t42, t44, hx, TSub.cells]
    refine adrawB (fun _ => true) [] hP (by kernel_rfl) (by kernel_rfl) ?_
    by_cases hxy : y = x
    · subst hxy
      simp -dsimp -implicitDefEqProofs [-getElem?_pos, go_sem, hP, t5, hy, TSub.cells, t44, wk]
      refine ⟨a.Subs.length - (k + 1), by omega, ?_⟩
      rw [hJ]
      exact ⟨k + 1, by omega, rfl, by rw [e1, e2, htk], by simp -dsimp -implicitDefEqProofs [-getElem?_pos, go_sem, t5], by simp -dsimp -implicitDefEqProofs [-getElem?_pos, go_sem, t42], by simp -dsimp -implicitDefEqProofs [-getElem?_pos, go_sem, t43], by simp -dsimp -implicitDefEqProofs [-getElem?_pos, go_sem]⟩
    · have hne : ¬ l = a.Subs := fun h => by
        rw [h, hx] at hy
        exact hxy (Option.some.inj hy).symm
      rw [if_neg hne] at hchk
      simp -dsimp -implicitDefEqProofs [-getElem?_pos, go_sem, hP, t5, hy, TSub.cells]
      refine condP (fun h => ?_) (fun h => ?_)
      · simp -dsimp -implicitDefEqProofs [-getElem?_pos, go_sem, hP, hchk]
      · exact absurd (by cases x; cases y; simp at h; simp [h]) hxy
  · have hk : k = a.Subs.length := by simp at h; omega
    subst hk
    rw [List.take_length, ← hll, List.take_length] at htk
    rw [if_pos htk] at hchk
    simp -dsimp -implicitDefEqProofs [-getElem?_pos, go_sem, hP, hchk]

end Go.Proofs.Ytellcfkpfccgaaa
