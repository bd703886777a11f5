/- Restatement: laws of histories, no program in sight. -/
import Derived.Test.YtellcfkpfccgaaaResGen
set_option linter.unusedSimpArgs false
set_option linter.unusedVariables false
namespace Go.Proofs.Ytellcfkpfccgaaa
open Go.PA
open Go.RowKit

theorem presFrom_snoc (p : TPresented) : ∀ (l pre : List TPresented), presFrom pre (l ++ [p]) = (presFrom pre l && (yearB p.Year && decide (p.Version = (versN (pre ++ l) p.Year : Int) + 1)))
  | [], pre => by simp [presFrom]
  | a :: l, pre => by
    rw [List.cons_append, presFrom, presFrom_snoc p l (pre ++ [a]), presFrom, List.append_assoc]
    simp only [Bool.and_assoc, List.singleton_append]
theorem fit_of_check {h : THistory} (hh : checkH h = 0) : Fit h :=
  ⟨by have := (checkL_ok (checkH_ok hh).1).1; omega, by have := (checkH_ok hh).2.2.1; omega, by have := (checkH_ok hh).2.1; omega, fun c hc => by have := (checkH_corr hh c hc).len; omega⟩
theorem present_good {h : THistory} {n : Int} (k1 : checkH h = 0) (k2 : yearB n = true) (k3 : ¬ h.Presented.length = 20) : presentH h n = (⟨h.Ledger, h.Presented ++ [nextP h n], h.Corrections⟩, nextP h n, 0) := by
  rw [presentH, if_pos k1, if_pos k2, if_neg k3]
theorem present_ok {h : THistory} {n : Int} (hp : (presentH h n).2.2 = 0) : checkH h = 0 ∧ yearB n = true ∧ h.Presented.length < 20 ∧ presentH h n = (⟨h.Ledger, h.Presented ++ [nextP h n], h.Corrections⟩, nextP h n, 0) ∧ checkH ⟨h.Ledger, h.Presented ++ [nextP h n], h.Corrections⟩ = 0 := by
  by_cases k1 : checkH h = 0
  rotate_left
  · rw [presentH, if_neg k1] at hp; exact absurd hp k1
  by_cases k2 : yearB n = true
  rotate_left
  · rw [presentH, if_pos k1, if_neg k2] at hp; cases hp
  by_cases k3 : h.Presented.length = 20
  · rw [presentH, if_pos k1, if_pos k2, if_pos k3] at hp; cases hp
  obtain ⟨a1, a2, a3, a4, a5⟩ := checkH_ok k1
  refine ⟨k1, k2, by omega, present_good k1 k2 k3, ?_⟩
  have pb : presB (h.Presented ++ [nextP h n]) = true := by
    rw [presB, presFrom_snoc, show presFrom [] h.Presented = true from a5, List.nil_append, Bool.true_and, show yearB (nextP h n).Year = true from k2, Bool.true_and]
    exact decide_eq_true rfl
  rw [checkH, if_pos a1, if_neg, if_pos]
  · show (corrsB h.Corrections && presB (h.Presented ++ [nextP h n])) = true
    rw [a4, pb]; rfl
  · show ¬ (20 < h.Corrections.length ∨ 20 < (h.Presented ++ [nextP h n]).length)
    rw [List.length_append, List.length_singleton]
    omega
theorem correct_ok {h : THistory} {c : TCorrection} (hp : (correctH h c).2 = 0) : checkH h = 0 ∧ corrsB (h.Corrections ++ [c]) = true ∧ h.Corrections.length < 20 ∧ correctH h c = (⟨h.Ledger, h.Presented, h.Corrections ++ [c]⟩, 0) ∧ checkH ⟨h.Ledger, h.Presented, h.Corrections ++ [c]⟩ = 0 := by
  by_cases k1 : checkH h = 0
  rotate_left
  · rw [correctH, if_neg k1] at hp; exact absurd hp k1
  by_cases k2 : corrsB (h.Corrections ++ [c]) = true
  rotate_left
  · rw [correctH, if_pos k1, if_neg k2] at hp; cases hp
  by_cases k3 : h.Corrections.length = 20
  · rw [correctH, if_pos k1, if_pos k2, if_pos k3] at hp; cases hp
  obtain ⟨a1, a2, a3, a4, a5⟩ := checkH_ok k1
  refine ⟨k1, k2, by omega, by rw [correctH, if_pos k1, if_pos k2, if_neg k3], ?_⟩
  rw [checkH, if_pos a1, if_neg, if_pos]
  · show (corrsB (h.Corrections ++ [c]) && presB h.Presented) = true
    rw [k2, a5]; rfl
  · show ¬ (20 < (h.Corrections ++ [c]).length ∨ 20 < h.Presented.length)
    rw [List.length_append, List.length_singleton]
    omega
theorem lastF_le {l : List TCorrection} {d : Int} (h : ∀ c, c ∈ l → c.Found ≤ d) (hd : 0 ≤ d) : (l.getLast?.map (·.Found)).getD 0 ≤ d := by
  cases hl : l.getLast? with
  | none => exact hd
  | some p => exact h p (List.mem_of_getLast? hl)
theorem correct_good {h : THistory} {c : TCorrection} (k1 : checkH h = 0) (hc : CorrOk c) (hf : ∀ x, x ∈ h.Corrections → x.Found ≤ c.Found) (hl : h.Corrections.length < 20) : (correctH h c).2 = 0 := by
  have k2 : corrsB (h.Corrections ++ [c]) = true := by
    rw [corrsB, corrsFrom_snoc, show corrsFrom 0 h.Corrections = true from (checkH_ok k1).2.2.2.1, Bool.true_and, (corrB_iff c).2 hc, Bool.true_and]
    exact decide_eq_true (lastF_le hf (by have := hc.found; have := hc.year; omega))
  rw [correctH, if_pos k1, if_pos k2, if_neg (by omega)]

/-- One thing done with a history. -/
inductive Step (found found' : Int) (h h' : THistory) : Prop
  | same (e : h' = h)
  | pres (y : Int) (hy : 0 ≤ y ∧ y ≤ 3) (e : (presentH h y).2.2 = 0) (e' : h' = (presentH h y).1)
  | corr (c : TCorrection) (hc : GenCorr found' c) (e : (correctH h c).2 = 0) (e' : h' = (correctH h c).1)
structure StepB (found found' : Int) (h h' : THistory) : Prop where
  step : Step found found' h h'
  lo : found ≤ found'
  hi : found' ≤ found + 29
/-- A history that the source makes. -/
structure GenH (n : Nat) (found : Int) (h : THistory) : Prop where
  ok : checkH h = 0
  led : GenL 8 2 1000 h.Ledger.Postings
  size : h.Corrections.length + h.Presented.length ≤ n
  found : ∀ c, c ∈ h.Corrections → c.Found ≤ found
theorem GenH.mono {n m : Nat} {f g : Int} {h : THistory} (hh : GenH n f h) (hn : n ≤ m) (hf : f ≤ g) : GenH m g h :=
  ⟨hh.ok, hh.led, by have := hh.size; omega, fun c hc => by have := hh.found c hc; omega⟩
theorem GenH.step {n : Nat} {f f' : Int} {h h' : THistory} (hh : GenH n f h) (hs : StepB f f' h h') : GenH (n + 1) f' h' := by
  obtain ⟨hs, h1, h2⟩ := hs
  have sz := hh.size
  cases hs with
  | same e => subst e; exact hh.mono (by omega) h1
  | pres y hy e e' =>
    obtain ⟨_, _, _, k4, k5⟩ := present_ok e
    rw [k4] at e'
    subst e'
    exact ⟨k5, hh.led, by simp; omega, fun c hc => by have := hh.found c hc; omega⟩
  | corr c hc e e' =>
    obtain ⟨_, _, _, k4, k5⟩ := correct_ok e
    rw [k4] at e'
    subst e'
    refine ⟨k5, hh.led, by simp; omega, fun x hx => ?_⟩
    rcases List.mem_append.1 hx with hx | hx
    · have := hh.found x hx; omega
    · simp at hx; subst hx
      rw [hc.found]
      exact Int.le_refl _
theorem GenH.base {l : List TPosting} (h : GenL 8 2 1000 l) : GenH 0 1080 ⟨⟨l⟩, [], []⟩ := ⟨by rw [checkH, if_pos h.ok]; rfl, h, by simp, by simp⟩

/-- What was presented is found, as long as the versions count on. -/
theorem vers_bound : ∀ (l pre : List TPresented), presFrom pre l = true → ∀ p, p ∈ l → (versN pre p.Year : Int) + 1 ≤ p.Version ∧ p.Version ≤ (versN (pre ++ l) p.Year : Int)
  | [], _, _, p, hp => by cases hp
  | a :: l, pre, h, p, hp => by
    rw [presFrom, Bool.and_eq_true, Bool.and_eq_true, decide_eq_true_eq] at h
    obtain ⟨_, h2, h3⟩ := h
    have mono : ∀ (m : List TPresented) (y : Int), versN pre y ≤ versN (pre ++ m) y := fun m y => by simp [versN, List.countP_append]
    have e : pre ++ a :: l = pre ++ [a] ++ l := by simp
    rcases List.mem_cons.1 hp with rfl | hp
    · refine ⟨by omega, ?_⟩
      have h4 := versN_snoc pre p p.Year
      rw [if_pos rfl] at h4
      have h5 : versN (pre ++ [p]) p.Year ≤ versN (pre ++ [p] ++ l) p.Year := by simp only [versN, List.countP_append]; omega
      rw [e]
      omega
    · have ih := vers_bound l (pre ++ [a]) h3 p hp
      rw [e]
      have h4 := versN_snoc pre a p.Year
      split at h4 <;> omega
theorem find_pres : ∀ (l pre : List TPresented), presFrom pre l = true → ∀ p, p ∈ l → l.find? (isP p.Year p.Version) = some p
  | [], _, _, p, hp => by cases hp
  | a :: l, pre, h, p, hp => by
    have vb := vers_bound (a :: l) pre h
    rw [presFrom, Bool.and_eq_true, Bool.and_eq_true, decide_eq_true_eq] at h
    obtain ⟨_, h2, h3⟩ := h
    rcases List.mem_cons.1 hp with rfl | hp'
    · rw [List.find?_cons, show isP p.Year p.Version p = true by simp [isP]]
    · have ih := find_pres l (pre ++ [a]) h3 p hp'
      rw [List.find?_cons]
      have : isP p.Year p.Version a = false := by
        cases hi : isP p.Year p.Version a
        · rfl
        · simp only [isP, Bool.and_eq_true, decide_eq_true_eq] at hi
          have := vers_bound l (pre ++ [a]) h3 p hp'
          have h4 := versN_snoc pre a p.Year
          rw [if_pos hi.1] at h4
          have : versN pre a.Year = versN pre p.Year := by rw [hi.1]
          omega
      rw [this]
      exact ih
theorem shown_find {h : THistory} (hh : checkH h = 0) {p : TPresented} (hp : p ∈ h.Presented) : shownH h p.Year p.Version = (p.Statement, true) := by
  rw [shownH, if_pos hh, find_pres h.Presented [] (checkH_ok hh).2.2.2.2 p hp]
theorem shown_none {h : THistory} (hh : checkH h = 0) {y v : Int} (hv : (versN h.Presented y : Int) < v) : shownH h y v = (zeroSt, false) := by
  have : h.Presented.find? (isP y v) = none := by
    rw [List.find?_eq_none]
    intro p hp hi
    simp only [isP, Bool.and_eq_true, decide_eq_true_eq] at hi
    have := (vers_bound h.Presented [] (checkH_ok hh).2.2.2.2 p hp).2
    rw [List.nil_append, hi.1, hi.2] at this
    omega
  rw [shownH, if_pos hh, this]
theorem step_keeps {f f' : Int} {h h' : THistory} (hs : Step f f' h h') : ∀ p, p ∈ h.Presented → p ∈ h'.Presented := fun p hp => by
  cases hs with
  | same e => subst e; exact hp
  | pres y hy e e' =>
    rw [(present_ok e).2.2.2.1] at e'
    subst e'
    exact List.mem_append_left _ hp
  | corr c hc e e' =>
    rw [(correct_ok e).2.2.2.1] at e'
    subst e'
    exact hp

/-- The worth at the beginning of a year is that of the end of the former one. -/
theorem worth_prev {h : THistory} (hh : checkH h = 0) (n : Int) : (restL h n).Worth = (restL h (n - 1)).Assets - (restL h (n - 1)).Liabilities := by
  have key : ∀ (q : Int → Bool), netP q (ofB 0 0 (360 * n - 1)) (restP h n) = netP q (ofB 0 0 (360 * n - 1)) (restP h (n - 1)) := fun q => by
    have go : ∀ l : List TCorrection, (∀ c, c ∈ l → CorrOk c) → netP q (ofB 0 0 (360 * n - 1)) (corrP (fun c => decide (c.Year ≤ n)) l) = netP q (ofB 0 0 (360 * n - 1)) (corrP (fun c => decide (c.Year ≤ n - 1)) l) := by
      intro l
      induction l with
      | nil => intro _; rfl
      | cons c l ih =>
        intro hl
        have ih := ih fun x hx => hl x (by simp [hx])
        have hc := hl c (by simp)
        simp only [corrP]
        rw [netP_app, netP_app, ih]
        congr 1
        by_cases h1 : c.Year ≤ n - 1
        · rw [if_pos (by simp; omega), if_pos (by simp [h1])]
        · rw [if_neg (c := decide (c.Year ≤ n - 1) = true) (by simp; omega)]
          by_cases h2 : c.Year ≤ n
          · rw [if_pos (by simp [h2])]
            refine netP_none fun p hp => ?_
            have := (hc.all p hp).2
            simp [ofB]
            omega
          · rw [if_neg (by simp; omega)]
    rw [restP, restP, netP_app, netP_app, go _ (checkH_corr hh)]
  have z := cls_zero (ofB 0 0 (360 * n - 1)) (restP h (n - 1)) fun p hp => ((restP_ok hh (n - 1)).1 p hp).fine
  have e1 : 360 * (n - 1) + 359 = 360 * n - 1 := by omega
  show -cls (ofB 0 0 (360 * n - 1)) (restP h n) 3 - cls (ofB 0 0 (360 * n - 1)) (restP h n) 4 - cls (ofB 0 0 (360 * n - 1)) (restP h n) 5 = cls (ofB 0 0 (360 * (n - 1) + 359)) (restP h (n - 1)) 1 - -cls (ofB 0 0 (360 * (n - 1) + 359)) (restP h (n - 1)) 2
  rw [e1]
  have k3 := key fun b => decide (classI b = 3)
  have k4 := key fun b => decide (classI b = 4)
  have k5 := key fun b => decide (classI b = 5)
  unfold cls at z ⊢
  omega
end Go.Proofs.Ytellcfkpfccgaaa
