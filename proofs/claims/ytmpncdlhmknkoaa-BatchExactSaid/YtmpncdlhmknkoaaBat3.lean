/- Queues: the program's check. -/
import Derived.Test.YtmpncdlhmknkoaaBat2
import Derived.Test.YtmpncdlhmknkoaaDel
set_option linter.unusedSimpArgs false
set_option linter.unusedVariables false
namespace Go.Proofs.Ytmpncdlhmknkoaa
open Go.PA
open Go.RowKit

theorem strange1_pf (p : TPayment) (q : TQueue) (hl : q.Known.length ≤ 1000000) : PFun Try.prog none none 66 [.agg p.cells, .iref q.cells] (· = bv (!inK q.Known p)) := by
  refine pfun_intro Try.func66 rfl (by simp [Try.f66]) (by kernel_rfl) ?_
  intro E hP hr hs hW hN
  simp -dsimp -implicitDefEqProofs [-getElem?_pos, go_sem, hP, cPy, cQu]
  refine callB_is ((containsInt_pf q.Known p.Warrant hl).lift _ _) hP en_54 (by simp [imm_ints, imm_sc]) .sc ?_
  simp -dsimp -implicitDefEqProofs [-getElem?_pos, go_sem, hP, inK]
theorem bstrange_pf (q : TQueue) (l : List TPayment) (hq : q.Known.length ≤ 1000000) (hl : l.length ≤ 1000000) : PFun Try.prog none none 41 [.agg q.cells, paysL l] (· = bv (!l.all (inK q.Known))) := by
  refine pfun_intro Try.func41 rfl (by simp [Try.f41]) (by kernel_rfl) ?_
  intro E hP hr hs hW hN
  have iq := q.imm
  have ip := imm_pays l
  simp -dsimp -implicitDefEqProofs [-getElem?_pos, go_sem, hP, cQu, intsL]
  refine callB_pure (contains_pf_pay l 66 [.iref q.cells] (fun p => !inK q.Known p) hl en_66 (by simp [imm_iref]; exact q.imm) fun p _ => strange1_pf p q hq) hP en_65 (args_imm ip (args_fnc (cs := [.ref 0 0 0]) (by simp -dsimp -implicitDefEqProofs [-getElem?_pos, go_sem, viewR_ref, cQu, intsL]) (by simp [imm_iref]; exact q.imm) (args_nil.2 trivial))) .sc ?_
  have e : l.any (fun p => !inK q.Known p) = !l.all (inK q.Known) := by rw [List.not_all_eq_any_not]
  simp -dsimp -implicitDefEqProofs [-getElem?_pos, go_sem, hP, e]
theorem waits1_pf (p : TPayment) (w : Int) : PFun Try.prog none none 77 [.agg p.cells, .iref [iv w]] (· = bv (decide (p.Warrant = w))) := by
  refine pfun_intro Try.func77 rfl (by simp [Try.f77]) (by kernel_rfl) ?_
  intro E hP hr hs hW hN
  simp -dsimp -implicitDefEqProofs [-getElem?_pos, go_sem, hP, cPy]
theorem bwaits_pf (q : TQueue) (w : Int) (hl : q.Waiting.length ≤ 1000000) : PFun Try.prog none none 56 [.agg q.cells, iv w] (· = iv (waitQ q w)) := by
  refine pfun_intro Try.func56 rfl (by simp [Try.f56]) (by kernel_rfl) ?_
  intro E hP hr hs hW hN
  have ip := imm_pays q.Waiting
  simp -dsimp -implicitDefEqProofs [-getElem?_pos, go_sem, hP, cQu, intsL]
  refine callB_pure (index_pf_pay q.Waiting 77 [.iref [iv w]] (fun p => decide (p.Warrant = w)) hl en_77 (by simp [imm_iref, imm_sc]) fun p _ => waits1_pf p w) hP en_74 (args_imm ip (args_fnc (cs := [.ref 1 0 0]) (by simp -dsimp -implicitDefEqProofs [-getElem?_pos, go_sem, viewR_ref]) (by simp [imm_iref, imm_sc]) (args_nil.2 trivial))) .sc ?_
  simp -dsimp -implicitDefEqProofs [-getElem?_pos, go_sem, hP, waitQ]

theorem getM_put {β : Type} (l : List (Int × β)) (k a : Int) (v : β) : getM (putM l k v) a = if a = k then some v else getM l a := by
  induction l with
  | nil =>
    simp only [putM, getM]
    by_cases h : a = k
    · subst h; simp
    · rw [if_neg (fun e => h e.symm), if_neg h]
  | cons e l ih =>
    simp only [putM]
    by_cases h : e.1 = k
    · rw [if_pos h]
      simp only [getM]
      by_cases h' : a = k
      · subst h'; simp
      · rw [if_neg (fun e => h' e.symm), if_neg h', if_neg (fun e' => h' (e'.symm.trans h))]
    · rw [if_neg h]
      simp only [getM, ih]
      by_cases h' : e.1 = a
      · rw [if_pos h', if_pos h', if_neg (fun e' => h (h'.trans e'))]
      · rw [if_neg h', if_neg h']
def seenM (l : List TPayment) : List (Int × Bool) := l.foldl (fun m p => putM m p.Warrant true) []
theorem seen_from (w : Int) : ∀ (l : List TPayment) (m : List (Int × Bool)), (getM (l.foldl (fun m p => putM m p.Warrant true) m) w).getD false = ((getM m w).getD false || l.any fun x => decide (x.Warrant = w))
  | [], m => by simp
  | p :: l, m => by
    rw [List.foldl_cons, seen_from w l, getM_put, List.any_cons]
    by_cases h : w = p.Warrant
    · simp [h]
    · have h' : ¬ p.Warrant = w := fun e => h e.symm
      simp [h, h']
theorem seen_get (l : List TPayment) (w : Int) : (getM (seenM l) w).getD false = l.any fun x => decide (x.Warrant = w) := by
  rw [seenM, seen_from]
  simp [getM]
theorem seen_snoc (l : List TPayment) (p : TPayment) : putM (seenM l) p.Warrant true = seenM (l ++ [p]) := by
  rw [seenM, seenM, List.foldl_append]
  rfl

theorem btwice_pf (l : List TPayment) (hl : l.length ≤ 1000000) : PFun Try.prog none none 42 [paysL l] (· = bv (!distFrom [] l)) := by
  refine pfun_intro Try.func42 rfl (by simp [Try.f42]) (by kernel_rfl) ?_
  intro E hP hr hs hW hN
  obtain ⟨R, hR⟩ : ∃ R, R = distFrom [] l := ⟨_, rfl⟩
  rw [← hR]
  simp -dsimp -implicitDefEqProofs [-getElem?_pos, go_sem, hP]
  obtain ⟨I, hI⟩ : ∃ I : Nat → St → Prop, I = fun m s => ∃ k : Nat, k ≤ l.length ∧ m = l.length - k ∧ R = distFrom (l.take k) (l.drop k) ∧ s.t 3 = .mref 0 ∧ s.t 7 = paysL l ∧ s.t 8 = iv l.length ∧ s.t 9 = iv k ∧ s.H[0]? = some (some ⟨0, 2, encK valB (seenM (l.take k))⟩) := ⟨_, rfl⟩
  refine aloop0 I (l.length) (by rw [hN]; rfl) ?_ ?_
  · rw [hI]
    exact ⟨0, by omega, by omega, by rw [hR]; rfl, by simp -dsimp -implicitDefEqProofs [-getElem?_pos, go_sem], by simp -dsimp -implicitDefEqProofs [-getElem?_pos, go_sem], by simp -dsimp -implicitDefEqProofs [-getElem?_pos, go_sem], by simp -dsimp -implicitDefEqProofs [-getElem?_pos, go_sem], by simp -dsimp -implicitDefEqProofs [-getElem?_pos, go_sem]; rfl⟩
  intro m s hs'
  rw [hI] at hs'
  obtain ⟨k, hk, hm, hq, t3, t7, t8, t9, hH⟩ := hs'
  have lt0 := (List.getElem?_eq_some_iff.1 hH).1
  simp -dsimp -implicitDefEqProofs [-getElem?_pos, go_sem, hP, t8, t9]
  refine condP (fun h => ?_) (fun h => ?_)
  · have hk : k < l.length := by simpa using h
    obtain ⟨p, hp⟩ : ∃ p, l[k]? = some p := ⟨_, List.getElem?_eq_getElem hk⟩
    have wk := wrap_in ((k : Int) + 1) (by omega)
    rw [drop_at hp, distFrom] at hq
    have sg := seen_get (l.take k) p.Warrant
    have ss := seen_snoc (l.take k) p
    rw [← take_at hp] at ss hq
    generalize seenM (l.take k) = M at sg ss hH
    generalize (l.take k).any (fun x => decide (x.Warrant = p.Warrant)) = y at sg hq
    cases y
    · rw [Bool.not_false, Bool.true_and] at hq
      simp -dsimp -implicitDefEqProofs [-getElem?_pos, go_sem, hP, t7, t9, hp, cPy, t3, lt0, hH, sg]
      simp -dsimp -implicitDefEqProofs [-getElem?_pos, go_sem, hP, t3, lt0, hH, wk, t9, ss]
      refine ⟨l.length - (k + 1), by omega, ?_⟩
      rw [hI]
      exact ⟨k + 1, by omega, rfl, hq, by simp -dsimp -implicitDefEqProofs [-getElem?_pos, go_sem, t3], by simp -dsimp -implicitDefEqProofs [-getElem?_pos, go_sem, t7], by simp -dsimp -implicitDefEqProofs [-getElem?_pos, go_sem, t8], by simp -dsimp -implicitDefEqProofs [-getElem?_pos, go_sem], by simp -dsimp -implicitDefEqProofs [-getElem?_pos, go_sem, lt0]⟩
    · rw [Bool.not_true, Bool.false_and] at hq
      simp -dsimp -implicitDefEqProofs [-getElem?_pos, go_sem, hP, t7, t9, hp, cPy, t3, lt0, hH, sg, hq]
  · have hk : k = l.length := by simp at h; omega
    subst hk
    rw [List.drop_length, distFrom] at hq
    simp -dsimp -implicitDefEqProofs [-getElem?_pos, go_sem, hP, hq]

theorem cvalid_pf (d : Int) : PFun Try.prog none none 75 [iv d] (· = bv (amg d 0 36000)) := by
  refine pfun_intro Try.func75 rfl (by simp [Try.f75]) (by kernel_rfl) ?_
  intro E hP hr hs hW hN
  by_cases h1 : 0 ≤ d <;> by_cases h2 : d ≤ 36000 <;> simp -dsimp -implicitDefEqProofs [-getElem?_pos, go_sem, hP, h1, h2, amg]
theorem r02valid_pf (d : Int) : PFun Try.prog none none 78 [iv d] (· = bv (amg d 0 36000)) := by
  refine pfun_intro Try.func78 rfl (by simp [Try.f78]) (by kernel_rfl) ?_
  intro E hP hr hs hW hN
  by_cases h1 : 0 ≤ d <;> by_cases h2 : d ≤ 36000 <;> simp -dsimp -implicitDefEqProofs [-getElem?_pos, go_sem, hP, h1, h2, amg]
theorem cbusiness_pf (d : Int) : PFun Try.prog none none 52 [iv d] (· = bv (busB d)) := by
  refine pfun_intro Try.func52 rfl (by simp [Try.f52]) (by kernel_rfl) ?_
  intro E hP hr hs hW hN
  simp -dsimp -implicitDefEqProofs [-getElem?_pos, go_sem, hP]
  refine callB_pure (cvalid_pf d) hP en_75 (args_same (by simp -dsimp -implicitDefEqProofs [-getElem?_pos, go_sem])) .sc ?_
  cases h : amg d 0 36000
  · simp -dsimp -implicitDefEqProofs [-getElem?_pos, go_sem, hP, h, busB]
  have hd := amg_iff.1 h
  have e : d.tmod 7 = d % 7 := Int.tmod_eq_emod_of_nonneg (by omega)
  have w := wrap_in (d % 7) (by omega)
  simp -dsimp -implicitDefEqProofs [-getElem?_pos, go_sem, hP, h, busB, e, w]
theorem r02business_pf (d : Int) : PFun Try.prog none none 60 [iv d] (· = bv (busB d)) := by
  refine pfun_intro Try.func60 rfl (by simp [Try.f60]) (by kernel_rfl) ?_
  intro E hP hr hs hW hN
  simp -dsimp -implicitDefEqProofs [-getElem?_pos, go_sem, hP]
  refine callB_pure (r02valid_pf d) hP en_78 (args_same (by simp -dsimp -implicitDefEqProofs [-getElem?_pos, go_sem])) .sc ?_
  cases h : amg d 0 36000
  · simp -dsimp -implicitDefEqProofs [-getElem?_pos, go_sem, hP, h, busB]
  have hd := amg_iff.1 h
  have e : d.tmod 7 = d % 7 := Int.tmod_eq_emod_of_nonneg (by omega)
  have w := wrap_in (d % 7) (by omega)
  simp -dsimp -implicitDefEqProofs [-getElem?_pos, go_sem, hP, h, busB, e, w]
end Go.Proofs.Ytmpncdlhmknkoaa
