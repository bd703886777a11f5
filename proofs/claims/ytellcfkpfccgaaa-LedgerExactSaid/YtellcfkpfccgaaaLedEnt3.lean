/- Ledgers: the postings of an account, the reference's walk. -/
import Derived.Test.YtellcfkpfccgaaaLedEnt2
set_option linter.unusedSimpArgs false
set_option linter.unusedVariables false
namespace Go.Proofs.Ytellcfkpfccgaaa
open Go.PA
open Go.RowKit

set_option maxHeartbeats 2000000 in
theorem rentries_pf (a : TAccount) (number first : Int) (hl : a.Subs.length ≤ 100000) (he : a.Entries.length ≤ 100000) : PFun Try.prog none none 70 [.agg a.cells, iv number, iv first] (· = postsL (entriesL a number first)) := by
  refine pfun_intro Try.func70 rfl (by simp [Try.f70]) (by kernel_rfl) ?_
  intro E hP hr hs hW hN
  obtain ⟨R, hR⟩ : ∃ R, R = entriesL a number first := ⟨_, rfl⟩
  rw [← hR]
  have ck := check23_pf a hl he
  rw [cA] at ck
  have ia : Imm (.agg [iv a.Credit, subsL a.Subs, entsL a.Entries]) := by rw [← cA]; exact imm_acc a
  have bad : R = [] → ∀ {H : Heap} {b}, Done H .nil (· = postsL R) b := fun h => done_weak (x := postsL []) (by simp -dsimp -implicitDefEqProofs [-getElem?_pos, go_sem]) (imm_posts _) (show Weak .nil (.list 8 []) from .nil 8) (by rw [h])
  simp -dsimp -implicitDefEqProofs [-getElem?_pos, go_sem, hP, cA]
  refine callB_is (ck.lift _ _) hP en_101 (by simpa using ia) .sc ?_
  by_cases c1 : checkA a = 0
  rotate_left
  · have : R = [] := by rw [hR, entriesL, if_neg (fun h => c1 h.1)]
    simp -dsimp -implicitDefEqProofs [-getElem?_pos, go_sem, hP, c1]
    exact bad this
  simp -dsimp -implicitDefEqProofs [-getElem?_pos, go_sem, hP, c1]
  by_cases q1 : number < 1
  · have : R = [] := by rw [hR, entriesL, if_neg (fun h => by have := h.2.1; omega)]
    have d1 : decide (number < 1) = true := decide_eq_true q1
    simp -dsimp -implicitDefEqProofs [-getElem?_pos, go_sem, hP, d1]
    exact bad this
  have d1 : decide (number < 1) = false := decide_eq_false q1
  by_cases q2 : 10 < number
  · have : R = [] := by rw [hR, entriesL, if_neg (fun h => by have := h.2.1; omega)]
    have d2 : decide (10 < number) = true := decide_eq_true q2
    simp -dsimp -implicitDefEqProofs [-getElem?_pos, go_sem, hP, d1, d2]
    exact bad this
  have d2 : decide (10 < number) = false := decide_eq_false q2
  by_cases q3 : first < 1
  · have : R = [] := by rw [hR, entriesL, if_neg (fun h => by have := h.2.2; omega)]
    have d3 : decide (first < 1) = true := decide_eq_true q3
    simp -dsimp -implicitDefEqProofs [-getElem?_pos, go_sem, hP, d1, d2, d3]
    exact bad this
  have d3 : decide (first < 1) = false := decide_eq_false q3
  by_cases q4 : 999600 < first
  · have : R = [] := by rw [hR, entriesL, if_neg (fun h => by have := h.2.2; omega)]
    have d4 : decide (999600 < first) = true := decide_eq_true q4
    simp -dsimp -implicitDefEqProofs [-getElem?_pos, go_sem, hP, d1, d2, d3, d4]
    exact bad this
  have d4 : decide (999600 < first) = false := decide_eq_false q4
  have c2 : betw number 1 10 = true := betw_iff.2 (by omega)
  have c3 : betw first 1 999600 = true := betw_iff.2 (by omega)
  have hR' : entGo number first [] a.Entries = R := by rw [hR, entriesL, if_pos ⟨c1, betw_iff.1 c2, betw_iff.1 c3⟩]
  rw [betw_iff] at c3
  have hn4 := (check_ok c1).2.1
  have hne := fun e he => (check_mem c1 e he).2.2.2.2.1
  simp -dsimp -implicitDefEqProofs [-getElem?_pos, go_sem, hP, d1, d2, d3, d4]
  refine aloop_own 7 37 8 (by simp -dsimp -implicitDefEqProofs [-getElem?_pos, go_sem]) ?_
  obtain ⟨I, hI⟩ : ∃ I : Nat → St → Prop, I = fun m s => ∃ (k id : Nat) (out : List TPosting), k ≤ a.Entries.length ∧ m = a.Entries.length - k ∧ out.length ≤ k ∧ entGo number first out (a.Entries.drop k) = R ∧ s.t 1 = iv number ∧ s.t 2 = iv first ∧ s.t 31 = entsL a.Entries ∧ s.t 32 = iv a.Entries.length ∧ s.t 33 = iv k ∧ s.t 7 = .sref id 0 out.length ∧ s.H[id]? = some (some ⟨37, 8, encL TPosting.cells out⟩) := ⟨_, rfl⟩
  refine aloopF 7 hW I (a.Entries.length) (by rw [hN]; rfl) ?_ ?_
  · rw [hI]
    exact ⟨0, 1, [], by omega, by omega, by simp, by simpa using hR', by simp -dsimp -implicitDefEqProofs [-getElem?_pos, go_sem], by simp -dsimp -implicitDefEqProofs [-getElem?_pos, go_sem], by simp -dsimp -implicitDefEqProofs [-getElem?_pos, go_sem], by simp -dsimp -implicitDefEqProofs [-getElem?_pos, go_sem], by simp -dsimp -implicitDefEqProofs [-getElem?_pos, go_sem], by simp -dsimp -implicitDefEqProofs [-getElem?_pos, go_sem], by simp -dsimp -implicitDefEqProofs [-getElem?_pos, go_sem, encL_nil]⟩
  intro m s hs'
  rw [hI] at hs'
  obtain ⟨k, id, out, hk, hm, hol, hgo, t1, t2, t31, t32, t33, t7, hH⟩ := hs'
  have hlt := (List.getElem?_eq_some_iff.1 hH).1
  simp -dsimp -implicitDefEqProofs [-getElem?_pos, go_sem, hP, t32, t33]
  refine condP (fun h => ?_) (fun h => ?_)
  · have hk : k < a.Entries.length := by simpa using h
    obtain ⟨e, hee⟩ : ∃ e, a.Entries[k]? = some e := ⟨_, List.getElem?_eq_getElem hk⟩
    have hft := hne e (List.mem_of_getElem? hee)
    have wk := wrap_in ((k : Int) + 1) (by omega)
    have wf := wrap_in (first + (out.length : Int)) (by omega)
    rw [drop_get hee, entGo] at hgo
    have e0 : encL TPosting.cells out ++ [(entP number first out.length e).cells] = encL TPosting.cells (out ++ [entP number first out.length e]) := encL_snoc TPosting.cells out _
    rw [cP] at e0
    by_cases z1 : e.From = 0
    · have z3 : ¬ e.To = 0 := fun h => hft (z1.trans h.symm)
      have z2 : ioB e = true := by simp [ioB, z1]
      rw [if_pos z2] at hgo
      simp only [entP, if_neg z3] at e0
      simp -dsimp -implicitDefEqProofs [-getElem?_pos, go_sem, hP, t31, t33, hee, cE, t1, t2, t7, wf, hlt, hH, z1, wk]
      refine ⟨by omega, by omega, ?_⟩
      refine ⟨a.Entries.length - (k + 1), by omega, ?_⟩
      rw [hI]
      exact ⟨k + 1, s.H.length + 2, _, by omega, rfl, by simp; omega, hgo, by simp -dsimp -implicitDefEqProofs [-getElem?_pos, go_sem, t1], by simp -dsimp -implicitDefEqProofs [-getElem?_pos, go_sem, t2], by simp -dsimp -implicitDefEqProofs [-getElem?_pos, go_sem, t31], by simp -dsimp -implicitDefEqProofs [-getElem?_pos, go_sem, t32], by simp -dsimp -implicitDefEqProofs [-getElem?_pos, go_sem], by simp -dsimp -implicitDefEqProofs [-getElem?_pos, go_sem], by simp -dsimp -implicitDefEqProofs [-getElem?_pos, go_sem, z3, entP, ← e0]⟩
    have d5 : decide (e.From = 0) = false := decide_eq_false z1
    by_cases z2 : e.To = 0
    · have z3 : ioB e = true := by simp [ioB, z2]
      rw [if_pos z3] at hgo
      simp only [entP, z2, if_true] at e0
      simp -dsimp -implicitDefEqProofs [-getElem?_pos, go_sem, hP, t31, t33, hee, cE, t1, t2, t7, wf, hlt, hH, d5, z1, z2, wk]
      refine ⟨by omega, by omega, ?_⟩
      refine ⟨a.Entries.length - (k + 1), by omega, ?_⟩
      rw [hI]
      exact ⟨k + 1, s.H.length + 2, _, by omega, rfl, by simp; omega, hgo, by simp -dsimp -implicitDefEqProofs [-getElem?_pos, go_sem, t1], by simp -dsimp -implicitDefEqProofs [-getElem?_pos, go_sem, t2], by simp -dsimp -implicitDefEqProofs [-getElem?_pos, go_sem, t31], by simp -dsimp -implicitDefEqProofs [-getElem?_pos, go_sem, t32], by simp -dsimp -implicitDefEqProofs [-getElem?_pos, go_sem], by simp -dsimp -implicitDefEqProofs [-getElem?_pos, go_sem], by simp -dsimp -implicitDefEqProofs [-getElem?_pos, go_sem, z2, entP, ← e0]⟩
    · have z3 : ¬ ioB e = true := by simp [ioB, z1, z2]
      have d6 : decide (e.To = 0) = false := decide_eq_false z2
      rw [if_neg z3] at hgo
      simp -dsimp -implicitDefEqProofs [-getElem?_pos, go_sem, hP, t31, t33, hee, cE, t1, t2, t7, wf, hlt, hH, d5, d6, z1, z2, wk]
      refine ⟨a.Entries.length - (k + 1), by omega, ?_⟩
      rw [hI]
      exact ⟨k + 1, id, out, by omega, rfl, by omega, hgo, by simp -dsimp -implicitDefEqProofs [-getElem?_pos, go_sem, t1], by simp -dsimp -implicitDefEqProofs [-getElem?_pos, go_sem, t2], by simp -dsimp -implicitDefEqProofs [-getElem?_pos, go_sem, t31], by simp -dsimp -implicitDefEqProofs [-getElem?_pos, go_sem, t32], by simp -dsimp -implicitDefEqProofs [-getElem?_pos, go_sem], by simp -dsimp -implicitDefEqProofs [-getElem?_pos, go_sem, t7], by simp -dsimp -implicitDefEqProofs [-getElem?_pos, go_sem, hlt, hH]⟩
  · have hk : k = a.Entries.length := by simp at h; omega
    subst hk
    rw [List.drop_length, entGo] at hgo
    rw [hgo] at t7 hH
    refine frz id _ 37 8 (encL TPosting.cells R) t7 hH (by rw [encL_len]) (imm_posts _) ?_
    simp -dsimp -implicitDefEqProofs [-getElem?_pos, go_sem, hP]
    exact done_imm (imm_posts _) rfl
end Go.Proofs.Ytellcfkpfccgaaa
