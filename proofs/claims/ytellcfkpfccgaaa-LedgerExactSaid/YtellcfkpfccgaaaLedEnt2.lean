/- Ledgers: the postings of an account, the walk. -/
import Derived.Test.YtellcfkpfccgaaaLedEnt1
import Derived.Test.YtellcfkpfccgaaaAcc7
set_option linter.unusedSimpArgs false
set_option linter.unusedVariables false
namespace Go.Proofs.Ytellcfkpfccgaaa
open Go.PA
open Go.RowKit



set_option maxHeartbeats 2000000 in
theorem entries_pf (a : TAccount) (number first : Int) (hl : a.Subs.length ≤ 100000) (he : a.Entries.length ≤ 100000) : PFun Try.prog none none 55 [.agg a.cells, iv number, iv first] (· = postsL (entriesL a number first)) := by
  refine pfun_intro Try.func55 rfl (by simp [Try.f55]) (by kernel_rfl) ?_
  intro E hP hr hs hW hN
  obtain ⟨R, hR⟩ : ∃ R, R = entriesL a number first := ⟨_, rfl⟩
  rw [← hR]
  have ck := check_pf a hl he
  rw [cA] at ck
  have ia : Imm (.agg [iv a.Credit, subsL a.Subs, entsL a.Entries]) := by rw [← cA]; exact imm_acc a
  have bad : R = [] → ∀ {H : Heap} {b}, Done H .nil (· = postsL R) b := fun h => done_weak (x := postsL []) (by simp -dsimp -implicitDefEqProofs [-getElem?_pos, go_sem]) (imm_posts _) (show Weak .nil (.list 8 []) from .nil 8) (by rw [h])
  simp -dsimp -implicitDefEqProofs [-getElem?_pos, go_sem, hP, cA]
  refine callB_is (ck.lift _ _) hP en_97 (by simpa using ia) .sc ?_
  by_cases c1 : checkA a = 0
  rotate_left
  · have : R = [] := by rw [hR, entriesL, if_neg (fun h => c1 h.1)]
    simp -dsimp -implicitDefEqProofs [-getElem?_pos, go_sem, hP, c1]
    exact bad this
  simp -dsimp -implicitDefEqProofs [-getElem?_pos, go_sem, hP, c1]
  refine callB_pure (entity_pf number) hP en_98 (args_same (by simp -dsimp -implicitDefEqProofs [-getElem?_pos, go_sem])) .sc ?_
  by_cases c2 : betw number 1 10 = true
  rotate_left
  · have : R = [] := by rw [hR, entriesL, if_neg (fun h => c2 (betw_iff.2 h.2.1))]
    simp -dsimp -implicitDefEqProofs [-getElem?_pos, go_sem, hP, c2]
    exact bad this
  simp -dsimp -implicitDefEqProofs [-getElem?_pos, go_sem, hP, c2]
  refine callB_pure (ramong_pf first 1 999600) hP en_76 (args_same (by simp -dsimp -implicitDefEqProofs [-getElem?_pos, go_sem])) .sc ?_
  by_cases c3 : betw first 1 999600 = true
  rotate_left
  · have : R = [] := by rw [hR, entriesL, if_neg (fun h => c3 (betw_iff.2 h.2.2))]
    simp -dsimp -implicitDefEqProofs [-getElem?_pos, go_sem, hP, c3]
    exact bad this
  have hR' : entGo number first [] a.Entries = R := by rw [hR, entriesL, if_pos ⟨c1, betw_iff.1 c2, betw_iff.1 c3⟩]
  rw [betw_iff] at c3
  have hn4 := (check_ok c1).2.1
  have hne := fun e he => (check_mem c1 e he).2.2.2.2.1
  simp -dsimp -implicitDefEqProofs [-getElem?_pos, go_sem, hP, betw_iff.2 c3]
  refine aloop_own 7 37 8 (by simp -dsimp -implicitDefEqProofs [-getElem?_pos, go_sem]) ?_
  obtain ⟨I, hI⟩ : ∃ I : Nat → St → Prop, I = fun m s => ∃ (k id : Nat) (out : List TPosting), k ≤ a.Entries.length ∧ m = a.Entries.length - k ∧ out.length ≤ k ∧ entGo number first out (a.Entries.drop k) = R ∧ s.t 1 = iv number ∧ s.t 2 = iv first ∧ s.t 25 = entsL a.Entries ∧ s.t 26 = iv a.Entries.length ∧ s.t 27 = iv k ∧ s.t 7 = .sref id 0 out.length ∧ s.H[id]? = some (some ⟨37, 8, encL TPosting.cells out⟩) := ⟨_, rfl⟩
  refine aloopF 7 hW I (a.Entries.length) (by rw [hN]; rfl) ?_ ?_
  · rw [hI]
    exact ⟨0, 1, [], by omega, by omega, by simp, by simpa using hR', by simp -dsimp -implicitDefEqProofs [-getElem?_pos, go_sem], by simp -dsimp -implicitDefEqProofs [-getElem?_pos, go_sem], by simp -dsimp -implicitDefEqProofs [-getElem?_pos, go_sem], by simp -dsimp -implicitDefEqProofs [-getElem?_pos, go_sem], by simp -dsimp -implicitDefEqProofs [-getElem?_pos, go_sem], by simp -dsimp -implicitDefEqProofs [-getElem?_pos, go_sem], by simp -dsimp -implicitDefEqProofs [-getElem?_pos, go_sem, encL_nil]⟩
  intro m s hs'
  rw [hI] at hs'
  obtain ⟨k, id, out, hk, hm, hol, hgo, t1, t2, t25, t26, t27, t7, hH⟩ := hs'
  have hlt := (List.getElem?_eq_some_iff.1 hH).1
  simp -dsimp -implicitDefEqProofs [-getElem?_pos, go_sem, hP, t26, t27]
  refine condP (fun h => ?_) (fun h => ?_)
  · have hk : k < a.Entries.length := by simpa using h
    obtain ⟨e, hee⟩ : ∃ e, a.Entries[k]? = some e := ⟨_, List.getElem?_eq_getElem hk⟩
    have hft := hne e (List.mem_of_getElem? hee)
    have wk := wrap_in ((k : Int) + 1) (by omega)
    have wf := wrap_in (first + (out.length : Int)) (by omega)
    rw [drop_get hee, entGo] at hgo
    have e0 : encL TPosting.cells out ++ [(entP number first out.length e).cells] = encL TPosting.cells (out ++ [entP number first out.length e]) := encL_snoc TPosting.cells out _
    rw [cP] at e0
    by_cases z1 : e.To = 0
    · have z2 : ioB e = true := by simp [ioB, z1]
      rw [if_pos z2] at hgo
      simp only [entP, z1, if_true] at e0
      simp -dsimp -implicitDefEqProofs [-getElem?_pos, go_sem, hP, t25, t27, hee, cE, t1, t2, t7, wf, hlt, hH, z1, wk]
      refine ⟨by omega, by omega, ?_⟩
      refine ⟨a.Entries.length - (k + 1), by omega, ?_⟩
      rw [hI]
      exact ⟨k + 1, s.H.length + 2, _, by omega, rfl, by simp; omega, hgo, by simp -dsimp -implicitDefEqProofs [-getElem?_pos, go_sem, t1], by simp -dsimp -implicitDefEqProofs [-getElem?_pos, go_sem, t2], by simp -dsimp -implicitDefEqProofs [-getElem?_pos, go_sem, t25], by simp -dsimp -implicitDefEqProofs [-getElem?_pos, go_sem, t26], by simp -dsimp -implicitDefEqProofs [-getElem?_pos, go_sem], by simp -dsimp -implicitDefEqProofs [-getElem?_pos, go_sem], by simp -dsimp -implicitDefEqProofs [-getElem?_pos, go_sem, z1, entP, ← e0]⟩
    have d1 : decide (e.To = 0) = false := decide_eq_false z1
    by_cases z2 : e.From = 0
    · have z3 : ioB e = true := by simp [ioB, z2]
      rw [if_pos z3] at hgo
      simp only [entP, if_neg z1] at e0
      simp -dsimp -implicitDefEqProofs [-getElem?_pos, go_sem, hP, t25, t27, hee, cE, t1, t2, t7, wf, hlt, hH, d1, z2, wk]
      refine ⟨by omega, by omega, ?_⟩
      refine ⟨a.Entries.length - (k + 1), by omega, ?_⟩
      rw [hI]
      exact ⟨k + 1, s.H.length + 2, _, by omega, rfl, by simp; omega, hgo, by simp -dsimp -implicitDefEqProofs [-getElem?_pos, go_sem, t1], by simp -dsimp -implicitDefEqProofs [-getElem?_pos, go_sem, t2], by simp -dsimp -implicitDefEqProofs [-getElem?_pos, go_sem, t25], by simp -dsimp -implicitDefEqProofs [-getElem?_pos, go_sem, t26], by simp -dsimp -implicitDefEqProofs [-getElem?_pos, go_sem], by simp -dsimp -implicitDefEqProofs [-getElem?_pos, go_sem], by simp -dsimp -implicitDefEqProofs [-getElem?_pos, go_sem, z1, entP, ← e0]⟩
    · have z3 : ¬ ioB e = true := by simp [ioB, z1, z2]
      have d2 : decide (e.From = 0) = false := decide_eq_false z2
      rw [if_neg z3] at hgo
      simp -dsimp -implicitDefEqProofs [-getElem?_pos, go_sem, hP, t25, t27, hee, cE, t1, t2, t7, wf, hlt, hH, d1, d2, z2, wk]
      refine ⟨a.Entries.length - (k + 1), by omega, ?_⟩
      rw [hI]
      exact ⟨k + 1, id, out, by omega, rfl, by omega, hgo, by simp -dsimp -implicitDefEqProofs [-getElem?_pos, go_sem, t1], by simp -dsimp -implicitDefEqProofs [-getElem?_pos, go_sem, t2], by simp -dsimp -implicitDefEqProofs [-getElem?_pos, go_sem, t25], by simp -dsimp -implicitDefEqProofs [-getElem?_pos, go_sem, t26], by simp -dsimp -implicitDefEqProofs [-getElem?_pos, go_sem], by simp -dsimp -implicitDefEqProofs [-getElem?_pos, go_sem, t7], by simp -dsimp -implicitDefEqProofs [-getElem?_pos, go_sem, hlt, hH]⟩
  · have hk : k = a.Entries.length := by simp at h; omega
    subst hk
    rw [List.drop_length, entGo] at hgo
    rw [hgo] at t7 hH
    refine frz id _ 37 8 (encL TPosting.cells R) t7 hH (by rw [encL_len]) (imm_posts _) ?_
    simp -dsimp -implicitDefEqProofs [-getElem?_pos, go_sem, hP]
    exact done_imm (imm_posts _) rfl
end Go.Proofs.Ytellcfkpfccgaaa
