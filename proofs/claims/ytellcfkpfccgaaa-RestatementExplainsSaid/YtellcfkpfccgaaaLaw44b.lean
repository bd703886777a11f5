/- RestatementExplains: the walk. -/
import Derived.Test.YtellcfkpfccgaaaResSane
set_option linter.unusedSimpArgs false
set_option linter.unusedVariables false
namespace Go.Proofs.Ytellcfkpfccgaaa
open Go.PA
open Go.RowKit

set_option maxHeartbeats 4000000 in
theorem explains_law_pf (xs : List Int) (hx : Small xs) (hl : xs.length ≤ 9223372036854775807) :
    PFun Try.prog none none 10 [intsL xs] (· = bv true) := by
  refine pfun_introA Try.func10 rfl (by simp [Try.f10]) ?_
  intro E hP hr hs hW hN
  refine awp_cut (by rw [hN]; kernel_rfl) ?_
  simp [go_sem, hP]
  refine awp_cut (by rw [hN]; kernel_rfl) ?_
  simp [go_sem, hP]
  have hnew : POwn Try.prog E.row E.src 15 [intsL xs] 112 2 (· = [[intsL (xs.take 900), iv 0]]) := by rw [hr, hs]; exact new_pf xs hl
  refine callB_own hnew hP en_15 (args_same (by simp [go_sem, intsL])) (by simp [srefs_imm, go_sem, intsL]) ⟨_, rfl⟩ ?_
  rintro es rfl
  simp [go_sem, hP]
  refine awp_adopt 3 (ty := 112) (xs := xs.take 900) (at_ := 0) hr hs hW (by simp [go_sem]) (by simp [go_sem, intsL]) (by omega) (by simp; omega) (fun x hx' => hx x (List.mem_of_mem_take hx')) (by rw [hN]; kernel_rfl) ?_
  intro E' p hP' hr' hN' hW'
  rw [hP] at hP'
  rw [hN] at hN'
  clear hnew hP hr hs hW hN E
  rename Env => E
  rename E.P = _ => hP
  rename E.row = _ => hr
  rename E.N = _ => hN
  rename (∀ b, ¬ E.W b) => hW
  obtain ⟨src, hs⟩ : ∃ src, E.src = src := ⟨_, rfl⟩
  have up : ∀ {f : FuncId} {args : List AV} {Q : AV → Prop}, PFun Try.prog (some p) src f args Q → PFun Try.prog E.row E.src f args Q := fun h => hr ▸ hs ▸ h

  simp -dsimp -implicitDefEqProofs [-getElem?_pos, go_sem, hP]
  refine callB_isQ (up (made_pf p src 6 (by omega))) hP en_26 (by simp [go_sem]) (made_ex 6) ?_
  rintro r ⟨h, f0, rfl, hf0, hg⟩ _
  have hok := hg.ok
  have hfit := fit_of_check hok
  have ihh := imm_his h
  rw [cH] at ihh
  simp -dsimp -implicitDefEqProofs [-getElem?_pos, go_sem, hP, cH]
  obtain ⟨I, hI⟩ : ∃ I : Nat → St → Prop, I = fun m s => ∃ (k : Nat), k ≤ 4 ∧ m = 4 - k ∧ s.t 4 = .ref 1 0 0 ∧ s.t 5 = iv k ∧ s.H[1]? = some (some ⟨56, 3, [[postsL h.Ledger.Postings, presL h.Presented, corrsL h.Corrections]]⟩) := ⟨_, rfl⟩
  refine aloop0 I (4) (by rw [hN]; rfl) ?_ ?_
  · rw [hI]
    exact ⟨0, by omega, by omega, by simp -dsimp -implicitDefEqProofs [-getElem?_pos, go_sem], by simp -dsimp -implicitDefEqProofs [-getElem?_pos, go_sem], by simp -dsimp -implicitDefEqProofs [-getElem?_pos, go_sem]⟩
  intro m s hs'
  rw [hI] at hs'
  obtain ⟨k, hk, hm, t4, t5, h1⟩ := hs'
  have lt1 := (List.getElem?_eq_some_iff.1 h1).1
  simp -dsimp -implicitDefEqProofs [-getElem?_pos, go_sem, hP, t5]
  refine condP (fun hh => ?_) (fun hh => ?_)
  rotate_left
  · simp -dsimp -implicitDefEqProofs [-getElem?_pos, go_sem, hP]
    refine callB_pure sane44_pf hP en_30 (args_same (by simp -dsimp -implicitDefEqProofs [-getElem?_pos, go_sem])) .sc ?_
    simp -dsimp -implicitDefEqProofs [-getElem?_pos, go_sem, hP]
  have hk3 : k ≤ 3 := by simp at hh; omega
  have wk := wrap_in ((k : Int) + 1) (by omega)
  have wj := wrap_in ((k : Int) - 1) (by omega)
  have ex := Explained_pf h k hfit
  have yk : yearB (k : Int) = true := betw_iff.2 (by omega)
  rw [show explainedH h (k : Int) = true by rw [explainedH, decide_eq_true hok, yk]; rfl, cH] at ex
  simp -dsimp -implicitDefEqProofs [-getElem?_pos, go_sem, hP, t4, h1, lt1, t5]
  refine callB_is (ex.lift _ _) hP en_37 (by simp [imm_sc]; exact ihh) .sc ?_
  by_cases k0 : k = 0
  · subst k0
    simp -dsimp -implicitDefEqProofs [-getElem?_pos, go_sem, hP, t5]
    refine ⟨3, by omega, ?_⟩
    rw [hI]
    exact ⟨1, by omega, by omega, by simp -dsimp -implicitDefEqProofs [-getElem?_pos, go_sem, t4], by simp -dsimp -implicitDefEqProofs [-getElem?_pos, go_sem, show IntKind.i64.wrap 1 = 1 from rfl], by simp -dsimp -implicitDefEqProofs [-getElem?_pos, go_sem, h1]⟩
  have d0 : decide ((k : Int) = 0) = false := decide_eq_false (by omega)
  have yj : yearB ((k : Int) - 1) = true := betw_iff.2 (by omega)
  have r1 := Restated_pf h ((k : Int) - 1) hfit
  have r2 := Restated_pf h k hfit
  rw [restatedH, if_pos hok, if_pos yj, cH] at r1
  rw [restatedH, if_pos hok, if_pos yk, cH] at r2
  simp only at r1 r2
  have wp := worth_prev hok k
  have bA := restL_bound hok ((k : Int) - 1) (restL h ((k : Int) - 1)).Assets (by simp)
  have bL := restL_bound hok ((k : Int) - 1) (restL h ((k : Int) - 1)).Liabilities (by simp)
  generalize restL h ((k : Int) - 1) = S at r1 wp bA bL
  generalize restL h (k : Int) = T at r2 wp
  have ws := wrap_in (S.Assets - S.Liabilities) (by omega)
  have dw : decide (T.Worth = S.Assets - S.Liabilities) = true := decide_eq_true wp
  simp -dsimp -implicitDefEqProofs [-getElem?_pos, go_sem, hP, t5, d0, k0, t4, h1, lt1, wj]
  refine callB_is (r1.lift _ _) hP en_33 (by simp [imm_sc]; exact ihh) (imm_pair (imm_st S) .sc) ?_
  simp -dsimp -implicitDefEqProofs [-getElem?_pos, go_sem, hP, cS, t5, t4, h1, lt1]
  refine callB_is (r2.lift _ _) hP en_33 (by simp [imm_sc]; exact ihh) (imm_pair (imm_st T) .sc) ?_
  simp -dsimp -implicitDefEqProofs [-getElem?_pos, go_sem, hP, cS, ws, dw, wp, t5, wk]
  refine ⟨4 - (k + 1), by omega, ?_⟩
  rw [hI]
  exact ⟨k + 1, by omega, rfl, by simp -dsimp -implicitDefEqProofs [-getElem?_pos, go_sem, t4], by simp -dsimp -implicitDefEqProofs [-getElem?_pos, go_sem], by simp -dsimp -implicitDefEqProofs [-getElem?_pos, go_sem, lt1, h1]⟩
end Go.Proofs.Ytellcfkpfccgaaa
