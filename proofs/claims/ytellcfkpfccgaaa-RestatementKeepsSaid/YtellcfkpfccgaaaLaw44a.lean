/- RestatementKeeps: the walk. -/
import Derived.Test.YtellcfkpfccgaaaResSane
set_option linter.unusedSimpArgs false
set_option linter.unusedVariables false
namespace Go.Proofs.Ytellcfkpfccgaaa
open Go.PA
open Go.RowKit

set_option maxHeartbeats 4000000 in
theorem keeps44_law_pf (xs : List Int) (hx : Small xs) (hl : xs.length ≤ 9223372036854775807) :
    PFun Try.prog none none 7 [intsL xs] (· = bv true) := by
  refine pfun_introA Try.func7 rfl (by simp [Try.f7]) ?_
  intro E hP hr hs hW hN
  refine awp_cut (by rw [hN]; kernel_rfl) ?_
  simp [go_sem, hP]
  refine awp_cut (by rw [hN]; kernel_rfl) ?_
  simp [go_sem, hP]
  have hnew : POwn Try.prog E.row E.src 15 [intsL xs] 112 2 (· = [[intsL (xs.take 900), iv 0]]) := by rw [hr, hs]; exact new_pf xs hl
  refine callB_own hnew hP en_15 (args_same (by simp [go_sem, intsL])) (by simp [srefs_imm, go_sem, intsL]) ⟨_, rfl⟩ ?_
  rintro es rfl
  simp [go_sem, hP]
  refine awp_adopt 3 (ty := 112) (xs := xs.take 900) (at_ := 0) hr hs hW (by simp [go_sem]) (by simp [go_sem, intsL]) (by omega) (by simp; omega) (fun x hx' => hx x (List.mem_of_mem_take hx')) (by rw [hN]; kernel_rfl) ?_
  intro E' p hP' hr' hN' hW'
  rw [hP] at hP'
  rw [hN] at hN'
  clear hnew hP hr hs hW hN E
  rename Env => E
  rename E.P = _ => hP
  rename E.row = _ => hr
  rename E.N = _ => hN
  rename (∀ b, ¬ E.W b) => hW
  obtain ⟨src, hs⟩ : ∃ src, E.src = src := ⟨_, rfl⟩
  have up : ∀ {f : FuncId} {args : List AV} {Q : AV → Prop}, PFun Try.prog (some p) src f args Q → PFun Try.prog E.row E.src f args Q := fun h => hr ▸ hs ▸ h

  simp -dsimp -implicitDefEqProofs [-getElem?_pos, go_sem, hP]
  refine callB_isQ (up (made_pf p src 3 (by omega))) hP en_26 (by simp [go_sem]) (made_ex 3) ?_
  rintro r ⟨h, f0, rfl, hf0, hg⟩ _
  simp -dsimp -implicitDefEqProofs [-getElem?_pos, go_sem, hP, cH]
  obtain ⟨I, hI⟩ : ∃ I : Nat → St → Prop, I = fun m s => ∃ (k n : Nat) (h : THistory) (f : Int), k ≤ 6 ∧ m = 6 - k ∧ GenH n f h ∧ 2000 ≤ f ∧ f ≤ 2000 + 29 * (k : Int) ∧ s.t 3 = sp p ∧ s.t 4 = .ref 1 0 0 ∧ s.t 5 = iv f ∧ s.t 6 = iv k ∧ s.H[1]? = some (some ⟨56, 3, [[postsL h.Ledger.Postings, presL h.Presented, corrsL h.Corrections]]⟩) := ⟨_, rfl⟩
  refine aloop0 I (6) (by rw [hN]; rfl) ?_ ?_
  · rw [hI]
    exact ⟨0, 3, h, 2000, by omega, by omega, hg.mono (by omega) (by omega), by omega, by omega, by simp -dsimp -implicitDefEqProofs [-getElem?_pos, go_sem], by simp -dsimp -implicitDefEqProofs [-getElem?_pos, go_sem], by simp -dsimp -implicitDefEqProofs [-getElem?_pos, go_sem], by simp -dsimp -implicitDefEqProofs [-getElem?_pos, go_sem], by simp -dsimp -implicitDefEqProofs [-getElem?_pos, go_sem]⟩
  clear hg hf0
  intro m s hs'
  rw [hI] at hs'
  obtain ⟨k, n, h, f, hk, hm, hg, hf1, hf2, t3, t4, t5, t6, h1⟩ := hs'
  have lt1 := (List.getElem?_eq_some_iff.1 h1).1
  simp -dsimp -implicitDefEqProofs [-getElem?_pos, go_sem, hP, t6]
  refine condP (fun hh => ?_) (fun hh => ?_)
  rotate_left
  · simp -dsimp -implicitDefEqProofs [-getElem?_pos, go_sem, hP]
    refine callB_pure sane44_pf hP en_30 (args_same (by simp -dsimp -implicitDefEqProofs [-getElem?_pos, go_sem])) .sc ?_
    simp -dsimp -implicitDefEqProofs [-getElem?_pos, go_sem, hP]
  have hk6 : k < 6 := by simp at hh; omega
  have wk := wrap_in ((k : Int) + 1) (by omega)
  have st := step_pf p src h f (fit_of_check hg.ok) (by omega)
  have ihh := imm_his h
  have i2 := imm_pres h.Presented
  rw [cH] at st ihh
  simp -dsimp -implicitDefEqProofs [-getElem?_pos, go_sem, hP, t3, t4, h1, lt1, t5]
  refine callB_isQ (up st) hP en_27 (by simp [imm_sc]; exact ihh) (step_ex f h) ?_
  rintro r ⟨h', f', rfl, hs⟩ _
  have hg' := hg.step hs
  have lo := hs.lo
  have hi := hs.hi
  have kp := step_keeps hs.step
  have ck := hcheck_pf h' (fit_of_check hg'.ok)
  rw [hg'.ok] at ck
  have ih' := imm_his h'
  have sh := fun p (hp : p ∈ h.Presented) => Shown_pf h' p.Year p.Version (fit_of_check hg'.ok)
  have sf := fun p (hp : p ∈ h.Presented) => shown_find hg'.ok (kp p hp)
  rw [cH] at ck ih'
  simp only [cH] at sh
  have hfit := (fit_of_check hg.ok).pres
  obtain ⟨q, hq⟩ : ∃ q, q = s.H.length := ⟨_, rfl⟩
  simp -dsimp -implicitDefEqProofs [-getElem?_pos, go_sem, hP, cH]
  refine callB_is (ck.lift _ _) hP en_28 (by simpa using ih') .sc ?_
  simp -dsimp -implicitDefEqProofs [-getElem?_pos, go_sem, hP, t4, h1, lt1]
  obtain ⟨J, hJ⟩ : ∃ I : Nat → St → Prop, I = fun m s => ∃ (j : Nat), j ≤ h.Presented.length ∧ m = h.Presented.length - j ∧ s.t 3 = sp p ∧ s.t 4 = .ref 1 0 0 ∧ s.t 6 = iv k ∧ s.t 7 = .ref q 0 0 ∧ s.t 8 = iv f' ∧ s.t 32 = presL h.Presented ∧ s.t 33 = iv h.Presented.length ∧ s.t 34 = iv j ∧ s.H[1]? = some (some ⟨56, 3, [[postsL h.Ledger.Postings, presL h.Presented, corrsL h.Corrections]]⟩) ∧ s.H[q]? = some (some ⟨56, 3, [[postsL h'.Ledger.Postings, presL h'.Presented, corrsL h'.Corrections]]⟩) := ⟨_, rfl⟩
  refine aloop0 J (h.Presented.length) (by rw [hN]; rfl) ?_ ?_
  · rw [hJ]
    exact ⟨0, by omega, by omega, by simp -dsimp -implicitDefEqProofs [-getElem?_pos, go_sem, t3], by simp -dsimp -implicitDefEqProofs [-getElem?_pos, go_sem, t4], by simp -dsimp -implicitDefEqProofs [-getElem?_pos, go_sem, t6], by simp -dsimp -implicitDefEqProofs [-getElem?_pos, go_sem, hq], by simp -dsimp -implicitDefEqProofs [-getElem?_pos, go_sem], by simp -dsimp -implicitDefEqProofs [-getElem?_pos, go_sem], by simp -dsimp -implicitDefEqProofs [-getElem?_pos, go_sem], by simp -dsimp -implicitDefEqProofs [-getElem?_pos, go_sem], by simp -dsimp -implicitDefEqProofs [-getElem?_pos, go_sem, lt1, h1], by simp -dsimp -implicitDefEqProofs [-getElem?_pos, go_sem, hq]⟩
  have nq1 : ¬ q = 1 := by omega
  clear t3 t4 t5 t6 h1 lt1 hq hh
  intro m s hs'
  rw [hJ] at hs'
  obtain ⟨j, hj, hm2, t3, t4, t6, t7, t8, t32, t33, t34, h1, hq⟩ := hs'
  have lt1 := (List.getElem?_eq_some_iff.1 h1).1
  have ltq := (List.getElem?_eq_some_iff.1 hq).1
  simp -dsimp -implicitDefEqProofs [-getElem?_pos, go_sem, hP, t33, t34]
  refine condP (fun hh => ?_) (fun hh => ?_)
  · have hj : j < h.Presented.length := by simpa using hh
    obtain ⟨c, hcc⟩ : ∃ c, h.Presented[j]? = some c := ⟨_, List.getElem?_eq_getElem hj⟩
    have wj := wrap_in ((j : Int) + 1) (by omega)
    have hcm := List.mem_of_getElem? hcc
    have s1 := sh c hcm
    rw [sf c hcm] at s1
    simp -dsimp -implicitDefEqProofs [-getElem?_pos, go_sem, hP, t32, t34, hcc, cPr, t7, hq, ltq]
    refine callB_is (s1.lift _ _) hP en_29 (by simp [imm_sc]; exact ih') (imm_pair (imm_st c.Statement) .sc) ?_
    simp -dsimp -implicitDefEqProofs [-getElem?_pos, go_sem, hP, cS, t34, wj]
    refine ⟨h.Presented.length - (j + 1), by omega, ?_⟩
    rw [hJ]
    exact ⟨j + 1, by omega, rfl, by simp -dsimp -implicitDefEqProofs [-getElem?_pos, go_sem, t3], by simp -dsimp -implicitDefEqProofs [-getElem?_pos, go_sem, t4], by simp -dsimp -implicitDefEqProofs [-getElem?_pos, go_sem, t6], by simp -dsimp -implicitDefEqProofs [-getElem?_pos, go_sem, t7], by simp -dsimp -implicitDefEqProofs [-getElem?_pos, go_sem, t8], by simp -dsimp -implicitDefEqProofs [-getElem?_pos, go_sem, t32], by simp -dsimp -implicitDefEqProofs [-getElem?_pos, go_sem, t33], by simp -dsimp -implicitDefEqProofs [-getElem?_pos, go_sem], by simp -dsimp -implicitDefEqProofs [-getElem?_pos, go_sem, lt1, h1], by simp -dsimp -implicitDefEqProofs [-getElem?_pos, go_sem, ltq, hq]⟩
  · simp -dsimp -implicitDefEqProofs [-getElem?_pos, go_sem, hP, t7, hq, ltq, t8, t4, h1, lt1, t6, wk]
    refine ⟨6 - (k + 1), by omega, ?_⟩
    rw [hI]
    exact ⟨k + 1, n + 1, h', f', by omega, rfl, hg', by omega, by omega, by simp -dsimp -implicitDefEqProofs [-getElem?_pos, go_sem, t3], by simp -dsimp -implicitDefEqProofs [-getElem?_pos, go_sem, t4], by simp -dsimp -implicitDefEqProofs [-getElem?_pos, go_sem], by simp -dsimp -implicitDefEqProofs [-getElem?_pos, go_sem], by simp -dsimp -implicitDefEqProofs [-getElem?_pos, go_sem, lt1]⟩
end Go.Proofs.Ytellcfkpfccgaaa
