/- Restatement: the steps of the source; the example. -/
import Derived.Test.YtellcfkpfccgaaaResLaw
set_option linter.unusedSimpArgs false
set_option linter.unusedVariables false
namespace Go.Proofs.Ytellcfkpfccgaaa
open Go.PA
open Go.RowKit

def StepQ (found : Int) (h : THistory) (x : AV) : Prop := ∃ (h' : THistory) (f' : Int), x = .tup [.agg h'.cells, iv f'] ∧ StepB found f' h h'
theorem step_ex (found : Int) (h : THistory) : ∃ r, StepQ found h r ∧ Imm r := ⟨_, ⟨h, found, rfl, .same rfl, by omega, by omega⟩, imm_pair (imm_his h) .sc⟩

set_option maxHeartbeats 2000000 in
theorem step_pf (p : Nat) (src : Option Nat) (h : THistory) (found : Int) (hf : Fit h) (hb : 0 ≤ found ∧ found ≤ 1000000) : PFun Try.prog (some p) src 27 [sp p, .agg h.cells, iv found] (StepQ found h) := by
  refine pfun_intro Try.func27 rfl (by simp [Try.f27]) (by kernel_rfl) ?_
  intro E hP hr hs hW hN
  have up : ∀ {f : FuncId} {args : List AV} {Q : AV → Prop}, PFun Try.prog (some p) src f args Q → PFun Try.prog E.row E.src f args Q := fun h => hr ▸ hs ▸ h
  have ih := imm_his h
  have ih' := ih
  rw [cH] at ih
  have ip := imm_posts h.Ledger.Postings
  have i2 := imm_pres h.Presented
  have i3 := imm_corrs h.Corrections
  simp -dsimp -implicitDefEqProofs [-getElem?_pos, go_sem, hP, cH]
  refine callB_isQ (up (N_pf p src 2 (by omega))) hP en_35 (by simp [go_sem]) (N_exI _) ?_
  rintro r ⟨z, rfl, _, hz⟩ _
  by_cases c1 : z = 0
  · simp -dsimp -implicitDefEqProofs [-getElem?_pos, go_sem, hP, c1]
    have aD : ∀ (a b : Option AObj) (l l' : Heap), Agree (fun i => decide (i = 0)) (a :: l) (a :: l') := fun a b l l' => agree_1
    obtain ⟨Inv, hInv⟩ : ∃ Inv : St → Prop, Inv = fun s => ∃ (y : Int) (a : Nat), (0 ≤ y ∧ y ≤ 3) ∧ 2 ≤ a ∧ s.t 2 = iv found ∧ s.t 4 = .ref 0 0 0 ∧ s.t 6 = .ref 1 0 0 ∧ s.t 8 = .ref a 0 0 ∧ s.t 10 = iv (presentH h y).2.2 ∧ s.H[0]? = some (some ⟨56, 3, [[postsL h.Ledger.Postings, presL h.Presented, corrsL h.Corrections]]⟩) ∧ s.H[1]? = some (some ⟨56, 3, [[.nil, .nil, .nil]]⟩) ∧ s.H[a]? = some (some ⟨56, 3, [(presentH h y).1.cells]⟩) := ⟨_, rfl⟩
    refine adraw_cut Inv ?_ ?_
    · refine adrawK (fun i => decide (i = 0)) [] [2, 3] 8 hP (by kernel_rfl) (by kernel_rfl) (by simp) ?_
      simp -dsimp -implicitDefEqProofs [-getElem?_pos, go_sem, hP, List.take_succ_cons, List.take_zero, restr_get]
      refine callQ_isQ (up (N_pf p src 4 (by omega))) hP en_35 (by simp [go_sem]) (N_exI _) ?_
      rintro r ⟨y, rfl, _, hy⟩ _
      have hy := hy (by omega)
      have pr := rPresent_pf h y hf
      rw [cH] at pr
      simp -dsimp -implicitDefEqProofs [-getElem?_pos, go_sem, hP, restr_get]
      refine callQ_is (pr.lift _ _) hP en_49 (by simp [imm_sc]; exact ih) (imm_trip (imm_his _) (imm_prs _) .sc) ?_
      generalize hX : (presentH h y).1 = X
      generalize hPr : (presentH h y).2.1 = Pr
      generalize hEr : (presentH h y).2.2 = Er
      have fin : ∀ (a : Nat) (s : St), 2 ≤ a → s.t 2 = iv found → s.t 4 = .ref 0 0 0 → s.t 6 = .ref 1 0 0 → s.t 8 = .ref a 0 0 → s.t 10 = iv Er → s.H[0]? = some (some ⟨56, 3, [[postsL h.Ledger.Postings, presL h.Presented, corrsL h.Corrections]]⟩) → s.H[1]? = some (some ⟨56, 3, [[.nil, .nil, .nil]]⟩) → s.H[a]? = some (some ⟨56, 3, [X.cells]⟩) → Inv s := fun a s g0 g1 g2 g3 g4 g5 g6 g7 g8 => by
        rw [hInv]
        exact ⟨y, a, by omega, g0, g1, g2, g3, g4, by rw [g5, hEr], g6, g7, by rw [g8, hX]⟩
      simp -dsimp -implicitDefEqProofs [-getElem?_pos, go_sem, hP]
      refine xany_two (i := 8) (j := 9) (by kernel_rfl) rfl rfl ?_ ?_
      · simp -dsimp -implicitDefEqProofs [-getElem?_pos, go_sem, hP]
        refine ⟨aD _ none _ _, ?_⟩
        refine xany_one (i := 9) (by kernel_rfl) rfl ?_
        simp -dsimp -implicitDefEqProofs [-getElem?_pos, go_sem, hP]
        refine ⟨aD _ none _ _, ?_⟩
        refine xany_one (i := 10) (by kernel_rfl) rfl ?_
        simp -dsimp -implicitDefEqProofs [-getElem?_pos, go_sem, hP, cH, cPr]
        refine ⟨aD _ none _ _, ?_⟩
        refine xany_one (i := 11) (by kernel_rfl) rfl ?_
        simp -dsimp -implicitDefEqProofs [-getElem?_pos, go_sem, hP, cH, cPr]
        refine ⟨aD _ none _ _, ?_⟩
        refine xany_one (i := 12) (by kernel_rfl) rfl ?_
        simp -dsimp -implicitDefEqProofs [-getElem?_pos, go_sem, hP]
        refine xany_nil (by kernel_rfl) ?_
        exact fin 2 _ (by omega) (by simp -dsimp -implicitDefEqProofs [-getElem?_pos, go_sem]) (by simp -dsimp -implicitDefEqProofs [-getElem?_pos, go_sem]) (by simp -dsimp -implicitDefEqProofs [-getElem?_pos, go_sem]) (by simp -dsimp -implicitDefEqProofs [-getElem?_pos, go_sem]) (by simp -dsimp -implicitDefEqProofs [-getElem?_pos, go_sem]) (by simp -dsimp -implicitDefEqProofs [-getElem?_pos, go_sem]) (by simp -dsimp -implicitDefEqProofs [-getElem?_pos, go_sem]) (by simp -dsimp -implicitDefEqProofs [-getElem?_pos, go_sem, cH])
      · simp -dsimp -implicitDefEqProofs [-getElem?_pos, go_sem, hP]
        refine ⟨aD _ none _ _, ?_⟩
        refine xany_one (i := 8) (by kernel_rfl) rfl ?_
        simp -dsimp -implicitDefEqProofs [-getElem?_pos, go_sem, hP]
        refine ⟨aD _ none _ _, ?_⟩
        refine xany_one (i := 10) (by kernel_rfl) rfl ?_
        simp -dsimp -implicitDefEqProofs [-getElem?_pos, go_sem, hP, cH, cPr]
        refine ⟨aD _ none _ _, ?_⟩
        refine xany_one (i := 11) (by kernel_rfl) rfl ?_
        simp -dsimp -implicitDefEqProofs [-getElem?_pos, go_sem, hP, cH, cPr]
        refine ⟨aD _ none _ _, ?_⟩
        refine xany_one (i := 12) (by kernel_rfl) rfl ?_
        simp -dsimp -implicitDefEqProofs [-getElem?_pos, go_sem, hP]
        refine xany_nil (by kernel_rfl) ?_
        exact fin 3 _ (by omega) (by simp -dsimp -implicitDefEqProofs [-getElem?_pos, go_sem]) (by simp -dsimp -implicitDefEqProofs [-getElem?_pos, go_sem]) (by simp -dsimp -implicitDefEqProofs [-getElem?_pos, go_sem]) (by simp -dsimp -implicitDefEqProofs [-getElem?_pos, go_sem]) (by simp -dsimp -implicitDefEqProofs [-getElem?_pos, go_sem]) (by simp -dsimp -implicitDefEqProofs [-getElem?_pos, go_sem]) (by simp -dsimp -implicitDefEqProofs [-getElem?_pos, go_sem]) (by simp -dsimp -implicitDefEqProofs [-getElem?_pos, go_sem, cH])
    rw [hInv]
    rintro s ⟨y, a, hy, ha, t2, t4, t6, t8, t10, h0, h1, hA⟩
    have lt0 := (List.getElem?_eq_some_iff.1 h0).1
    have lt1 := (List.getElem?_eq_some_iff.1 h1).1
    have lta := (List.getElem?_eq_some_iff.1 hA).1
    by_cases c2 : (presentH h y).2.2 = 0
    · rw [c2] at t10
      have st : StepB found found h (presentH h y).1 := ⟨.pres y hy c2 rfl, by omega, by omega⟩
      generalize (presentH h y).1 = X at hA st
      simp -dsimp -implicitDefEqProofs [-getElem?_pos, go_sem, hP, t10, t8, hA, lta, cH, t6, h1, lt1, t2]
      exact done_imm (imm_pair (imm_his X) .sc) ⟨X, found, rfl, st⟩
    · have d2 : decide ((presentH h y).2.2 = 0) = false := decide_eq_false c2
      simp -dsimp -implicitDefEqProofs [-getElem?_pos, go_sem, hP, t10, d2, c2, t4, h0, lt0, t6, h1, lt1, t2]
      exact done_imm (imm_pair ih' .sc) ⟨h, found, rfl, .same rfl, by omega, by omega⟩
  have d1 : decide (z = 0) = false := decide_eq_false c1
  simp -dsimp -implicitDefEqProofs [-getElem?_pos, go_sem, hP, d1, c1]
  refine callB_isQ (up (N_pf p src 30 (by omega))) hP en_35 (by simp [go_sem]) (N_exI _) ?_
  rintro r ⟨d, rfl, _, hd⟩ _
  have hd := hd (by omega)
  obtain ⟨f', hf'⟩ : ∃ f', f' = found + d := ⟨_, rfl⟩
  have wf : IntKind.i64.wrap (found + d) = f' := by rw [hf']; exact wrap_in _ (by omega)
  simp -dsimp -implicitDefEqProofs [-getElem?_pos, go_sem, hP, wf]
  refine adrawQ (fun i => decide (i = 0)) [9] [3, 4] hP (by kernel_rfl) (by kernel_rfl) ?_
  simp -dsimp -implicitDefEqProofs [-getElem?_pos, go_sem, hP, restr_get]
  refine callQ_isQ (up (gcorr_pf p src f')) hP en_31 (by simp [go_sem]) (genc_ex _) ?_
  rintro r ⟨c, rfl, hc⟩ _
  have cr := rCorrect_pf h c hf (by have := hc.len; omega)
  rw [cH] at cr
  simp -dsimp -implicitDefEqProofs [-getElem?_pos, go_sem, hP, restr_get]
  refine callQ_is (cr.lift _ _) hP en_48 (by simp [imm_sc]; exact ⟨ih, imm_corr c⟩) (imm_pair (imm_his _) .sc) ?_
  by_cases c2 : (correctH h c).2 = 0
  · have st : StepB found f' h (correctH h c).1 := ⟨.corr c hc c2 rfl, by omega, by omega⟩
    rw [c2]
    generalize (correctH h c).1 = X at st
    simp -dsimp -implicitDefEqProofs [-getElem?_pos, go_sem, hP, cH]
    refine ⟨agree_1, ?_⟩
    exact done_imm (imm_pair (imm_his X) .sc) ⟨X, f', rfl, st⟩
  · have d2 : decide ((correctH h c).2 = 0) = false := decide_eq_false c2
    generalize (correctH h c).1 = X
    generalize (correctH h c).2 = e at c2 d2
    simp -dsimp -implicitDefEqProofs [-getElem?_pos, go_sem, hP, cH, d2, c2]
    refine ⟨agree_1, ?_⟩
    exact done_imm (imm_pair ih' .sc) ⟨h, f', rfl, .same rfl, by omega, by omega⟩
end Go.Proofs.Ytellcfkpfccgaaa
