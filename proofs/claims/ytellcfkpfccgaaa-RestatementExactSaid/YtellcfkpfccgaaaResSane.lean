/- Restatement: made histories; the example. -/
import Derived.Test.YtellcfkpfccgaaaResStep
set_option linter.unusedSimpArgs false
set_option linter.unusedVariables false
namespace Go.Proofs.Ytellcfkpfccgaaa
open Go.PA
open Go.RowKit

def MadeQ (n : Nat) (x : AV) : Prop := ∃ (h : THistory) (f : Int), x = .agg h.cells ∧ f ≤ 1080 + 29 * (n : Int) ∧ GenH n f h
theorem made_ex (n : Nat) : ∃ r, MadeQ n r ∧ Imm r := ⟨_, ⟨⟨⟨[]⟩, [], []⟩, 1080, rfl, by omega, (GenH.base ((GenL.nil 2 1000).mono (by omega))).mono (by omega) (by omega)⟩, imm_his _⟩

set_option maxHeartbeats 1000000 in
theorem made_pf (p : Nat) (src : Option Nat) (most : Nat) (hm : most ≤ 50) : PFun Try.prog (some p) src 26 [sp p, iv most] (MadeQ most) := by
  refine pfun_intro Try.func26 rfl (by simp [Try.f26]) (by kernel_rfl) ?_
  intro E hP hr hs hW hN
  have up : ∀ {f : FuncId} {args : List AV} {Q : AV → Prop}, PFun Try.prog (some p) src f args Q → PFun Try.prog E.row E.src f args Q := fun h => hr ▸ hs ▸ h
  have w1 := wrap_in ((most : Int) + 1) (by omega)
  simp -dsimp -implicitDefEqProofs [-getElem?_pos, go_sem, hP]
  refine callB_isQ (up (gledger_pf p src 8 2 1000 (by omega) (by omega) (by omega))) hP en_16 (by simp [go_sem]) (genl_ex 8 2 1000) ?_
  rintro r ⟨l, rfl, hg⟩ _
  have ip := imm_posts l
  have h0 := GenH.base hg
  simp -dsimp -implicitDefEqProofs [-getElem?_pos, go_sem, hP, cL, w1]
  refine callB_isQ (up (N_pf p src ((most : Int) + 1) (by omega))) hP en_35 (by simp [go_sem]) (N_exI _) ?_
  rintro r ⟨z, rfl, _, hz⟩ _
  have hz := hz (by omega)
  obtain ⟨z, rfl⟩ := Int.eq_ofNat_of_zero_le hz.1
  simp -dsimp -implicitDefEqProofs [-getElem?_pos, go_sem, hP]
  refine aloop_cells (ty := 56) (k := 3) 1 [postsL l, .nil, .nil] [postsL l, presL [], corrsL []] (by simp -dsimp -implicitDefEqProofs [-getElem?_pos, go_sem]) (by omega) (by simp) rfl (fun j a b ha hb => ?_) ?_
  · match j, ha, hb with
    | 0, ha, hb => simp at ha hb; subst ha; subst hb; exact .refl _
    | 1, ha, hb => simp at ha hb; subst ha; subst hb; exact .nil 7
    | 2, ha, hb => simp at ha hb; subst ha; subst hb; exact .nil 3
    | j + 3, ha, hb => simp at ha
  simp -dsimp -implicitDefEqProofs [-getElem?_pos, go_sem, hP]
  obtain ⟨I, hI⟩ : ∃ I : Nat → St → Prop, I = fun m s => ∃ (n : Nat) (h : THistory) (f : Int), n + m = z ∧ GenH n f h ∧ 0 ≤ f ∧ f ≤ 1080 + 29 * (n : Int) ∧ s.t 0 = sp p ∧ s.t 4 = .ref 0 0 0 ∧ s.t 5 = .ref 1 0 0 ∧ s.t 6 = iv f ∧ s.t 7 = iv m ∧ s.H[0]? = some (some ⟨56, 3, [[.nil, .nil, .nil]]⟩) ∧ s.H[1]? = some (some ⟨56, 3, [[postsL h.Ledger.Postings, presL h.Presented, corrsL h.Corrections]]⟩) := ⟨_, rfl⟩
  refine aloop0 I (z) (by rw [hN]; rfl) ?_ ?_
  · rw [hI]
    exact ⟨0, ⟨⟨l⟩, [], []⟩, 1080, by omega, h0, by omega, by omega, by simp -dsimp -implicitDefEqProofs [-getElem?_pos, go_sem], by simp -dsimp -implicitDefEqProofs [-getElem?_pos, go_sem], by simp -dsimp -implicitDefEqProofs [-getElem?_pos, go_sem], by simp -dsimp -implicitDefEqProofs [-getElem?_pos, go_sem], by simp -dsimp -implicitDefEqProofs [-getElem?_pos, go_sem], by simp -dsimp -implicitDefEqProofs [-getElem?_pos, go_sem], by simp -dsimp -implicitDefEqProofs [-getElem?_pos, go_sem]⟩
  intro m s hs'
  rw [hI] at hs'
  obtain ⟨n, h, f, hn, hh, hf0, hf1, t0, t4, t5, t6, t7, h0, h1⟩ := hs'
  have lt0 := (List.getElem?_eq_some_iff.1 h0).1
  have lt1 := (List.getElem?_eq_some_iff.1 h1).1
  have ihh := imm_his h
  simp -dsimp -implicitDefEqProofs [-getElem?_pos, go_sem, hP, t7]
  refine condP (fun hx => ?_) (fun hx => ?_)
  · have hm0 : 0 < m := by simpa using hx
    have wm := wrap_in ((m : Int) - 1) (by omega)
    have st := step_pf p src h f (fit_of_check hh.ok) (by omega)
    rw [cH] at st ihh
    simp -dsimp -implicitDefEqProofs [-getElem?_pos, go_sem, hP, t0, t5, h1, lt1, t6]
    refine callB_isQ (up st) hP en_27 (by simp [imm_sc]; exact ihh) (step_ex f h) ?_
    rintro r ⟨h', f', rfl, hs⟩ _
    have hh' := hh.step hs
    have := hs.lo
    have := hs.hi
    simp -dsimp -implicitDefEqProofs [-getElem?_pos, go_sem, hP, cH, t5, h1, lt1, t7, wm]
    refine ⟨m - 1, by omega, ?_⟩
    rw [hI]
    refine ⟨n + 1, h', f', by omega, hh', by omega, by omega, by simp -dsimp -implicitDefEqProofs [-getElem?_pos, go_sem, t0], by simp -dsimp -implicitDefEqProofs [-getElem?_pos, go_sem, t4], by simp -dsimp -implicitDefEqProofs [-getElem?_pos, go_sem, t5], by simp -dsimp -implicitDefEqProofs [-getElem?_pos, go_sem], ?_, by simp -dsimp -implicitDefEqProofs [-getElem?_pos, go_sem, lt0, h0], by simp -dsimp -implicitDefEqProofs [-getElem?_pos, go_sem, lt1]⟩
    simp -dsimp -implicitDefEqProofs [-getElem?_pos, go_sem]
    omega
  · have hm0 : m = 0 := by simpa using hx
    subst hm0
    simp -dsimp -implicitDefEqProofs [-getElem?_pos, go_sem, hP, t5, h1, lt1, t4, h0, lt0]
    exact done_imm ihh ⟨h, f, rfl, by omega, hh.mono (by omega) (Int.le_refl _)⟩

/-! ### The example -/
abbrev forg : TCorrection := ⟨1, 800, [⟨1, 700, 1, 510, 210, 40, 0, 0⟩]⟩
theorem forgotten_pf : PFun Try.prog none none 82 [] (· = .agg forg.cells) := by
  refine pfun_intro Try.func82 rfl (by simp [Try.f82]) (by kernel_rfl) ?_
  intro E hP hr hs hW hN
  simp -dsimp -implicitDefEqProofs [-getElem?_pos, go_sem, hP]
  exact done_imm (imm_corr forg) rfl
abbrev eh0 : THistory := ⟨⟨[]⟩, [], []⟩
abbrev ep1 : TPresented := ⟨1, 1, ⟨0, 0, 0, 0, 0⟩⟩
abbrev eh1 : THistory := ⟨⟨[]⟩, [ep1], []⟩
abbrev eh2 : THistory := ⟨⟨[]⟩, [ep1], [forg]⟩
abbrev ep2 : TPresented := ⟨1, 2, ⟨0, 40, 0, 0, 40⟩⟩
abbrev eh3 : THistory := ⟨⟨[]⟩, [ep1, ep2], [forg]⟩
theorem ex_new : newH ⟨[]⟩ = (eh0, 0) := by decide
theorem ex_pres1 : presentH eh0 1 = (eh1, ep1, 0) := by decide
theorem ex_corr : correctH eh1 forg = (eh2, 0) := by decide
theorem ex_pres2 : presentH eh2 1 = (eh3, ep2, 0) := by decide
theorem ex_shown : shownH eh3 1 1 = (⟨0, 0, 0, 0, 0⟩, true) := by decide
theorem fit_eh0 : Fit eh0 := ⟨by decide, by decide, by decide, by simp⟩
theorem fit_eh1 : Fit eh1 := ⟨by decide, by decide, by decide, by simp⟩
theorem fit_eh2 : Fit eh2 := ⟨by decide, by decide, by decide, by simp⟩
theorem fit_eh3 : Fit eh3 := ⟨by decide, by decide, by decide, by simp⟩

set_option maxHeartbeats 1000000 in
theorem sane44_pf : PFun Try.prog none none 30 [] (· = bv true) := by
  refine pfun_intro Try.func30 rfl (by simp [Try.f30]) (by kernel_rfl) ?_
  intro E hP hr hs hW hN
  have c0 := New_pf ⟨[]⟩ (by simp)
  have c1 := Present_pf eh0 1 fit_eh0
  have c2 := Correct_pf eh1 forg fit_eh1 (by simp)
  have c3 := Present_pf eh2 1 fit_eh2
  have c4 := Shown_pf eh3 1 1 fit_eh3
  rw [ex_new] at c0
  rw [ex_pres1] at c1
  rw [ex_corr] at c2
  rw [ex_pres2] at c3
  rw [ex_shown] at c4
  simp only at c0 c1 c2 c3 c4
  have cE0 : eh0.cells = [postsL [], presL [], corrsL []] := rfl
  have cE1 : eh1.cells = [postsL [], presL [ep1], corrsL []] := rfl
  have cE2 : eh2.cells = [postsL [], presL [ep1], corrsL [forg]] := rfl
  have cE3 : eh3.cells = [postsL [], presL [ep1, ep2], corrsL [forg]] := rfl
  have cP1 : ep1.cells = [iv 1, iv 1, iv 0, iv 0, iv 0, iv 0, iv 0] := rfl
  have cP2 : ep2.cells = [iv 1, iv 2, iv 0, iv 40, iv 0, iv 0, iv 40] := rfl
  have cF : forg.cells = [iv 1, iv 800, postsL forg.Postings] := rfl
  have cZ : (TStatement.mk 0 0 0 0 0).cells = [iv 0, iv 0, iv 0, iv 0, iv 0] := rfl
  have i0 := imm_his eh0
  have i1 := imm_his eh1
  have i2 := imm_his eh2
  have i3 := imm_his eh3
  have j1 := imm_prs ep1
  have j2 := imm_prs ep2
  have jf := imm_corr forg
  have jz := imm_st ⟨0, 0, 0, 0, 0⟩
  have ff := forgotten_pf
  rw [cE0] at c0 c1 i0
  rw [cE1, cP1] at c1
  rw [cE1, cF, cE2] at c2
  rw [cE2, cE3, cP2] at c3
  rw [cE3, cZ] at c4
  rw [cE1] at i1
  rw [cE2] at i2
  rw [cE3] at i3
  rw [cP1] at j1
  rw [cP2] at j2
  rw [cF] at jf ff
  rw [cZ] at jz
  clear cE0 cE1 cE2 cE3 cP1 cP2 cF cZ
  simp only [presL, corrsL, postsL] at c0 c1 c2 c3 c4 i0 i1 i2 i3 jf ff
  generalize encL TPresented.cells [ep1] = X1 at *
  generalize encL TPresented.cells [ep1, ep2] = X2 at *
  generalize encL TCorrection.cells [forg] = Y1 at *
  generalize encL TPosting.cells forg.Postings = F1 at *
  generalize encL TPresented.cells [] = X0 at *
  generalize encL TCorrection.cells [] = Y0 at *
  generalize encL TPosting.cells [] = Z0 at *
  simp -dsimp -implicitDefEqProofs [-getElem?_pos, go_sem, hP]
  refine callB_imm (c0.lift _ _) hP en_44 (args_agg (cs' := (TLedger.mk []).cells) (cw_nil .nil) (args_nil.2 trivial)) (by simp [srefs, srefs2, srefs1]) (imm_pair i0 .sc) ?_
  simp -dsimp -implicitDefEqProofs [-getElem?_pos, go_sem, hP]
  refine callB_is (c1.lift _ _) hP en_36 (by simp [imm_sc]; exact i0) (imm_trip i1 j1 .sc) ?_
  simp -dsimp -implicitDefEqProofs [-getElem?_pos, go_sem, hP]
  refine adrawQ (fun i => decide (i = 0)) [6] [1, 2] hP (by kernel_rfl) (by kernel_rfl) ?_
  simp -dsimp -implicitDefEqProofs [-getElem?_pos, go_sem, hP, restr_get]
  refine callQ_is (ff.lift _ _) hP en_82 (by simp) jf ?_
  simp -dsimp -implicitDefEqProofs [-getElem?_pos, go_sem, hP, restr_get]
  refine callQ_is (c2.lift _ _) hP en_32 (by simp; exact ⟨i1, jf⟩) (imm_pair i2 .sc) ?_
  simp -dsimp -implicitDefEqProofs [-getElem?_pos, go_sem, hP, restr_get]
  refine callB_is (c3.lift _ _) hP en_36 (by simp [imm_sc]; exact i2) (imm_trip i3 j2 .sc) ?_
  simp -dsimp -implicitDefEqProofs [-getElem?_pos, go_sem, hP]
  refine callB_is (c4.lift _ _) hP en_29 (by simp [imm_sc]; exact i3) (imm_pair jz .sc) ?_
  simp -dsimp -implicitDefEqProofs [-getElem?_pos, go_sem, hP]
end Go.Proofs.Ytellcfkpfccgaaa
