/- RestatementEffects: the walk. -/
import Derived.Test.YtellcfkpfccgaaaResSane
set_option linter.unusedSimpArgs false
set_option linter.unusedVariables false
namespace Go.Proofs.Ytellcfkpfccgaaa
open Go.PA
open Go.RowKit

abbrev trn (p : TPosting) : TPosting := turnP p p.Number p.Day
theorem trn_ok {p : TPosting} (h : PostOk p) : PostOk (trn p) := ⟨h.num, h.day, h.ent, h.cre, h.deb, fun e => h.ne e.symm, h.amt, h.par, h.pne, h.ref⟩
theorem resP_trn : ∀ l : List TPosting, resP (l.map trn) = -resP l
  | [] => rfl
  | p :: l => by
    have ih := resP_trn l
    have e : addP (fun b => decide (classI b = 4 ∨ classI b = 5)) (trn p) = -addP (fun b => decide (classI b = 4 ∨ classI b = 5)) p := by
      unfold addP trn turnP
      dsimp only
      omega
    simp only [resP, netP, List.map_cons, if_true] at ih ⊢
    rw [ih, e]
    omega

set_option maxRecDepth 8000 in
set_option maxHeartbeats 4000000 in
theorem effects_law_pf (xs : List Int) (hx : Small xs) (hl : xs.length ≤ 9223372036854775807) :
    PFun Try.prog none none 11 [intsL xs] (· = bv true) := by
  refine pfun_introA Try.func11 rfl (by simp [Try.f11]) ?_
  intro E hP hr hs hW hN
  refine awp_cut (by rw [hN]; kernel_rfl) ?_
  simp [go_sem, hP]
  refine awp_cut (by rw [hN]; kernel_rfl) ?_
  simp [go_sem, hP]
  have hnew : POwn Try.prog E.row E.src 15 [intsL xs] 112 2 (· = [[intsL (xs.take 900), iv 0]]) := by rw [hr, hs]; exact new_pf xs hl
  refine callB_own hnew hP en_15 (args_same (by simp [go_sem, intsL])) (by simp [srefs_imm, go_sem, intsL]) ⟨_, rfl⟩ ?_
  rintro es rfl
  simp [go_sem, hP]
  refine awp_adopt 3 (ty := 112) (xs := xs.take 900) (at_ := 0) hr hs hW (by simp [go_sem]) (by simp [go_sem, intsL]) (by omega) (by simp; omega) (fun x hx' => hx x (List.mem_of_mem_take hx')) (by rw [hN]; kernel_rfl) ?_
  intro E' p hP' hr' hN' hW'
  rw [hP] at hP'
  rw [hN] at hN'
  clear hnew hP hr hs hW hN E
  rename Env => E
  rename E.P = _ => hP
  rename E.row = _ => hr
  rename E.N = _ => hN
  rename (∀ b, ¬ E.W b) => hW
  obtain ⟨src, hs⟩ : ∃ src, E.src = src := ⟨_, rfl⟩
  have up : ∀ {f : FuncId} {args : List AV} {Q : AV → Prop}, PFun Try.prog (some p) src f args Q → PFun Try.prog E.row E.src f args Q := fun h => hr ▸ hs ▸ h

  simp -dsimp -implicitDefEqProofs [-getElem?_pos, go_sem, hP]
  refine callB_isQ (up (made_pf p src 4 (by omega))) hP en_26 (by simp [go_sem]) (made_ex 4) ?_
  rintro r ⟨h, f0, rfl, hf0, hg⟩ _
  have hok := hg.ok
  have hfit := fit_of_check hok
  have sz := hg.size
  simp -dsimp -implicitDefEqProofs [-getElem?_pos, go_sem, hP, cH]
  refine callB_isQ (up (gcorr_pf p src 3000)) hP en_31 (by simp [go_sem]) (genc_ex _) ?_
  rintro r ⟨c, rfl, hc⟩ _
  have cok := hc.ok (by omega)
  have hcy := hc.year
  have hcl := hc.len
  have ics := imm_posts c.Postings
  obtain ⟨ps, hps⟩ : ∃ ps, ps = c.Postings := ⟨_, rfl⟩
  have cC' : c.cells = [iv c.Year, iv c.Found, postsL ps] := by rw [hps]; rfl
  have psl : 1 ≤ ps.length ∧ ps.length ≤ 3 := hps ▸ hcl
  rw [← hps] at ics
  simp -dsimp -implicitDefEqProofs [-getElem?_pos, go_sem, hP, cC']
  obtain ⟨I, hI⟩ : ∃ I : Nat → St → Prop, I = fun m s => ∃ (k : Nat) (x : AV), k ≤ ps.length ∧ m = ps.length - k ∧ s.t 4 = .ref 1 0 0 ∧ s.t 5 = .ref 2 0 0 ∧ s.t 6 = .ref 3 0 0 ∧ s.t 30 = postsL ps ∧ s.t 31 = iv ps.length ∧ s.t 32 = iv k ∧ s.H[1]? = some (some ⟨56, 3, [[postsL h.Ledger.Postings, presL h.Presented, corrsL h.Corrections]]⟩) ∧ s.H[2]? = some (some ⟨66, 3, [[iv c.Year, iv c.Found, postsL ps]]⟩) ∧ s.H[3]? = some (some ⟨66, 3, [[iv c.Year, iv c.Found, x]]⟩) ∧ Grown 4 s.H x 37 8 (encL TPosting.cells ((ps.take k).map trn)) := ⟨_, rfl⟩
  refine aloop0 I (ps.length) (by rw [hN]; rfl) ?_ ?_
  · rw [hI]
    exact ⟨0, .nil, by omega, by omega, by simp -dsimp -implicitDefEqProofs [-getElem?_pos, go_sem], by simp -dsimp -implicitDefEqProofs [-getElem?_pos, go_sem], by simp -dsimp -implicitDefEqProofs [-getElem?_pos, go_sem], by simp -dsimp -implicitDefEqProofs [-getElem?_pos, go_sem], by simp -dsimp -implicitDefEqProofs [-getElem?_pos, go_sem], by simp -dsimp -implicitDefEqProofs [-getElem?_pos, go_sem], by simp -dsimp -implicitDefEqProofs [-getElem?_pos, go_sem], by simp -dsimp -implicitDefEqProofs [-getElem?_pos, go_sem], by simp -dsimp -implicitDefEqProofs [-getElem?_pos, go_sem], .inl ⟨rfl, rfl⟩⟩
  intro m s hs'
  rw [hI] at hs'
  obtain ⟨k, x, hk, hm, t4, t5, t6, t30, t31, t32, h1, h2, h3, hgr⟩ := hs'
  have lt1 := (List.getElem?_eq_some_iff.1 h1).1
  have lt2 := (List.getElem?_eq_some_iff.1 h2).1
  have lt3 := (List.getElem?_eq_some_iff.1 h3).1
  simp -dsimp -implicitDefEqProofs [-getElem?_pos, go_sem, hP, t31, t32]
  refine condP (fun hh => ?_) (fun hh => ?_)
  · have hk : k < ps.length := by simpa using hh
    obtain ⟨w, hw⟩ : ∃ w, ps[k]? = some w := ⟨_, List.getElem?_eq_getElem hk⟩
    have wk := wrap_in ((k : Int) + 1) (by omega)
    have e1 : (ps.take (k + 1)).map trn = (ps.take k).map trn ++ [trn w] := by rw [List.take_add_one, hw]; simp
    have en : encL TPosting.cells ((ps.take k).map trn) ++ [[iv w.Number, iv w.Day, iv w.Entity, iv w.Credit, iv w.Debit, iv w.Amount, iv w.Partner, iv w.Ref]] = encL TPosting.cells ((ps.take (k + 1)).map trn) := by rw [e1]; exact encL_snoc TPosting.cells _ (trn w)
    have nl : (encL TPosting.cells ((ps.take k).map trn)).length = k := by rw [encL_len, List.length_map, List.length_take]; omega
    have tu := rturn_pf w w.Number w.Day
    rw [show (turnP w w.Number w.Day).cells = [iv w.Number, iv w.Day, iv w.Entity, iv w.Credit, iv w.Debit, iv w.Amount, iv w.Partner, iv w.Ref] from rfl, cP] at tu
    have iw : Imm (.agg [iv w.Number, iv w.Day, iv w.Entity, iv w.Debit, iv w.Credit, iv w.Amount, iv w.Partner, iv w.Ref]) := imm_post w
    have it : Imm (.agg [iv w.Number, iv w.Day, iv w.Entity, iv w.Credit, iv w.Debit, iv w.Amount, iv w.Partner, iv w.Ref]) := imm_post (trn w)
    simp -dsimp -implicitDefEqProofs [-getElem?_pos, go_sem, hP, t30, t32, hw, cP]
    refine adrawQ (fun i => decide (i = 3) || decide (i = s.H.length)) [11] [7] hP (by kernel_rfl) (by kernel_rfl) ?_
    simp -dsimp -implicitDefEqProofs [-getElem?_pos, go_sem, hP, restr_get, t6, h3, lt3]
    refine callQ_is (tu.lift _ _) hP en_38 (by simp [imm_sc]; exact iw) it ?_
    rcases hgr with ⟨rfl, hgr⟩ | ⟨jd, hj4, rfl, hgr⟩
    · rw [hgr, List.nil_append] at en
      simp -dsimp -implicitDefEqProofs [-getElem?_pos, go_sem, hP, restr_get, t6, h3, lt3, t32, wk]
      refine ⟨fun i hi => ?_, ps.length - (k + 1), by omega, ?_⟩
      · simp only [Bool.or_eq_true, decide_eq_true_eq] at hi
        rcases hi with rfl | rfl
        · rw [List.getElem?_append_left lt3, List.getElem?_append_left lt3]
        · simp [-getElem?_pos, List.getElem?_append]; rfl
      rw [hI]
      refine ⟨k + 1, .sref (s.H.length + 1) 0 1, by omega, rfl, by simp -dsimp -implicitDefEqProofs [-getElem?_pos, go_sem, t4], by simp -dsimp -implicitDefEqProofs [-getElem?_pos, go_sem, t5], by simp -dsimp -implicitDefEqProofs [-getElem?_pos, go_sem, t6], by simp -dsimp -implicitDefEqProofs [-getElem?_pos, go_sem, t30], by simp -dsimp -implicitDefEqProofs [-getElem?_pos, go_sem, t31], by simp -dsimp -implicitDefEqProofs [-getElem?_pos, go_sem], by simp -dsimp -implicitDefEqProofs [-getElem?_pos, go_sem, lt1, h1], by simp -dsimp -implicitDefEqProofs [-getElem?_pos, go_sem, lt2, h2], by simp -dsimp -implicitDefEqProofs [-getElem?_pos, go_sem, lt3], .inr ⟨s.H.length + 1, by omega, ?_, ?_⟩⟩
      · rw [← en]; rfl
      · rw [← en]
        simp -dsimp -implicitDefEqProofs [-getElem?_pos, go_sem]
    · have lj := (List.getElem?_eq_some_iff.1 hgr).1
      have j1 : ¬ jd = 1 := by omega
      have j2 : ¬ jd = 2 := by omega
      have j3 : ¬ jd = 3 := by omega
      have j4 : ¬ jd = s.H.length := by omega
      have mn : min k ps.length = k := Nat.min_eq_left (by omega)
      simp -dsimp -implicitDefEqProofs [-getElem?_pos, go_sem, hP, restr_get, t6, h3, lt3, t32, wk, hgr, lj, j3, nl]
      refine ⟨by omega, by omega, fun i hi => ?_, ps.length - (k + 1), by omega, ?_⟩
      · simp only [Bool.or_eq_true, decide_eq_true_eq] at hi
        rcases hi with rfl | rfl
        · rw [List.getElem?_append_left lt3, List.getElem?_append_left (by simp; omega), List.getElem?_set_ne j3]
        · simp [-getElem?_pos, List.getElem?_append]; rfl
      rw [hI]
      refine ⟨k + 1, .sref (s.H.length + 1) 0 (k + 1), by omega, rfl, by simp -dsimp -implicitDefEqProofs [-getElem?_pos, go_sem, t4], by simp -dsimp -implicitDefEqProofs [-getElem?_pos, go_sem, t5], by simp -dsimp -implicitDefEqProofs [-getElem?_pos, go_sem, t6], by simp -dsimp -implicitDefEqProofs [-getElem?_pos, go_sem, t30], by simp -dsimp -implicitDefEqProofs [-getElem?_pos, go_sem, t31], by simp -dsimp -implicitDefEqProofs [-getElem?_pos, go_sem], by simp -dsimp -implicitDefEqProofs [-getElem?_pos, go_sem, lt1, h1, j1], by simp -dsimp -implicitDefEqProofs [-getElem?_pos, go_sem, lt2, h2, j2], by simp -dsimp -implicitDefEqProofs [-getElem?_pos, go_sem, lt3, j3, mn], .inr ⟨s.H.length + 1, by omega, ?_, ?_⟩⟩
      · rw [← en, List.length_append, nl]; rfl
      · rw [← en]
        simp -dsimp -implicitDefEqProofs [-getElem?_pos, go_sem]
  have hk : k = ps.length := by simp at hh; omega
  subst hk
  rw [List.take_length] at hgr
  obtain ⟨ds, hds⟩ : ∃ ds, ds = ps.map trn := ⟨_, rfl⟩
  rw [← hds] at hgr
  have dl : ds.length = ps.length := by rw [hds]; simp
  rcases hgr with ⟨rfl, hgr⟩ | ⟨jd, hj4, rfl, hgr⟩
  · exfalso
    have := congrArg List.length hgr
    rw [encL_len, List.length_nil] at this
    omega
  clear hI
  have lj := (List.getElem?_eq_some_iff.1 hgr).1
  have e0 := correct_good hok cok (fun x hx => by have := hg.found x hx; rw [hc.found]; omega) (by omega)
  obtain ⟨_, _, _, k4, k5⟩ := correct_ok e0
  have c1 := Correct_pf h c hfit (by omega)
  rw [k4] at c1
  simp only at c1
  obtain ⟨a, ha⟩ : ∃ a : THistory, a = ⟨h.Ledger, h.Presented, h.Corrections ++ [c]⟩ := ⟨_, rfl⟩
  rw [← ha] at c1 k5
  obtain ⟨d, hd⟩ : ∃ d : TCorrection, d = ⟨c.Year, c.Found, ds⟩ := ⟨_, rfl⟩
  have dok : CorrOk d := by
    rw [hd]
    refine ⟨cok.year, cok.found, by dsimp only; omega, fun p hp => ?_⟩
    dsimp only at hp ⊢
    rw [hds] at hp
    obtain ⟨w, hw, rfl⟩ := List.mem_map.1 hp
    have := cok.all w (hps ▸ hw)
    exact ⟨trn_ok this.1, this.2⟩
  have e2 := correct_good (h := a) (c := d) k5 dok (fun x hx => by
    rw [ha] at hx
    rw [hd]
    rcases List.mem_append.1 hx with hx | hx
    · have := hg.found x hx
      dsimp only
      rw [hc.found]; omega
    · simp at hx; subst hx; exact Int.le_refl _) (by rw [ha]; simp; omega)
  obtain ⟨_, _, _, m4, m5⟩ := correct_ok e2
  have c2 := Correct_pf a d (fit_of_check k5) (by rw [hd]; dsimp only; omega)
  rw [m4] at c2
  simp only at c2
  obtain ⟨b, hb⟩ : ∃ b : THistory, b = ⟨a.Ledger, a.Presented, a.Corrections ++ [d]⟩ := ⟨_, rfl⟩
  rw [← hb] at c2 m5
  have yk : yearB c.Year = true := betw_iff.2 (by omega)
  have ea : effP a c.Year = effP h c.Year ++ ps := by rw [ha, effP, corrP_snoc, if_pos (by simp), hps]; rfl
  have eb : effP b c.Year = effP h c.Year ++ ps ++ ds := by
    rw [hb, effP, corrP_snoc, if_pos (by rw [hd]; simp), ← ea, hd]
    rfl
  obtain ⟨o, ho⟩ : ∃ o : THistory, o = ⟨⟨[]⟩, [], [c]⟩ := ⟨_, rfl⟩
  have ook : checkH o = 0 := by
    have e : checkL ([] : List TPosting) = 0 := rfl
    simp only [ho, checkH]
    rw [if_pos e, if_neg (by simp), if_pos]
    rw [corrsB, corrsFrom, corrsFrom, (corrB_iff c).2 cok, decide_eq_true (by have := cok.found; omega)]
    rfl
  have eo : effP o c.Year = ps := by rw [ho, effP, corrP, corrP, if_pos (by simp), hps, List.append_nil]
  have f1 := Effect_pf h c.Year hfit
  have f2 := Effect_pf a c.Year (fit_of_check k5)
  have f3 := Effect_pf b c.Year (fit_of_check m5)
  have f4 := Effect_pf o c.Year (fit_of_check ook)
  have bn := resP_bound hok c.Year
  have bp := resP_bound ook c.Year
  rw [effectH, if_pos hok, if_pos yk] at f1
  rw [effectH, if_pos k5, if_pos yk, ea, resP_app] at f2
  rw [effectH, if_pos m5, if_pos yk, eb, resP_app, resP_app, hds, resP_trn] at f3
  rw [effectH, if_pos ook, if_pos yk, eo] at f4
  rw [eo] at bp
  simp only at f1 f2 f3 f4
  generalize resP (effP h c.Year) = N at f1 f2 f3 bn
  generalize resP ps = M at f2 f3 f4 bp
  rw [show -(N + M + -M) = -N by omega] at f3
  have wn := wrap_in (-N + -M) (by omega)
  have dn : decide (-(N + M) = -N + -M) = true := decide_eq_true (by omega)
  have en : -(N + M) = -N + -M := by omega
  have ihh := imm_his h
  have iha := imm_his a
  have ihb := imm_his b
  have icc := imm_corr c
  have cD : d.cells = [iv c.Year, iv c.Found, postsL ds] := by rw [hd]; rfl
  rw [cH] at ihh iha ihb f1 f2 f3
  rw [cH, cH, cC'] at c1
  rw [cH, cH, cD] at c2
  rw [cC'] at icc
  rw [ho, cH] at f4
  simp -dsimp -implicitDefEqProofs [-getElem?_pos, go_sem, hP, t4, h1, lt1, t5, h2, lt2]
  refine callB_is (c1.lift _ _) hP en_32 (by simp; exact ⟨ihh, icc⟩) (imm_pair iha .sc) ?_
  simp -dsimp -implicitDefEqProofs [-getElem?_pos, go_sem, hP, t6, h3, lt3]
  refine callB_frz (c2.lift _ _) hP hW en_32 (args_imm iha (args_agg (cw_imm .sc (cw_imm .sc (cw_sref (ty := 37) (k := 8) (es := encL TPosting.cells ds) (by rw [List.getElem?_append_left lj, hgr]) (by rw [encL_len]) (imm_posts ds) .nil))) (args_nil.2 trivial))) (imm_pair ihb .sc) ?_
  generalize hHK : killAll _ _ = HK
  have g1 : HK[1]? = s.H[1]? := by
    rw [← hHK]
    show ((s.H ++ [_]).set jd none)[1]? = _
    rw [List.getElem?_set_ne (by omega), List.getElem?_append_left lt1]
  have g2 : HK[2]? = s.H[2]? := by
    rw [← hHK]
    show ((s.H ++ [_]).set jd none)[2]? = _
    rw [List.getElem?_set_ne (by omega), List.getElem?_append_left lt2]
  have gn : HK[s.H.length]? = some (some ⟨56, 3, [[postsL a.Ledger.Postings, presL a.Presented, corrsL a.Corrections]]⟩) := by
    rw [← hHK]
    show ((s.H ++ [_]).set jd none)[s.H.length]? = _
    rw [List.getElem?_set_ne (by omega), List.getElem?_append_right (Nat.le_refl _)]
    simp
  have hKl : HK.length = s.H.length + 1 := by
    rw [← hHK, killAll_len]; simp
  rw [h1] at g1
  rw [h2] at g2
  clear hHK
  have u1 := (List.getElem?_eq_some_iff.1 g1).1
  have u2 := (List.getElem?_eq_some_iff.1 g2).1
  have un := (List.getElem?_eq_some_iff.1 gn).1
  simp -dsimp -implicitDefEqProofs [-getElem?_pos, go_sem, hP, t4, g1, u1, t5, g2, u2]
  refine callB_is (f1.lift _ _) hP en_39 (by simp [imm_sc]; exact ihh) (imm_pair .sc .sc) ?_
  simp -dsimp -implicitDefEqProofs [-getElem?_pos, go_sem, hP, gn, un, t5, g2, u2]
  refine callB_is (f2.lift _ _) hP en_39 (by simp [imm_sc]; exact iha) (imm_pair .sc .sc) ?_
  simp -dsimp -implicitDefEqProofs [-getElem?_pos, go_sem, hP, t5, g2, u2]
  refine callB_is (f3.lift _ _) hP en_39 (by simp [imm_sc]; exact ihb) (imm_pair .sc .sc) ?_
  simp -dsimp -implicitDefEqProofs [-getElem?_pos, go_sem, hP, t5, g2, u2]
  have ec : corrsL [c] = .list 3 [[iv c.Year, iv c.Found, postsL ps]] := by
    show AV.list 3 [c.cells] = _
    rw [cC']
  have io : Imm (corrsL [c]) := imm_corrs [c]
  simp only at f4
  rw [ec] at f4 io
  refine callB_pure f4 hP en_39 (args_agg (cw_nil (cw_nil (cw_imm io .nil))) (args_same (by simp [imm_sc]))) (by simp [flat_tup, flat_sc]) ?_
  simp -dsimp -implicitDefEqProofs [-getElem?_pos, go_sem, hP, en, wn, dn]
  refine callB_pure sane44_pf hP en_30 (args_same (by simp -dsimp -implicitDefEqProofs [-getElem?_pos, go_sem])) .sc ?_
  simp -dsimp -implicitDefEqProofs [-getElem?_pos, go_sem, hP]
end Go.Proofs.Ytellcfkpfccgaaa
