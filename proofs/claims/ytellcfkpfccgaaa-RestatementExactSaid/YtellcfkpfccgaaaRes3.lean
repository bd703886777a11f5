/- Restatement: the check of a history; copies. -/
import Derived.Test.YtellcfkpfccgaaaRes2
import Derived.Test.YtellcfkpfccgaaaGrown
set_option linter.unusedSimpArgs false
set_option linter.unusedVariables false
namespace Go.Proofs.Ytellcfkpfccgaaa
open Go.PA
open Go.RowKit

/-- Histories that fit. -/
structure Fit (h : THistory) : Prop where
  post : h.Ledger.Postings.length ≤ 100000
  pres : h.Presented.length ≤ 100000
  corr : h.Corrections.length ≤ 100000
  each : ∀ c, c ∈ h.Corrections → c.Postings.length ≤ 100000

theorem hcheck_pf (h : THistory) (hf : Fit h) : PFun Try.prog none none 28 [.agg h.cells] (· = iv (checkH h)) := by
  refine pfun_intro Try.func28 rfl (by simp [Try.f28]) (by kernel_rfl) ?_
  intro E hP hr hs hW hN
  have ck := lcheck_pf h.Ledger hf.post
  rw [cL] at ck
  have ip := imm_posts h.Ledger.Postings
  have i2 := imm_pres h.Presented
  have i3 := imm_corrs h.Corrections
  obtain ⟨R, hR⟩ : ∃ R, R = checkH h := ⟨_, rfl⟩
  rw [← hR]
  simp -dsimp -implicitDefEqProofs [-getElem?_pos, go_sem, hP, cH]
  refine callB_is (ck.lift _ _) hP en_56 (by simp [ip, imm_agg]) .sc ?_
  by_cases c1 : checkL h.Ledger.Postings = 0
  rotate_left
  · have : R = checkL h.Ledger.Postings := by rw [hR, checkH, if_neg c1]
    simp -dsimp -implicitDefEqProofs [-getElem?_pos, go_sem, hP, c1, this]
  rw [checkH, if_pos c1] at hR
  have w1 := hf.pres
  have w2 := hf.corr
  by_cases c2 : 20 < h.Corrections.length
  · have d2 : decide ((20 : Int) < (h.Corrections.length : Int)) = true := decide_eq_true (by omega)
    rw [if_pos (.inl c2)] at hR
    simp -dsimp -implicitDefEqProofs [-getElem?_pos, go_sem, hP, c1, c2, d2, hR]
  have d2 : decide ((20 : Int) < (h.Corrections.length : Int)) = false := decide_eq_false (by omega)
  by_cases c3 : 20 < h.Presented.length
  · have d3 : decide ((20 : Int) < (h.Presented.length : Int)) = true := decide_eq_true (by omega)
    rw [if_pos (.inr c3)] at hR
    simp -dsimp -implicitDefEqProofs [-getElem?_pos, go_sem, hP, c1, d2, c3, d3, hR]
  have d3 : decide ((20 : Int) < (h.Presented.length : Int)) = false := decide_eq_false (by omega)
  rw [if_neg (by omega)] at hR
  simp -dsimp -implicitDefEqProofs [-getElem?_pos, go_sem, hP, c1, d2, d3]
  refine callB_is ((corrections_pf h.Corrections hf.corr hf.each).lift _ _) hP en_78 (by simpa using i3) .sc ?_
  cases c4 : corrsB h.Corrections
  · rw [c4, Bool.false_and, if_neg (by simp)] at hR
    simp -dsimp -implicitDefEqProofs [-getElem?_pos, go_sem, hP, c4, hR]
  rw [c4, Bool.true_and] at hR
  simp -dsimp -implicitDefEqProofs [-getElem?_pos, go_sem, hP, c4]
  refine callB_is ((presented_pf h.Presented hf.pres).lift _ _) hP en_79 (by simpa using i2) .sc ?_
  cases c5 : presB h.Presented
  · rw [c5, if_neg (by simp)] at hR
    simp -dsimp -implicitDefEqProofs [-getElem?_pos, go_sem, hP, c5, hR]
  · rw [c5, if_pos rfl] at hR
    simp -dsimp -implicitDefEqProofs [-getElem?_pos, go_sem, hP, c5, hR]

theorem clone_m_presented {row src : Option Nat} (l : List TPresented) (H : Heap) (hl : l.length ≤ 1000000) : MFun Try.prog row src 108 [.list 7 (encL TPresented.cells l)] H (fun r H' => ∃ id, r = .sref id 0 l.length ∧ H.length ≤ id ∧ H'[id]? = some (some ⟨62, 7, encL TPresented.cells l⟩) ∧ Kept [] H H') := by
  have own : MFun Try.prog row src 108 [.list 7 (encL TPresented.cells l)] H (fun r H' => (r = .nil ∧ l = [] ∧ H' = H) ∨ ∃ id, r = .sref id 0 l.length ∧ H.length ≤ id ∧ H'[id]? = some (some ⟨62, 7, encL TPresented.cells l⟩) ∧ Kept [] H H') := by
    cases l with
    | nil =>
      refine mfun_list_nil fun A c => ?_
      refine mfun_intro Try.func108 rfl (by simp [Try.f108]) (by kernel_rfl) ⟨.nil, H, .inl ⟨rfl, rfl, rfl⟩⟩ ?_
      intro E hP hr hs hN
      cases A with
      | none => simp -dsimp -implicitDefEqProofs [-getElem?_pos, go_sem, hP]
      | some a =>
        simp -dsimp -implicitDefEqProofs [-getElem?_pos, go_sem, hP]
        exact kept_app _ _ _
    | cons a l =>
      refine mfun_intro Try.func108 rfl (by simp [Try.f108]) (by kernel_rfl) ⟨_, H ++ [some ⟨62, 7, encL TPresented.cells (a :: l)⟩], .inr ⟨H.length, rfl, Nat.le_refl _, by simp, kept_push _ (kept_refl _ _)⟩⟩ ?_
      intro E hP hr hs hN
      simp only [List.length_cons] at hl
      have e : encL TPresented.cells (a :: l) = TPresented.cells a :: encL TPresented.cells l := rfl
      simp -dsimp -implicitDefEqProofs [-getElem?_pos, go_sem, hP, e]
      refine ⟨by omega, by omega, ?_⟩
      exact kept_app _ _ _
  refine (own.ownNil 62 7).mono ?_
  rintro r H' (⟨H0, h0, rfl, rfl⟩ | ⟨hne, h⟩)
  · rcases h0 with ⟨_, rfl, rfl⟩ | ⟨id, h, _⟩
    · exact ⟨_, rfl, Nat.le_refl _, by simp [encL], kept_push _ (kept_refl _ _)⟩
    · cases h
  · rcases h with ⟨h, _⟩ | h
    · exact absurd h hne
    · exact h

theorem clone_m_correction {row src : Option Nat} (l : List TCorrection) (H : Heap) (hl : l.length ≤ 1000000) : MFun Try.prog row src 83 [.list 3 (encL TCorrection.cells l)] H (fun r H' => ∃ id, r = .sref id 0 l.length ∧ H.length ≤ id ∧ H'[id]? = some (some ⟨66, 3, encL TCorrection.cells l⟩) ∧ Kept [] H H') := by
  have own : MFun Try.prog row src 83 [.list 3 (encL TCorrection.cells l)] H (fun r H' => (r = .nil ∧ l = [] ∧ H' = H) ∨ ∃ id, r = .sref id 0 l.length ∧ H.length ≤ id ∧ H'[id]? = some (some ⟨66, 3, encL TCorrection.cells l⟩) ∧ Kept [] H H') := by
    cases l with
    | nil =>
      refine mfun_list_nil fun A c => ?_
      refine mfun_intro Try.func83 rfl (by simp [Try.f83]) (by kernel_rfl) ⟨.nil, H, .inl ⟨rfl, rfl, rfl⟩⟩ ?_
      intro E hP hr hs hN
      cases A with
      | none => simp -dsimp -implicitDefEqProofs [-getElem?_pos, go_sem, hP]
      | some a =>
        simp -dsimp -implicitDefEqProofs [-getElem?_pos, go_sem, hP]
        exact kept_app _ _ _
    | cons a l =>
      refine mfun_intro Try.func83 rfl (by simp [Try.f83]) (by kernel_rfl) ⟨_, H ++ [some ⟨66, 3, encL TCorrection.cells (a :: l)⟩], .inr ⟨H.length, rfl, Nat.le_refl _, by simp, kept_push _ (kept_refl _ _)⟩⟩ ?_
      intro E hP hr hs hN
      simp only [List.length_cons] at hl
      have e : encL TCorrection.cells (a :: l) = TCorrection.cells a :: encL TCorrection.cells l := rfl
      simp -dsimp -implicitDefEqProofs [-getElem?_pos, go_sem, hP, e]
      refine ⟨by omega, by omega, ?_⟩
      exact kept_app _ _ _
  refine (own.ownNil 66 3).mono ?_
  rintro r H' (⟨H0, h0, rfl, rfl⟩ | ⟨hne, h⟩)
  · rcases h0 with ⟨_, rfl, rfl⟩ | ⟨id, h, _⟩
    · exact ⟨_, rfl, Nat.le_refl _, by simp [encL], kept_push _ (kept_refl _ _)⟩
    · cases h
  · rcases h with ⟨h, _⟩ | h
    · exact absurd h hne
    · exact h


set_option maxHeartbeats 1000000 in
theorem copied_m {row src : Option Nat} (h : THistory) (H : Heap) (hf : Fit h) :
    MFun Try.prog row src 84 [.agg h.cells] H (fun r H' => ∃ id x, r = .agg [postsL h.Ledger.Postings, .sref id 0 h.Presented.length, x] ∧ H.length ≤ id ∧ H'[id]? = some (some ⟨62, 7, encL TPresented.cells h.Presented⟩) ∧ (∃ B, id < B ∧ Grown B H' x 66 3 (encL TCorrection.cells h.Corrections)) ∧ Kept [] H H') := by
  obtain ⟨C, hC⟩ : ∃ C : AV → Heap → Prop, C = fun r H' => ∃ id x, r = .agg [postsL h.Ledger.Postings, .sref id 0 h.Presented.length, x] ∧ H.length ≤ id ∧ H'[id]? = some (some ⟨62, 7, encL TPresented.cells h.Presented⟩) ∧ (∃ B, id < B ∧ Grown B H' x 66 3 (encL TCorrection.cells h.Corrections)) ∧ Kept [] H H' := ⟨_, rfl⟩
  rw [← hC]
  have ex : ∃ r H', C r H' := ⟨.agg [postsL h.Ledger.Postings, .sref H.length 0 h.Presented.length, .sref (H.length + 1) 0 h.Corrections.length], H ++ [some ⟨62, 7, encL TPresented.cells h.Presented⟩, some ⟨66, 3, encL TCorrection.cells h.Corrections⟩], by
    rw [hC]
    exact ⟨H.length, _, rfl, Nat.le_refl _, by simp, ⟨H.length + 1, by omega, .inr ⟨H.length + 1, Nat.le_refl _, by rw [encL_len], by rw [List.getElem?_append_right (by omega)]; simp⟩⟩, kept_app _ _ _⟩⟩
  refine mfun_intro Try.func84 rfl (by simp [Try.f84]) (by kernel_rfl) (ex) ?_
  intro E hP hr hs hN
  have ip := imm_posts h.Ledger.Postings
  have i2 := imm_pres h.Presented
  have i3 := imm_corrs h.Corrections
  simp -dsimp -implicitDefEqProofs [-getElem?_pos, go_sem, hP, cH]
  have lp := hf.post
  have lq := hf.pres
  have lc := hf.corr
  obtain ⟨Inv, hInv⟩ : ∃ Inv : St → Prop, Inv = fun s => ∃ (p id : Nat), s.t 1 = .ref H.length 0 0 ∧ s.t 2 = .ref (H.length + 1) 0 0 ∧ s.t 3 = .ref p 0 0 ∧ H.length + 2 ≤ p ∧ H.length + 2 ≤ id ∧ p ≠ id ∧ s.H[H.length]? = some (some ⟨56, 3, [[postsL h.Ledger.Postings, presL h.Presented, corrsL h.Corrections]]⟩) ∧ s.H[H.length + 1]? = some (some ⟨56, 3, [[.nil, .nil, .nil]]⟩) ∧ s.H[p]? = some (some ⟨56, 3, [[postsL h.Ledger.Postings, .sref id 0 h.Presented.length, .nil]]⟩) ∧ s.H[id]? = some (some ⟨62, 7, encL TPresented.cells h.Presented⟩) ∧ Kept [] H s.H := ⟨_, rfl⟩
  obtain ⟨H1, hH1⟩ : ∃ H1 : Heap, H1 = H ++ [some ⟨56, 3, [[postsL h.Ledger.Postings, presL h.Presented, corrsL h.Corrections]]⟩, some ⟨56, 3, [[.nil, .nil, .nil]]⟩] := ⟨_, rfl⟩
  have l1 : H1.length = H.length + 2 := by rw [hH1]; simp
  have a0 : H1[H.length]? = some (some ⟨56, 3, [[postsL h.Ledger.Postings, presL h.Presented, corrsL h.Corrections]]⟩) := by rw [hH1]; simp
  have a1 : H1[H.length + 1]? = some (some ⟨56, 3, [[.nil, .nil, .nil]]⟩) := by rw [hH1, List.getElem?_append_right (by omega)]; simp
  have k1 : Kept [] H H1 := by rw [hH1]; exact kept_app _ _ _
  simp only [← hH1]
  have aD : ∀ (X X' : Heap), Kept [] X X' → X[H.length]? = H1[H.length]? → X[H.length + 1]? = H1[H.length + 1]? → Agree (fun i => decide (i = H.length) || decide (i = H.length + 1)) X X' := fun X X' hk e0 e1 => agree_live hk fun i hi => by
    simp only [Bool.or_eq_true, decide_eq_true_eq] at hi
    rcases hi with rfl | rfl
    · exact ⟨by simp, _, e0.trans a0⟩
    · exact ⟨by simp, _, e1.trans a1⟩
  refine adraw_cut Inv ?_ ?_
  · refine adrawK (fun i => decide (i = H.length) || decide (i = H.length + 1)) [10] [3] 7 hP (by kernel_rfl) (by kernel_rfl) (by simp) ?_
    simp -dsimp -implicitDefEqProofs [-getElem?_pos, go_sem, hP, List.take_succ_cons, List.take_zero, restr_get, a0, l1]
    refine callQ_is ((clone_pf_posting h.Ledger.Postings (by omega)).lift _ _) hP en_75 (by simpa using ip) ip ?_
    simp -dsimp -implicitDefEqProofs [-getElem?_pos, go_sem, hP, a0, restr_get, l1]
    refine xany_two (i := 7) (j := 9) (by kernel_rfl) rfl rfl ?_ ?_
    · simp -dsimp -implicitDefEqProofs [-getElem?_pos, go_sem, hP]
      refine callB_m (by rw [hr, hs]; exact clone_m_presented h.Presented H1 (by omega)) hP en_108 ?_
      rintro r H2 ⟨id, rfl, hid, ho, hk⟩
      have b0 := hk _ _ (by simp) a0
      have b1 := hk _ _ (by simp) a1
      have ltn := (List.getElem?_eq_some_iff.1 b1).1
      have lto := (List.getElem?_eq_some_iff.1 ho).1
      have nid : ¬ id = H2.length := by omega
      have fin : ∀ t, t 1 = AV.ref H.length 0 0 → t 2 = AV.ref (H.length + 1) 0 0 → t 3 = AV.ref H2.length 0 0 → Inv ⟨t, H2 ++ [some ⟨56, 3, [[postsL h.Ledger.Postings, .sref id 0 h.Presented.length, .nil]]⟩]⟩ := fun t e1 e2 e3 => by
        rw [hInv]
        refine ⟨H2.length, id, e1, e2, e3, by omega, by omega, fun e => nid e.symm, ?_, ?_, by simp, ?_, (k1.trans hk).trans (kept_app _ _ _)⟩
        · rw [List.getElem?_append_left (by omega), b0]
        · rw [List.getElem?_append_left (by omega), b1]
        · rw [List.getElem?_append_left (by omega), ho]
      simp -dsimp -implicitDefEqProofs [-getElem?_pos, go_sem, hP]
      refine ⟨aD _ _ hk rfl rfl, ?_⟩
      refine xany_two (i := 8) (j := 9) (by kernel_rfl) rfl rfl ?_ ?_
      · simp -dsimp -implicitDefEqProofs [-getElem?_pos, go_sem, hP]
        refine xany_one (i := 9) (by kernel_rfl) rfl ?_
        simp -dsimp -implicitDefEqProofs [-getElem?_pos, go_sem, hP]
        refine ⟨aD _ _ (kept_app _ _ _) (b0.trans a0.symm) (b1.trans a1.symm), ?_⟩
        refine xany_one (i := 10) (by kernel_rfl) rfl ?_
        simp -dsimp -implicitDefEqProofs [-getElem?_pos, go_sem, hP]
        refine xany_nil (by kernel_rfl) ?_
        exact fin _ (by simp -dsimp -implicitDefEqProofs [-getElem?_pos, go_sem]) (by simp -dsimp -implicitDefEqProofs [-getElem?_pos, go_sem]) (by simp -dsimp -implicitDefEqProofs [-getElem?_pos, go_sem])
      · simp -dsimp -implicitDefEqProofs [-getElem?_pos, go_sem, hP]
        refine ⟨aD _ _ (kept_app _ _ _) (b0.trans a0.symm) (b1.trans a1.symm), ?_⟩
        refine xany_one (i := 8) (by kernel_rfl) rfl ?_
        simp -dsimp -implicitDefEqProofs [-getElem?_pos, go_sem, hP]
        refine xany_one (i := 10) (by kernel_rfl) rfl ?_
        simp -dsimp -implicitDefEqProofs [-getElem?_pos, go_sem, hP]
        refine xany_nil (by kernel_rfl) ?_
        exact fin _ (by simp -dsimp -implicitDefEqProofs [-getElem?_pos, go_sem]) (by simp -dsimp -implicitDefEqProofs [-getElem?_pos, go_sem]) (by simp -dsimp -implicitDefEqProofs [-getElem?_pos, go_sem])
    · simp -dsimp -implicitDefEqProofs [-getElem?_pos, go_sem, hP]
      refine ⟨aD _ _ (kept_app _ _ _) rfl rfl, ?_⟩
      refine xany_one (i := 7) (by kernel_rfl) rfl ?_
      obtain ⟨H2, hH2⟩ : ∃ H2 : Heap, H2 = H1 ++ [some ⟨56, 3, [[.nil, .nil, .nil]]⟩] := ⟨_, rfl⟩
      have l2 : H2.length = H1.length + 1 := by rw [hH2]; simp
      have b0 : H2[H.length]? = H1[H.length]? := by rw [hH2, List.getElem?_append_left (by omega)]
      have b1 : H2[H.length + 1]? = H1[H.length + 1]? := by rw [hH2, List.getElem?_append_left (by omega)]
      have b2 : H2[H1.length]? = some (some ⟨56, 3, [[.nil, .nil, .nil]]⟩) := by rw [hH2]; simp
      have k2 : Kept [] H1 H2 := by rw [hH2]; exact kept_app _ _ _
      simp only [← hH2]
      simp -dsimp -implicitDefEqProofs [-getElem?_pos, go_sem, hP, b0, a0, l1, l2]
      refine callB_m (by rw [hr, hs]; exact clone_m_presented h.Presented H2 (by omega)) hP en_108 ?_
      rintro r H3 ⟨id, rfl, hid, ho, hk⟩
      have c0 := hk _ _ (by simp) (b0.trans a0)
      have c1 := hk _ _ (by simp) (b1.trans a1)
      have c2 := hk _ _ (by simp) b2
      have ltn := (List.getElem?_eq_some_iff.1 c2).1
      have lto := (List.getElem?_eq_some_iff.1 ho).1
      rw [l1] at c2 ltn l2
      simp -dsimp -implicitDefEqProofs [-getElem?_pos, go_sem, hP]
      refine ⟨aD _ _ hk b0 b1, ?_⟩
      refine xany_one (i := 8) (by kernel_rfl) rfl ?_
      simp -dsimp -implicitDefEqProofs [-getElem?_pos, go_sem, hP]
      refine xany_one (i := 10) (by kernel_rfl) rfl ?_
      simp -dsimp -implicitDefEqProofs [-getElem?_pos, go_sem, hP, c2, ltn]
      refine xany_nil (by kernel_rfl) ?_
      rw [hInv]
      refine ⟨H.length + 2, id, by simp -dsimp -implicitDefEqProofs [-getElem?_pos, go_sem], by simp -dsimp -implicitDefEqProofs [-getElem?_pos, go_sem], by simp -dsimp -implicitDefEqProofs [-getElem?_pos, go_sem], by omega, by omega, by omega, ?_, ?_, ?_, ?_, ?_⟩
      · rw [List.getElem?_set_ne (by omega), c0]
      · rw [List.getElem?_set_ne (by omega), c1]
      · rw [List.getElem?_set_self ltn]
      · rw [List.getElem?_set_ne (by omega), ho]
      · exact kept_new _ (by omega) ((k1.trans k2).trans hk)
  · rw [hInv]
    rintro s ⟨p, id, t1, t2, t3, hp2, hid2, hne, h0, h1, hp, hid, hK⟩
    have lt0 := (List.getElem?_eq_some_iff.1 h0).1
    have ltp := (List.getElem?_eq_some_iff.1 hp).1
    have lti := (List.getElem?_eq_some_iff.1 hid).1
    obtain ⟨B, hB⟩ : ∃ B, B = s.H.length := ⟨_, rfl⟩
    rw [← hB] at ltp lti
    have hBle : B ≤ s.H.length := by omega
    obtain ⟨l, hl⟩ : ∃ l, l = h.Corrections := ⟨_, rfl⟩
    have each := hf.each
    rw [← hl] at lc h0 each i3
    simp -dsimp -implicitDefEqProofs [-getElem?_pos, go_sem, hP, t1, h0, lt0]
    rw [← hl] at hC
    obtain ⟨I, hI⟩ : ∃ I : Nat → St → Prop, I = fun m s => ∃ (k : Nat) (x : AV), k ≤ l.length ∧ m = l.length - k ∧ B ≤ s.H.length ∧ s.t 2 = .ref (H.length + 1) 0 0 ∧ s.t 3 = .ref p 0 0 ∧ s.t 16 = corrsL l ∧ s.t 17 = iv l.length ∧ s.t 18 = iv k ∧ s.H[H.length + 1]? = some (some ⟨56, 3, [[.nil, .nil, .nil]]⟩) ∧ s.H[p]? = some (some ⟨56, 3, [[postsL h.Ledger.Postings, .sref id 0 h.Presented.length, x]]⟩) ∧ s.H[id]? = some (some ⟨62, 7, encL TPresented.cells h.Presented⟩) ∧ Grown B s.H x 66 3 (encL TCorrection.cells (l.take k)) ∧ Kept [] H s.H := ⟨_, rfl⟩
    refine aloop0 I (l.length) (by rw [hN]; rfl) ?_ ?_
    · rw [hI]
      exact ⟨0, .nil, by omega, by omega, by simp -dsimp -implicitDefEqProofs [-getElem?_pos, go_sem]; omega, by simp -dsimp -implicitDefEqProofs [-getElem?_pos, go_sem, t2], by simp -dsimp -implicitDefEqProofs [-getElem?_pos, go_sem, t3], by simp -dsimp -implicitDefEqProofs [-getElem?_pos, go_sem], by simp -dsimp -implicitDefEqProofs [-getElem?_pos, go_sem], by simp -dsimp -implicitDefEqProofs [-getElem?_pos, go_sem], by simp -dsimp -implicitDefEqProofs [-getElem?_pos, go_sem, h1], by simp -dsimp -implicitDefEqProofs [-getElem?_pos, go_sem, hp], by simp -dsimp -implicitDefEqProofs [-getElem?_pos, go_sem, hid], .inl ⟨rfl, rfl⟩, by simp -dsimp -implicitDefEqProofs [-getElem?_pos, go_sem]; exact hK⟩
    clear t1 t2 t3 h0 h1 hp hid hK lt0 hB hBle
    intro m s hs'
    rw [hI] at hs'
    obtain ⟨k, x, hk, hm, hBle, t2, t3, t16, t17, t18, h1, hp, hid, hg, hK⟩ := hs'
    have lt1 := (List.getElem?_eq_some_iff.1 h1).1
    simp -dsimp -implicitDefEqProofs [-getElem?_pos, go_sem, hP, t17, t18]
    refine condP (fun h => ?_) (fun h => ?_)
    · have hk : k < l.length := by simpa using h
      obtain ⟨c, hcc⟩ : ∃ c, l[k]? = some c := ⟨_, List.getElem?_eq_getElem hk⟩
      have wk := wrap_in ((k : Int) + 1) (by omega)
      have ec := each c (List.mem_of_getElem? hcc)
      have ic := imm_posts c.Postings
      have ltp' : p < s.H.length := by omega
      have lti' : id < s.H.length := by omega
      have e1 : encL TCorrection.cells (l.take (k + 1)) = encL TCorrection.cells (l.take k) ++ [[iv c.Year, iv c.Found, postsL c.Postings]] := by
        rw [List.take_add_one, hcc]
        exact (encL_snoc TCorrection.cells (l.take k) c).symm
      have nl : (encL TCorrection.cells (l.take k)).length = k := by rw [encL_len, List.length_take]; omega
      have np1 : ¬ p = H.length + 1 := by omega
      simp -dsimp -implicitDefEqProofs [-getElem?_pos, go_sem, hP, t16, t18, hcc, cC]
      refine callB_is ((clone_pf_posting c.Postings (by omega)).lift _ _) hP en_75 (by simpa using ic) ic ?_
      rcases hg with ⟨rfl, hg⟩ | ⟨jd, h2, rfl, hg⟩
      · simp -dsimp -implicitDefEqProofs [-getElem?_pos, go_sem, hP, t3, hp, ltp', t18, wk]
        refine ⟨l.length - (k + 1), by omega, ?_⟩
        rw [hI]
        refine ⟨k + 1, .sref (s.H.length + 1) 0 1, by omega, rfl, by simp -dsimp -implicitDefEqProofs [-getElem?_pos, go_sem]; omega, by simp -dsimp -implicitDefEqProofs [-getElem?_pos, go_sem, t2], by simp -dsimp -implicitDefEqProofs [-getElem?_pos, go_sem, t3], by simp -dsimp -implicitDefEqProofs [-getElem?_pos, go_sem, t16], by simp -dsimp -implicitDefEqProofs [-getElem?_pos, go_sem, t17], by simp -dsimp -implicitDefEqProofs [-getElem?_pos, go_sem], ?_, ?_, ?_, .inr ⟨s.H.length + 1, by omega, ?_, ?_⟩, ?_⟩
        · simp -dsimp -implicitDefEqProofs [-getElem?_pos, go_sem, lt1, h1, np1]
        · simp -dsimp -implicitDefEqProofs [-getElem?_pos, go_sem, ltp']
        · simp -dsimp -implicitDefEqProofs [-getElem?_pos, go_sem, lti', hid, hne]
        · rw [e1, hg]; rfl
        · rw [e1, hg]
          simp -dsimp -implicitDefEqProofs [-getElem?_pos, go_sem]
        · simp -dsimp -implicitDefEqProofs [-getElem?_pos, go_sem]
          exact (kept_new _ (by omega) hK).trans (kept_app _ _ _)
      · have lj := (List.getElem?_eq_some_iff.1 hg).1
        have j1 : ¬ jd = H.length + 1 := by omega
        have j2 : ¬ jd = p := by omega
        have j3 : ¬ jd = id := by omega
        simp -dsimp -implicitDefEqProofs [-getElem?_pos, go_sem, hP, t3, hp, ltp', t18, wk, hg, lj, j1, j2, j3, nl]
        refine ⟨by omega, by omega, ?_⟩
        refine ⟨l.length - (k + 1), by omega, ?_⟩
        rw [hI]
        refine ⟨k + 1, .sref (s.H.length + 1) 0 (k + 1), by omega, rfl, by simp -dsimp -implicitDefEqProofs [-getElem?_pos, go_sem]; omega, by simp -dsimp -implicitDefEqProofs [-getElem?_pos, go_sem, t2], by simp -dsimp -implicitDefEqProofs [-getElem?_pos, go_sem, t3], by simp -dsimp -implicitDefEqProofs [-getElem?_pos, go_sem, t16], by simp -dsimp -implicitDefEqProofs [-getElem?_pos, go_sem, t17], by simp -dsimp -implicitDefEqProofs [-getElem?_pos, go_sem], ?_, ?_, ?_, .inr ⟨s.H.length + 1, by omega, ?_, ?_⟩, ?_⟩
        · simp -dsimp -implicitDefEqProofs [-getElem?_pos, go_sem, lt1, h1, np1, j1]
        · simp -dsimp -implicitDefEqProofs [-getElem?_pos, go_sem, ltp', j2]
        · simp -dsimp -implicitDefEqProofs [-getElem?_pos, go_sem, lti', hid, hne, j3]
        · rw [e1, List.length_append, nl]; rfl
        · rw [e1]
          simp -dsimp -implicitDefEqProofs [-getElem?_pos, go_sem]
        · simp -dsimp -implicitDefEqProofs [-getElem?_pos, go_sem]
          exact (kept_new _ (by omega) (kept_new _ (by omega) hK)).trans (kept_app _ _ _)
    · have hk : k = l.length := by simp at h; omega
      subst hk
      rw [List.take_length] at hg
      have hc := hg.cellish
      have ltp' : p < s.H.length := by omega
      simp -dsimp -implicitDefEqProofs [-getElem?_pos, go_sem, hP, t3, hp, ltp', t2, h1, lt1, hc]
      rw [hC]
      refine ⟨id, x, rfl, by omega, ?_, ⟨B, by omega, hg.kept (X := [H.length + 1]) (kept_set _ (by simp) (kept_refl _ _)) (by simp; omega)⟩, kept_new _ (by omega) hK⟩
      rw [List.getElem?_set_ne (by omega), hid]
end Go.Proofs.Ytellcfkpfccgaaa
