/- Ledgers: the program's checks. -/
import Derived.Test.YtellcfkpfccgaaaLed1
import Derived.Test.YtellcfkpfccgaaaFacts
import Derived.Test.YtellcfkpfccgaaaPaC
set_option linter.unusedSimpArgs false
set_option linter.unusedVariables false
namespace Go.Proofs.Ytellcfkpfccgaaa
open Go.PA
open Go.RowKit

theorem ramong_pf (n lo hi : Int) : PFun Try.prog none none 76 [iv n, iv lo, iv hi] (· = bv (betw n lo hi)) := by
  refine pfun_intro Try.func76 rfl (by simp [Try.f76]) (by kernel_rfl) ?_
  intro E hP hr hs hW hN
  by_cases h1 : lo ≤ n <;> by_cases h2 : n ≤ hi <;> simp -dsimp -implicitDefEqProofs [-getElem?_pos, go_sem, hP, h1, h2, betw]
theorem entity_pf (n : Int) : PFun Try.prog none none 98 [iv n] (· = bv (betw n 1 10)) := by
  refine pfun_intro Try.func98 rfl (by simp [Try.f98]) (by kernel_rfl) ?_
  intro E hP hr hs hW hN
  simp -dsimp -implicitDefEqProofs [-getElem?_pos, go_sem, hP]
  refine callB_pure (ramong_pf n 1 10) hP en_76 (args_same (by simp -dsimp -implicitDefEqProofs [-getElem?_pos, go_sem])) .sc ?_
  simp -dsimp -implicitDefEqProofs [-getElem?_pos, go_sem, hP]
theorem tdiv100 {a : Int} (h : 100 ≤ a ∧ a ≤ 599) : IntKind.i64.wrap (a.tdiv 100) = a / 100 := by
  rw [Int.tdiv_eq_ediv_of_nonneg (by omega)]
  exact wrap_in _ (by omega)
theorem class_pf (n : Int) : PFun Try.prog none none 68 [iv n] (· = iv (classI n)) := by
  refine pfun_intro Try.func68 rfl (by simp [Try.f68]) (by kernel_rfl) ?_
  intro E hP hr hs hW hN
  simp -dsimp -implicitDefEqProofs [-getElem?_pos, go_sem, hP]
  refine callB_pure (ramong_pf n 100 599) hP en_76 (args_same (by simp -dsimp -implicitDefEqProofs [-getElem?_pos, go_sem])) .sc ?_
  by_cases h : 100 ≤ n ∧ n ≤ 599
  · have h1 : betw n 100 599 = true := betw_iff.2 h
    have h2 : classI n = n / 100 := if_pos h
    simp -dsimp -implicitDefEqProofs [-getElem?_pos, go_sem, hP, h1, tdiv100 h, h2]
  · have h1 : betw n 100 599 = false := by
      rw [Bool.eq_false_iff]
      exact fun e => h (betw_iff.1 e)
    have h2 : classI n = 0 := if_neg h
    simp -dsimp -implicitDefEqProofs [-getElem?_pos, go_sem, hP, h1, h2]

theorem class_betw (n : Int) : decide (0 < classI n) = betw n 100 599 := by
  rw [Bool.eq_iff_iff, decide_eq_true_eq, betw_iff, classI_pos]

set_option maxHeartbeats 2000000 in
theorem posting_pf (p : TPosting) : PFun Try.prog none none 63 [.agg p.cells] (· = bv (postB p)) := by
  refine pfun_intro Try.func63 rfl (by simp [Try.f63]) (by kernel_rfl) ?_
  intro E hP hr hs hW hN
  have i1 := ramong_pf p.Number 1 1000000
  have i2 := ramong_pf p.Day 0 36000
  have i3 := entity_pf p.Entity
  have i4 := class_betw p.Debit
  have i5 := class_betw p.Credit
  have i7 := ramong_pf p.Amount 1 1000000000000
  have i8 := ramong_pf p.Partner 0 10
  have i10 := ramong_pf p.Ref 0 1000000
  have pb : postB p = (betw p.Number 1 1000000 && betw p.Day 0 36000 && betw p.Entity 1 10 && betw p.Debit 100 599 && betw p.Credit 100 599 && !decide (p.Debit = p.Credit) && betw p.Amount 1 1000000000000 && betw p.Partner 0 10 && !decide (p.Partner = p.Entity) && betw p.Ref 0 1000000) := rfl
  generalize betw p.Number 1 1000000 = b1 at i1 pb
  generalize betw p.Day 0 36000 = b2 at i2 pb
  generalize betw p.Entity 1 10 = b3 at i3 pb
  generalize betw p.Debit 100 599 = b4 at i4 pb
  generalize betw p.Credit 100 599 = b5 at i5 pb
  generalize betw p.Amount 1 1000000000000 = b7 at i7 pb
  generalize betw p.Partner 0 10 = b8 at i8 pb
  generalize betw p.Ref 0 1000000 = b10 at i10 pb
  rw [pb]
  simp -dsimp -implicitDefEqProofs [-getElem?_pos, go_sem, hP, cP]
  refine callB_pure i1 hP en_76 (args_same (by simp -dsimp -implicitDefEqProofs [-getElem?_pos, go_sem])) .sc ?_
  cases b1
  · simp -dsimp -implicitDefEqProofs [-getElem?_pos, go_sem, hP, Bool.false_and]
  simp -dsimp -implicitDefEqProofs [-getElem?_pos, go_sem, hP]
  refine callB_pure i2 hP en_76 (args_same (by simp -dsimp -implicitDefEqProofs [-getElem?_pos, go_sem])) .sc ?_
  cases b2
  · simp -dsimp -implicitDefEqProofs [-getElem?_pos, go_sem, hP, Bool.false_and, Bool.true_and]
  simp -dsimp -implicitDefEqProofs [-getElem?_pos, go_sem, hP]
  refine callB_pure i3 hP en_98 (args_same (by simp -dsimp -implicitDefEqProofs [-getElem?_pos, go_sem])) .sc ?_
  cases b3
  · simp -dsimp -implicitDefEqProofs [-getElem?_pos, go_sem, hP, Bool.false_and, Bool.true_and]
  simp -dsimp -implicitDefEqProofs [-getElem?_pos, go_sem, hP]
  refine callB_pure (class_pf p.Debit) hP en_68 (args_same (by simp -dsimp -implicitDefEqProofs [-getElem?_pos, go_sem])) .sc ?_
  cases b4
  · simp -dsimp -implicitDefEqProofs [-getElem?_pos, go_sem, hP, i4, Bool.false_and, Bool.true_and]
  simp -dsimp -implicitDefEqProofs [-getElem?_pos, go_sem, hP, i4]
  refine callB_pure (class_pf p.Credit) hP en_68 (args_same (by simp -dsimp -implicitDefEqProofs [-getElem?_pos, go_sem])) .sc ?_
  cases b5
  · simp -dsimp -implicitDefEqProofs [-getElem?_pos, go_sem, hP, i5, Bool.false_and, Bool.true_and]
  by_cases h6 : p.Debit = p.Credit
  · simp -dsimp -implicitDefEqProofs [-getElem?_pos, go_sem, hP, i5, h6, decide_true, Bool.not_true, Bool.and_false, Bool.false_and, Bool.true_and]
  have d6 : decide (p.Debit = p.Credit) = false := decide_eq_false h6
  simp -dsimp -implicitDefEqProofs [-getElem?_pos, go_sem, hP, i5, d6]
  refine callB_pure i7 hP en_76 (args_same (by simp -dsimp -implicitDefEqProofs [-getElem?_pos, go_sem])) .sc ?_
  cases b7
  · simp -dsimp -implicitDefEqProofs [-getElem?_pos, go_sem, hP, Bool.false_and, Bool.true_and, Bool.and_false]
  simp -dsimp -implicitDefEqProofs [-getElem?_pos, go_sem, hP]
  refine callB_pure i8 hP en_76 (args_same (by simp -dsimp -implicitDefEqProofs [-getElem?_pos, go_sem])) .sc ?_
  cases b8
  · simp -dsimp -implicitDefEqProofs [-getElem?_pos, go_sem, hP, Bool.false_and, Bool.true_and, Bool.and_false]
  by_cases h9 : p.Partner = p.Entity
  · simp -dsimp -implicitDefEqProofs [-getElem?_pos, go_sem, hP, h9, decide_true, Bool.not_true, Bool.and_false, Bool.false_and, Bool.true_and]
  have d9 : decide (p.Partner = p.Entity) = false := decide_eq_false h9
  simp -dsimp -implicitDefEqProofs [-getElem?_pos, go_sem, hP, d9]
  refine callB_pure i10 hP en_76 (args_same (by simp -dsimp -implicitDefEqProofs [-getElem?_pos, go_sem])) .sc ?_
  simp -dsimp -implicitDefEqProofs [-getElem?_pos, go_sem, hP, d6, d9, Bool.not_false, Bool.true_and]

theorem badp_pf (p : TPosting) : PFun Try.prog none none 100 [.agg p.cells] (· = bv (!postB p)) := by
  refine pfun_intro Try.func100 rfl (by simp [Try.f100]) (by kernel_rfl) ?_
  intro E hP hr hs hW hN
  have hi := posting_pf p
  rw [cP] at hi
  simp -dsimp -implicitDefEqProofs [-getElem?_pos, go_sem, hP, cP]
  refine callB_pure hi hP en_63 (args_same (by simp -dsimp -implicitDefEqProofs [-getElem?_pos, go_sem])) .sc ?_
  simp -dsimp -implicitDefEqProofs [-getElem?_pos, go_sem, hP]
theorem index_pf_posting (l : List TPosting) (g : FuncId) (caps : List AV) (p : TPosting → Bool) (hl : l.length ≤ 1000000) (hen : enterable Try.prog g = true) (hcap : ∀ a, a ∈ caps → Imm a)
    (hg : ∀ a, a ∈ l → PFun Try.prog none none g (.agg (TPosting.cells a) :: caps) (· = bv (p a))) :
    PFun Try.prog none none 121 [.list 8 (encL TPosting.cells l), .fn g caps] (· = iv (idxI p l)) := by
  refine pfun_intro Try.func121 rfl (by simp [Try.f121]) (by kernel_rfl) ?_
  intro E hP hr hs hW hN
  simp -dsimp -implicitDefEqProofs [-getElem?_pos, go_sem, hP]
  obtain ⟨I, hI⟩ : ∃ I : Nat → St → Prop, I = fun m s => ∃ k : Nat, k ≤ l.length ∧ m = l.length - k ∧ idxI p l = idxFrom p k (l.drop k) ∧ s.t 0 = .list 8 (encL TPosting.cells l) ∧ s.t 1 = .fn g caps ∧ s.t 7 = iv l.length ∧ s.t 8 = iv k := ⟨_, rfl⟩
  refine aloop0 I (l.length) (by rw [hN]; rfl) ?_ ?_
  · rw [hI]
    exact ⟨0, by omega, by omega, by simp [idxI], by simp -dsimp -implicitDefEqProofs [-getElem?_pos, go_sem], by simp -dsimp -implicitDefEqProofs [-getElem?_pos, go_sem], by simp -dsimp -implicitDefEqProofs [-getElem?_pos, go_sem], by simp -dsimp -implicitDefEqProofs [-getElem?_pos, go_sem]⟩
  intro m s hs'
  rw [hI] at hs'
  obtain ⟨k, hk, hm, hi, t0, t1, t7, t8⟩ := hs'
  simp -dsimp -implicitDefEqProofs [-getElem?_pos, go_sem, hP, t7, t8]
  refine condP (fun h => ?_) (fun h => ?_)
  · have hk : k < l.length := by simpa using h
    obtain ⟨a, ha⟩ : ∃ a, l[k]? = some a := ⟨_, List.getElem?_eq_getElem hk⟩
    have wk := wrap_in ((k : Int) + 1) (by omega)
    have hz : (TPosting.cells a).take 8 = TPosting.cells a := List.take_of_length_le (by rw [TPosting.len]; omega)
    have hd : l.drop k = a :: l.drop (k + 1) := by
      rw [List.getElem?_eq_getElem hk] at ha
      rw [List.drop_eq_getElem_cons hk, Option.some.inj ha]
    simp -dsimp -implicitDefEqProofs [-getElem?_pos, go_sem, hP, t8, t1, t0, ha, TPosting.len, hz]
    refine callB_is ((hg a (List.mem_of_getElem? ha)).lift _ _) hP hen (fun x hx => ?_) .sc ?_
    · rcases List.mem_cons.1 hx with rfl | hx
      · exact imm_agg.2 (TPosting.imm a)
      · exact hcap x hx
    rw [hd] at hi
    simp only [idxFrom] at hi
    simp -dsimp -implicitDefEqProofs [-getElem?_pos, go_sem, hP]
    refine condP (fun hp => ?_) (fun hp => ?_)
    · rw [if_pos hp] at hi
      simp -dsimp -implicitDefEqProofs [-getElem?_pos, go_sem, hP]
      exact hi.symm
    · rw [hp, if_neg (by simp)] at hi
      simp -dsimp -implicitDefEqProofs [-getElem?_pos, go_sem, hP, t8, wk]
      refine ⟨l.length - (k + 1), by omega, ?_⟩
      rw [hI]
      exact ⟨k + 1, by omega, rfl, hi, by simp -dsimp -implicitDefEqProofs [-getElem?_pos, go_sem, t0], by simp -dsimp -implicitDefEqProofs [-getElem?_pos, go_sem, t1], by simp -dsimp -implicitDefEqProofs [-getElem?_pos, go_sem, t7], by simp -dsimp -implicitDefEqProofs [-getElem?_pos, go_sem]⟩
  · have hk : k = l.length := by simp at h; omega
    subst hk
    rw [List.drop_length] at hi
    simp -dsimp -implicitDefEqProofs [-getElem?_pos, go_sem, hP]
    exact hi.symm

theorem contains_pf_posting (l : List TPosting) (g : FuncId) (caps : List AV) (p : TPosting → Bool) (hl : l.length ≤ 1000000) (hen : enterable Try.prog g = true) (hcap : ∀ a, a ∈ caps → Imm a)
    (hg : ∀ a, a ∈ l → PFun Try.prog none none g (.agg (TPosting.cells a) :: caps) (· = bv (p a))) :
    PFun Try.prog none none 99 [.list 8 (encL TPosting.cells l), .fn g caps] (· = bv (l.any p)) := by
  refine pfun_intro Try.func99 rfl (by simp [Try.f99]) (by kernel_rfl) ?_
  intro E hP hr hs hW hN
  obtain ⟨w, hw⟩ : ∃ w, w = l.any p := ⟨_, rfl⟩
  rw [← hw]
  have hi : ∀ a, a ∈ [AV.list 8 (encL TPosting.cells l), .fn g caps] → Imm a := fun a ha => by
    simp only [List.mem_cons, List.not_mem_nil, or_false] at ha
    rcases ha with rfl | rfl
    · exact imm_encL _ TPosting.imm _
    · exact imm_fn.2 hcap
  simp -dsimp -implicitDefEqProofs [-getElem?_pos, go_sem, hP]
  refine callB_is ((index_pf_posting l g caps p hl hen hcap hg).lift _ _) hP en_121 hi .sc ?_
  rcases idxI_spec p l with ⟨h1, h2⟩ | ⟨i, a, h1, h2, h3, _⟩
  · have : w = false := by rw [hw]; exact List.any_eq_false.2 fun a ha => by simp [h2 a ha]
    simp -dsimp -implicitDefEqProofs [-getElem?_pos, go_sem, hP, h1, this]
  · have d : decide ((0 : Int) ≤ (i : Int)) = true := decide_eq_true (by omega)
    have : w = true := by rw [hw]; exact List.any_eq_true.2 ⟨a, List.mem_of_getElem? h1, h2⟩
    simp -dsimp -implicitDefEqProofs [-getElem?_pos, go_sem, hP, h3, d, this]

theorem clone_m_posting {row src : Option Nat} (l : List TPosting) (H : Heap) (hl : l.length ≤ 1000000) : MFun Try.prog row src 75 [.list 8 (encL TPosting.cells l)] H (fun r H' => ∃ id, r = .sref id 0 l.length ∧ H.length ≤ id ∧ H'[id]? = some (some ⟨37, 8, encL TPosting.cells l⟩) ∧ Kept [] H H') := by
  have own : MFun Try.prog row src 75 [.list 8 (encL TPosting.cells l)] H (fun r H' => (r = .nil ∧ l = [] ∧ H' = H) ∨ ∃ id, r = .sref id 0 l.length ∧ H.length ≤ id ∧ H'[id]? = some (some ⟨37, 8, encL TPosting.cells l⟩) ∧ Kept [] H H') := by
    cases l with
    | nil =>
      refine mfun_list_nil fun A c => ?_
      refine mfun_intro Try.func75 rfl (by simp [Try.f75]) (by kernel_rfl) ⟨.nil, H, .inl ⟨rfl, rfl, rfl⟩⟩ ?_
      intro E hP hr hs hN
      cases A with
      | none => simp -dsimp -implicitDefEqProofs [-getElem?_pos, go_sem, hP]
      | some a =>
        simp -dsimp -implicitDefEqProofs [-getElem?_pos, go_sem, hP]
        exact kept_app _ _ _
    | cons a l =>
      refine mfun_intro Try.func75 rfl (by simp [Try.f75]) (by kernel_rfl) ⟨_, H ++ [some ⟨37, 8, encL TPosting.cells (a :: l)⟩], .inr ⟨H.length, rfl, Nat.le_refl _, by simp, kept_push _ (kept_refl _ _)⟩⟩ ?_
      intro E hP hr hs hN
      simp only [List.length_cons] at hl
      have e : encL TPosting.cells (a :: l) = TPosting.cells a :: encL TPosting.cells l := rfl
      simp -dsimp -implicitDefEqProofs [-getElem?_pos, go_sem, hP, e]
      refine ⟨by omega, by omega, ?_⟩
      exact kept_app _ _ _
  refine (own.ownNil 37 8).mono ?_
  rintro r H' (⟨H0, h0, rfl, rfl⟩ | ⟨hne, h⟩)
  · rcases h0 with ⟨_, rfl, rfl⟩ | ⟨id, h, _⟩
    · exact ⟨_, rfl, Nat.le_refl _, by simp [encL], kept_push _ (kept_refl _ _)⟩
    · cases h
  · rcases h with ⟨h, _⟩ | h
    · exact absurd h hne
    · exact h

theorem clone_pf_posting (l : List TPosting) (hl : l.length ≤ 1000000) : PFun Try.prog none none 75 [.list 8 (encL TPosting.cells l)] (· = .list 8 (encL TPosting.cells l)) := by
  cases l with
  | nil =>
    refine pfun_list_nil fun A c => ?_
    refine pfun_intro Try.func75 rfl (by simp [Try.f75]) (by kernel_rfl) ?_
    intro E hP hr hs hW hN
    cases A with
    | none =>
      simp -dsimp -implicitDefEqProofs [-getElem?_pos, go_sem, hP]
      exact done_weak .nil (imm_list.2 (by simp)) (.nil _) rfl
    | some a =>
      simp -dsimp -implicitDefEqProofs [-getElem?_pos, go_sem, hP]
      refine done_weak (x := .list 8 []) ?_ (imm_list.2 (by simp)) ?_ rfl
      · simp -dsimp -implicitDefEqProofs [-getElem?_pos, go_sem]
      · simp -dsimp -implicitDefEqProofs [-getElem?_pos, go_sem]
        first | exact .refl _ | skip
  | cons a l =>
    refine pfun_intro Try.func75 rfl (by simp [Try.f75]) (by kernel_rfl) ?_
    intro E hP hr hs hW hN
    simp only [List.length_cons] at hl
    have e : encL TPosting.cells (a :: l) = TPosting.cells a :: encL TPosting.cells l := rfl
    have im : Imm (.list 8 (TPosting.cells a :: encL TPosting.cells l)) := by rw [← e]; exact imm_encL _ TPosting.imm _
    have et : (TPosting.cells a :: encL TPosting.cells l).take (l.length + 1) = TPosting.cells a :: encL TPosting.cells l := by
      rw [← e]
      exact encL_take TPosting.cells (a :: l) _ (by simp)
    simp -dsimp -implicitDefEqProofs [-getElem?_pos, go_sem, hP, e]
    refine ⟨by omega, by omega, ?_⟩
    refine done_weak (x := .list 8 (TPosting.cells a :: encL TPosting.cells l)) ?_ im ?_ rfl
    · simp -dsimp -implicitDefEqProofs [-getElem?_pos, go_sem]
      first | exact im | (have h := imm_list.1 im; simp only [List.mem_cons, forall_eq_or_imp] at h; exact h)
    · simp -dsimp -implicitDefEqProofs [-getElem?_pos, go_sem]
      first | exact .refl _ | skip


end Go.Proofs.Ytellcfkpfccgaaa
