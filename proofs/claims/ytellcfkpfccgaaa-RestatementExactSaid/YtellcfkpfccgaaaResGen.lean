/- Restatement: histories that the source makes. -/
import Derived.Test.YtellcfkpfccgaaaRes10
import Derived.Test.YtellcfkpfccgaaaLedGen
set_option linter.unusedSimpArgs false
set_option linter.unusedVariables false
namespace Go.Proofs.Ytellcfkpfccgaaa
open Go.PA
open Go.RowKit

/-- A correction that the source makes. -/
structure GenCorr (found : Int) (c : TCorrection) : Prop where
  found : c.Found = found
  year : 0 ≤ c.Year ∧ c.Year ≤ 2
  len : 1 ≤ c.Postings.length ∧ c.Postings.length ≤ 3
  all : ∀ p, p ∈ c.Postings → PostOk p ∧ 360 * c.Year ≤ p.Day ∧ p.Day ≤ 360 * c.Year + 359
theorem GenCorr.ok {found : Int} {c : TCorrection} (h : GenCorr found c) (hf : 1080 ≤ found ∧ found ≤ 36000) : CorrOk c :=
  ⟨by have := h.year; omega, by have := h.year; have := h.found; omega, by have := h.len; omega, h.all⟩
theorem genc_ex (found : Int) : ∃ r, (∃ c : TCorrection, r = AV.agg c.cells ∧ GenCorr found c) ∧ Imm r :=
  ⟨_, ⟨⟨0, found, [⟨1, 0, 1, 110, 111, 1, 0, 0⟩]⟩, rfl, ⟨rfl, by simp, by simp, fun p hp => by
    simp at hp
    subst hp
    exact ⟨⟨by simp, by simp, by simp, by simp, by simp, by simp, by simp, by simp, by simp, by simp⟩, by simp, by simp⟩⟩⟩, imm_corr _⟩
def RQ (lo hi : Int) (x : AV) : Prop := ∃ m : Int, x = iv m ∧ lo ≤ m ∧ m ≤ hi
theorem RQ_ex {lo hi : Int} (h : lo ≤ hi) : ∃ r, RQ lo hi r ∧ Imm r := ⟨_, ⟨lo, rfl, by omega, h⟩, .sc⟩
theorem rangeQ_pf (p : Nat) (src : Option Nat) (lo hi : Int) (h1 : -1000000000000000000 ≤ lo ∧ lo ≤ hi) (h2 : hi ≤ 1000000000000000000) : PFun Try.prog (some p) src 61 [sp p, iv lo, iv hi] (RQ lo hi) :=
  (range_pf p src lo hi (by omega) (by omega)).mono fun x h => by
    obtain ⟨m, rfl, h3, _⟩ := h
    exact ⟨m, rfl, h3 h1.2⟩
theorem N_exI (n : Int) : ∃ r, NQ n r ∧ Imm r := ⟨_, ⟨0, rfl, fun _ => rfl, fun h => by omega⟩, .sc⟩

set_option maxHeartbeats 1000000 in
theorem gcorr_pf (p : Nat) (src : Option Nat) (found : Int) : PFun Try.prog (some p) src 31 [sp p, iv found] (fun x => ∃ c : TCorrection, x = .agg c.cells ∧ GenCorr found c) := by
  refine pfun_intro Try.func31 rfl (by simp [Try.f31]) (by kernel_rfl) ?_
  intro E hP hr hs hW hN
  have up : ∀ {f : FuncId} {args : List AV} {Q : AV → Prop}, PFun Try.prog (some p) src f args Q → PFun Try.prog E.row E.src f args Q := fun h => hr ▸ hs ▸ h
  simp -dsimp -implicitDefEqProofs [-getElem?_pos, go_sem, hP]
  refine callB_isQ (up (rangeQ_pf p src 0 2 (by omega) (by omega))) hP en_61 (by simp [go_sem]) (RQ_ex (by omega)) ?_
  rintro r ⟨y, rfl, hy⟩ _
  have wy := wrap_in (360 * y) (by omega)
  simp -dsimp -implicitDefEqProofs [-getElem?_pos, go_sem, hP]
  refine callB_isQ (up (rangeQ_pf p src 1 3 (by omega) (by omega))) hP en_61 (by simp [go_sem]) (RQ_ex (by omega)) ?_
  rintro r ⟨k, rfl, hk⟩ _
  obtain ⟨k, rfl⟩ := Int.eq_ofNat_of_zero_le (show 0 ≤ k by omega)
  simp -dsimp -implicitDefEqProofs [-getElem?_pos, go_sem, hP]
  obtain ⟨I, hI⟩ : ∃ I : Nat → St → Prop, I = fun m s => ∃ (q : List TPosting) (x : AV), q.length + m = k ∧ (∀ p, p ∈ q → PostOk p ∧ 360 * y ≤ p.Day ∧ p.Day ≤ 360 * y + 359) ∧ s.t 0 = sp p ∧ s.t 4 = .ref 0 0 0 ∧ s.t 5 = .ref 1 0 0 ∧ s.t 6 = iv m ∧ s.H[0]? = some (some ⟨66, 3, [[iv 0, iv 0, .nil]]⟩) ∧ s.H[1]? = some (some ⟨66, 3, [[iv y, iv found, x]]⟩) ∧ Grown 2 s.H x 37 8 (encL TPosting.cells q) := ⟨_, rfl⟩
  refine aloop0 I (k) (by rw [hN]; rfl) ?_ ?_
  · rw [hI]
    exact ⟨[], .nil, by simp, by simp, by simp -dsimp -implicitDefEqProofs [-getElem?_pos, go_sem], by simp -dsimp -implicitDefEqProofs [-getElem?_pos, go_sem], by simp -dsimp -implicitDefEqProofs [-getElem?_pos, go_sem], by simp -dsimp -implicitDefEqProofs [-getElem?_pos, go_sem], by simp -dsimp -implicitDefEqProofs [-getElem?_pos, go_sem], by simp -dsimp -implicitDefEqProofs [-getElem?_pos, go_sem], .inl ⟨rfl, rfl⟩⟩
  intro m s hs'
  rw [hI] at hs'
  obtain ⟨q, x, hq, hall, t0, t4, t5, t6, h0, h1, hg⟩ := hs'
  have lt0 := (List.getElem?_eq_some_iff.1 h0).1
  have lt1 := (List.getElem?_eq_some_iff.1 h1).1
  simp -dsimp -implicitDefEqProofs [-getElem?_pos, go_sem, hP, t6]
  refine condP (fun hh => ?_) (fun hh => ?_)
  · have hm0 : 0 < m := by simpa using hh
    have wm := wrap_in ((m : Int) - 1) (by omega)
    simp -dsimp -implicitDefEqProofs [-getElem?_pos, go_sem, hP]
    refine adrawQ (fun i => decide (i = 1)) [15] [4, 9, 11] hP (by kernel_rfl) (by kernel_rfl) ?_
    simp -dsimp -implicitDefEqProofs [-getElem?_pos, go_sem, hP, restr_get, t0, t5, h1, lt1]
    refine callQ_isQ (up (rangeQ_pf p src 1 9 (by omega) (by omega))) hP en_61 (by simp [go_sem]) (RQ_ex (by omega)) ?_
    rintro r ⟨num, rfl, hnum⟩ _
    simp -dsimp -implicitDefEqProofs [-getElem?_pos, go_sem, hP, restr_get, t0, t5, h1, lt1, wy]
    refine callQ_isQ (up (N_pf p src 360 (by omega))) hP en_35 (by simp [go_sem]) (N_exI _) ?_
    rintro r ⟨z, rfl, _, hz⟩ _
    have hz := hz (by omega)
    have wz := wrap_in (360 * y + z) (by omega)
    simp -dsimp -implicitDefEqProofs [-getElem?_pos, go_sem, hP, wz]
    refine callQ_isQ (up (gposting_pf p src num (360 * y + z) 2 (by omega))) hP en_19 (by simp [go_sem]) (genp_ex _ _ _ (by omega)) ?_
    rintro r ⟨w, rfl, hw⟩ _
    have wok := hw.ok (by omega) (by omega) (by omega)
    have hall' : ∀ p, p ∈ q ++ [w] → PostOk p ∧ 360 * y ≤ p.Day ∧ p.Day ≤ 360 * y + 359 := fun p hp => by
      rcases List.mem_append.1 hp with hp | hp
      · exact hall p hp
      · simp at hp; subst hp
        exact ⟨wok, by rw [hw.day]; omega⟩
    have en : encL TPosting.cells q ++ [[iv w.Number, iv w.Day, iv w.Entity, iv w.Debit, iv w.Credit, iv w.Amount, iv w.Partner, iv w.Ref]] = encL TPosting.cells (q ++ [w]) := encL_snoc TPosting.cells q w
    rcases hg with ⟨rfl, hg⟩ | ⟨jd, h2, rfl, hg⟩
    · simp -dsimp -implicitDefEqProofs [-getElem?_pos, go_sem, hP, cP, restr_get, t5, h1, lt1, t6, wm]
      refine ⟨fun i hi => ?_, ?_⟩
      · simp only [decide_eq_true_eq] at hi
        subst hi
        rw [List.getElem?_append_left lt1]
      refine ⟨m - 1, by omega, ?_⟩
      rw [hI]
      refine ⟨q ++ [w], .sref s.H.length 0 1, by simp; omega, hall', by simp -dsimp -implicitDefEqProofs [-getElem?_pos, go_sem, t0], by simp -dsimp -implicitDefEqProofs [-getElem?_pos, go_sem, t4], by simp -dsimp -implicitDefEqProofs [-getElem?_pos, go_sem, t5], ?_, by simp -dsimp -implicitDefEqProofs [-getElem?_pos, go_sem, lt0, h0], by simp -dsimp -implicitDefEqProofs [-getElem?_pos, go_sem, lt1], .inr ⟨s.H.length, by omega, ?_, ?_⟩⟩
      · simp -dsimp -implicitDefEqProofs [-getElem?_pos, go_sem]
        omega
      · rw [← en, hg]; rfl
      · rw [← en, hg]
        simp -dsimp -implicitDefEqProofs [-getElem?_pos, go_sem]
    · have lj := (List.getElem?_eq_some_iff.1 hg).1
      have j0 : ¬ jd = 0 := by omega
      have j1 : ¬ jd = 1 := by omega
      have ql : (encL TPosting.cells q).length = q.length := by rw [encL_len]
      simp -dsimp -implicitDefEqProofs [-getElem?_pos, go_sem, hP, cP, restr_get, t5, h1, lt1, t6, wm, hg, lj, j1]
      refine ⟨by omega, by omega, fun i hi => ?_, ?_⟩
      · simp only [decide_eq_true_eq] at hi
        subst hi
        rw [List.getElem?_append_left (by simp; omega), List.getElem?_set_ne j1]
      refine ⟨m - 1, by omega, ?_⟩
      rw [hI]
      refine ⟨q ++ [w], .sref s.H.length 0 (q.length + 1), by simp; omega, hall', by simp -dsimp -implicitDefEqProofs [-getElem?_pos, go_sem, t0], by simp -dsimp -implicitDefEqProofs [-getElem?_pos, go_sem, t4], by simp -dsimp -implicitDefEqProofs [-getElem?_pos, go_sem, t5], ?_, by simp -dsimp -implicitDefEqProofs [-getElem?_pos, go_sem, lt0, h0, j0], by simp -dsimp -implicitDefEqProofs [-getElem?_pos, go_sem, lt1, j1], .inr ⟨s.H.length, by omega, ?_, ?_⟩⟩
      · simp -dsimp -implicitDefEqProofs [-getElem?_pos, go_sem]
        omega
      · rw [encL_len]; simp
      · rw [← en]
        simp -dsimp -implicitDefEqProofs [-getElem?_pos, go_sem]
  · have hm0 : m = 0 := by simpa using hh
    have hc := hg.cellish
    simp -dsimp -implicitDefEqProofs [-getElem?_pos, go_sem, hP, t5, h1, lt1, t4, h0, lt0, hc]
    refine done_agg (cs' := (TCorrection.mk y found q).cells) (cw_imm .sc (cw_imm .sc ((hg.kept (X := [0]) (kept_set _ (by simp) (kept_refl _ _)) (by simp)).cw (imm_posts q) .nil))) ?_
    exact ⟨⟨y, found, q⟩, rfl, rfl, hy, by dsimp only; omega, hall⟩
end Go.Proofs.Ytellcfkpfccgaaa
