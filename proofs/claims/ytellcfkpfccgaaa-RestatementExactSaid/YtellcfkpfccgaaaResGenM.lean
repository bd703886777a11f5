/- Restatement: a correction that the source makes, its postings the caller's. -/
import Derived.Test.YtellcfkpfccgaaaResGen
set_option linter.unusedSimpArgs false
set_option linter.unusedVariables false
namespace Go.Proofs.Ytellcfkpfccgaaa
open Go.PA
open Go.RowKit

def GcorrM (found : Int) (H : Heap) (r : AV) (H' : Heap) : Prop := ∃ (y : Int) (q : List TPosting) (id : Nat), r = .agg [iv y, iv found, .sref id 0 q.length] ∧ 1 ≤ q.length ∧ q.length ≤ 3 ∧ H.length ≤ id ∧ H'[id]? = some (some ⟨37, 8, encL TPosting.cells q⟩) ∧ Kept [] H H'
set_option maxHeartbeats 1000000 in
theorem gcorr_m (p : Nat) (src : Option Nat) (found : Int) (H : Heap) : MFun Try.prog (some p) src 31 [sp p, iv found] H (GcorrM found H) := by
  obtain ⟨C, hC⟩ : ∃ C, C = GcorrM found H := ⟨_, rfl⟩
  rw [← hC]
  have ex : ∃ r H', C r H' := by
    rw [hC]
    exact ⟨.agg [iv 0, iv found, .sref H.length 0 1], H ++ [some ⟨37, 8, encL TPosting.cells [⟨1, 0, 1, 110, 111, 1, 0, 0⟩]⟩], 0, [⟨1, 0, 1, 110, 111, 1, 0, 0⟩], H.length, rfl, by simp, by simp, Nat.le_refl _, by simp, kept_app _ _ _⟩
  refine mfun_intro Try.func31 rfl (by simp [Try.f31]) (by kernel_rfl) (ex) ?_
  intro E hP hr hs hN
  have up : ∀ {f : FuncId} {args : List AV} {Q : AV → Prop}, PFun Try.prog (some p) src f args Q → PFun Try.prog E.row E.src f args Q := fun h => hr ▸ hs ▸ h
  simp -dsimp -implicitDefEqProofs [-getElem?_pos, go_sem, hP]
  refine callB_isQ (up (rangeQ_pf p src 0 2 (by omega) (by omega))) hP en_61 (by simp [go_sem]) (RQ_ex (by omega)) ?_
  rintro r ⟨y, rfl, hy⟩ _
  have wy := wrap_in (360 * y) (by omega)
  simp -dsimp -implicitDefEqProofs [-getElem?_pos, go_sem, hP]
  refine callB_isQ (up (rangeQ_pf p src 1 3 (by omega) (by omega))) hP en_61 (by simp [go_sem]) (RQ_ex (by omega)) ?_
  rintro r ⟨k, rfl, hk⟩ _
  obtain ⟨k, rfl⟩ := Int.eq_ofNat_of_zero_le (show 0 ≤ k by omega)
  obtain ⟨n0, hn0⟩ : ∃ n0, n0 = H.length := ⟨_, rfl⟩
  simp -dsimp -implicitDefEqProofs [-getElem?_pos, go_sem, hP]
  obtain ⟨I, hI⟩ : ∃ I : Nat → St → Prop, I = fun m s => ∃ (q : List TPosting) (x : AV), q.length + m = k ∧ s.t 0 = sp p ∧ s.t 4 = .ref n0 0 0 ∧ s.t 5 = .ref (n0 + 1) 0 0 ∧ s.t 6 = iv m ∧ s.H[n0]? = some (some ⟨66, 3, [[iv 0, iv 0, .nil]]⟩) ∧ s.H[n0 + 1]? = some (some ⟨66, 3, [[iv y, iv found, x]]⟩) ∧ Grown (n0 + 2) s.H x 37 8 (encL TPosting.cells q) ∧ Kept [] H s.H := ⟨_, rfl⟩
  refine aloop0 I (k) (by rw [hN]; rfl) ?_ ?_
  · rw [hI]
    exact ⟨[], .nil, by simp, by simp -dsimp -implicitDefEqProofs [-getElem?_pos, go_sem], by simp -dsimp -implicitDefEqProofs [-getElem?_pos, go_sem, hn0], by simp -dsimp -implicitDefEqProofs [-getElem?_pos, go_sem, hn0], by simp -dsimp -implicitDefEqProofs [-getElem?_pos, go_sem], by simp -dsimp -implicitDefEqProofs [-getElem?_pos, go_sem, hn0], by simp -dsimp -implicitDefEqProofs [-getElem?_pos, go_sem, hn0], .inl ⟨rfl, rfl⟩, by simp -dsimp -implicitDefEqProofs [-getElem?_pos, go_sem]; exact kept_app _ _ _⟩
  intro m s hs'
  rw [hI] at hs'
  obtain ⟨q, x, hq, t0, t4, t5, t6, h0, h1, hg, hK⟩ := hs'
  have lt0 := (List.getElem?_eq_some_iff.1 h0).1
  have lt1 := (List.getElem?_eq_some_iff.1 h1).1
  simp -dsimp -implicitDefEqProofs [-getElem?_pos, go_sem, hP, t6]
  refine condP (fun hh => ?_) (fun hh => ?_)
  · have hm0 : 0 < m := by simpa using hh
    have wm := wrap_in ((m : Int) - 1) (by omega)
    have n01 : ¬ n0 + 1 = n0 := by omega
    simp -dsimp -implicitDefEqProofs [-getElem?_pos, go_sem, hP]
    refine adrawQ (fun i => decide (i = n0 + 1)) [15] [4, 9, 11] hP (by kernel_rfl) (by kernel_rfl) ?_
    simp -dsimp -implicitDefEqProofs [-getElem?_pos, go_sem, hP, restr_get, t0, t5, h1, lt1]
    refine callQ_isQ (up (rangeQ_pf p src 1 9 (by omega) (by omega))) hP en_61 (by simp [go_sem]) (RQ_ex (by omega)) ?_
    rintro r ⟨num, rfl, hnum⟩ _
    simp -dsimp -implicitDefEqProofs [-getElem?_pos, go_sem, hP, restr_get, t0, t5, h1, lt1, wy]
    refine callQ_isQ (up (N_pf p src 360 (by omega))) hP en_35 (by simp [go_sem]) (N_exI _) ?_
    rintro r ⟨z, rfl, _, hz⟩ _
    have hz := hz (by omega)
    have wz := wrap_in (360 * y + z) (by omega)
    simp -dsimp -implicitDefEqProofs [-getElem?_pos, go_sem, hP, wz]
    refine callQ_isQ (up (gposting_pf p src num (360 * y + z) 2 (by omega))) hP en_19 (by simp [go_sem]) (genp_ex _ _ _ (by omega)) ?_
    rintro r ⟨w, rfl, hw⟩ _
    have en : encL TPosting.cells q ++ [[iv w.Number, iv w.Day, iv w.Entity, iv w.Debit, iv w.Credit, iv w.Amount, iv w.Partner, iv w.Ref]] = encL TPosting.cells (q ++ [w]) := encL_snoc TPosting.cells q w
    rcases hg with ⟨rfl, hg⟩ | ⟨jd, h2, rfl, hg⟩
    · simp -dsimp -implicitDefEqProofs [-getElem?_pos, go_sem, hP, cP, restr_get, t5, h1, lt1, t6, wm]
      refine ⟨fun i hi => ?_, ?_⟩
      · simp only [decide_eq_true_eq] at hi
        subst hi
        rw [List.getElem?_append_left lt1]
      refine ⟨m - 1, by omega, ?_⟩
      rw [hI]
      refine ⟨q ++ [w], .sref s.H.length 0 1, by simp; omega, by simp -dsimp -implicitDefEqProofs [-getElem?_pos, go_sem, t0], by simp -dsimp -implicitDefEqProofs [-getElem?_pos, go_sem, t4], by simp -dsimp -implicitDefEqProofs [-getElem?_pos, go_sem, t5], ?_, by simp -dsimp -implicitDefEqProofs [-getElem?_pos, go_sem, lt0, h0, n01], by simp -dsimp -implicitDefEqProofs [-getElem?_pos, go_sem, lt1], .inr ⟨s.H.length, by omega, ?_, ?_⟩, ?_⟩
      · simp -dsimp -implicitDefEqProofs [-getElem?_pos, go_sem]
        omega
      · rw [← en, hg]; rfl
      · rw [← en, hg]
        simp -dsimp -implicitDefEqProofs [-getElem?_pos, go_sem]
      · simp -dsimp -implicitDefEqProofs [-getElem?_pos, go_sem]
        exact (kept_new _ (by omega) hK).trans (kept_app _ _ _)
    · have lj := (List.getElem?_eq_some_iff.1 hg).1
      have j0 : ¬ jd = n0 := by omega
      have j1 : ¬ jd = n0 + 1 := by omega
      simp -dsimp -implicitDefEqProofs [-getElem?_pos, go_sem, hP, cP, restr_get, t5, h1, lt1, t6, wm, hg, lj, j1]
      refine ⟨by omega, by omega, fun i hi => ?_, ?_⟩
      · simp only [decide_eq_true_eq] at hi
        subst hi
        rw [List.getElem?_append_left (by simp; omega), List.getElem?_set_ne j1]
      refine ⟨m - 1, by omega, ?_⟩
      rw [hI]
      refine ⟨q ++ [w], .sref s.H.length 0 (q.length + 1), by simp; omega, by simp -dsimp -implicitDefEqProofs [-getElem?_pos, go_sem, t0], by simp -dsimp -implicitDefEqProofs [-getElem?_pos, go_sem, t4], by simp -dsimp -implicitDefEqProofs [-getElem?_pos, go_sem, t5], ?_, by simp -dsimp -implicitDefEqProofs [-getElem?_pos, go_sem, lt0, h0, j0, n01], by simp -dsimp -implicitDefEqProofs [-getElem?_pos, go_sem, lt1, j1], .inr ⟨s.H.length, by omega, ?_, ?_⟩, ?_⟩
      · simp -dsimp -implicitDefEqProofs [-getElem?_pos, go_sem]
        omega
      · rw [encL_len]; simp
      · rw [← en]
        simp -dsimp -implicitDefEqProofs [-getElem?_pos, go_sem]
      · simp -dsimp -implicitDefEqProofs [-getElem?_pos, go_sem]
        exact (kept_new _ (by omega) (kept_new _ (by omega) hK)).trans (kept_app _ _ _)
  · have hm0 : m = 0 := by simpa using hh
    have hc := hg.cellish
    rcases hg with ⟨rfl, hg⟩ | ⟨jd, h2, rfl, hg⟩
    · exfalso
      have := congrArg List.length hg
      rw [encL_len, List.length_nil] at this
      omega
    · simp -dsimp -implicitDefEqProofs [-getElem?_pos, go_sem, hP, t5, h1, lt1, t4, h0, lt0, hc]
      rw [hC]
      refine ⟨y, q, jd, rfl, by omega, by omega, by omega, ?_, kept_new _ (by omega) hK⟩
      rw [List.getElem?_set_ne (by omega), hg]
end Go.Proofs.Ytellcfkpfccgaaa
