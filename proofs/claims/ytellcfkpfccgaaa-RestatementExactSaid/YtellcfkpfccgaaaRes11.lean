/- Restatement: the reference's Same. -/
import Derived.Test.YtellcfkpfccgaaaRes10
set_option linter.unusedSimpArgs false
set_option linter.unusedVariables false
namespace Go.Proofs.Ytellcfkpfccgaaa
open Go.PA
open Go.RowKit

set_option maxHeartbeats 1000000 in
theorem same44_pf (a b : THistory) (ha : Fit a) (hb : Fit b) : PFun Try.prog none none 47 [.agg a.cells, .agg b.cells] (· = bv (decide (a = b))) := by
  refine pfun_intro Try.func47 rfl (by simp [Try.f47]) (by kernel_rfl) ?_
  intro E hP hr hs hW hN
  obtain ⟨⟨pa⟩, qa, ca⟩ := a
  obtain ⟨⟨pb⟩, qb, cb⟩ := b
  obtain ⟨a1, a2, a3, a4⟩ := ha
  obtain ⟨b1, b2, b3, b4⟩ := hb
  simp only at a1 a2 a3 a4 b1 b2 b3 b4
  obtain ⟨R, hR⟩ : ∃ R, R = decide ((⟨⟨pa⟩, qa, ca⟩ : THistory) = ⟨⟨pb⟩, qb, cb⟩) := ⟨_, rfl⟩
  have hb : ¬ (pa = pb ∧ qa = qb ∧ ca = cb) → R = false := fun e => by
    rw [hR]
    refine decide_eq_false fun e' => e ?_
    simp only [THistory.mk.injEq, TLedger.mk.injEq] at e'
    exact e'
  have hg : pa = pb → qa = qb → ca = cb → R = true := fun e1 e2 e3 => by
    subst e1 e2 e3
    rw [hR]
    exact decide_eq_true rfl
  rw [← hR]
  have ipa := imm_posts pa
  have ipb := imm_posts pb
  simp -dsimp -implicitDefEqProofs [-getElem?_pos, go_sem, hP, cH]
  refine callB_is ((listEq_pf_posts40 pa pb a1 b1).lift _ _) hP en_65 (by simp [ipa, ipb]) .sc ?_
  by_cases c1 : pa = pb
  rotate_left
  · have := hb fun e => c1 e.1
    simp -dsimp -implicitDefEqProofs [-getElem?_pos, go_sem, hP, c1, this]
  by_cases c2 : qa.length = qb.length
  rotate_left
  · have := hb fun e => c2 (by rw [e.2.1])
    have d2 : decide ((qa.length : Int) = (qb.length : Int)) = false := decide_eq_false (by omega)
    simp -dsimp -implicitDefEqProofs [-getElem?_pos, go_sem, hP, c1, d2, this]
  have d2 : decide ((qa.length : Int) = (qb.length : Int)) = true := decide_eq_true (by omega)
  by_cases c3 : ca.length = cb.length
  rotate_left
  · have := hb fun e => c3 (by rw [e.2.2])
    have d3 : decide ((ca.length : Int) = (cb.length : Int)) = false := decide_eq_false (by omega)
    simp -dsimp -implicitDefEqProofs [-getElem?_pos, go_sem, hP, c1, d2, d3, this]
  have d3 : decide ((ca.length : Int) = (cb.length : Int)) = true := decide_eq_true (by omega)
  subst c1
  simp -dsimp -implicitDefEqProofs [-getElem?_pos, go_sem, hP, d2, d3]
  obtain ⟨I, hI⟩ : ∃ I : Nat → St → Prop, I = fun m s => ∃ (k : Nat), k ≤ qa.length ∧ m = qa.length - k ∧ qa.take k = qb.take k ∧ s.t 2 = .ref 0 0 0 ∧ s.t 3 = .ref 1 0 0 ∧ s.t 36 = presL qa ∧ s.t 37 = iv qa.length ∧ s.t 38 = iv k ∧ s.H[0]? = some (some ⟨56, 3, [[postsL pa, presL qa, corrsL ca]]⟩) ∧ s.H[1]? = some (some ⟨56, 3, [[postsL pa, presL qb, corrsL cb]]⟩) := ⟨_, rfl⟩
  refine aloop0 I (qa.length) (by rw [hN]; rfl) ?_ ?_
  · rw [hI]
    exact ⟨0, by omega, by omega, rfl, by simp -dsimp -implicitDefEqProofs [-getElem?_pos, go_sem], by simp -dsimp -implicitDefEqProofs [-getElem?_pos, go_sem], by simp -dsimp -implicitDefEqProofs [-getElem?_pos, go_sem], by simp -dsimp -implicitDefEqProofs [-getElem?_pos, go_sem], by simp -dsimp -implicitDefEqProofs [-getElem?_pos, go_sem], by simp -dsimp -implicitDefEqProofs [-getElem?_pos, go_sem], by simp -dsimp -implicitDefEqProofs [-getElem?_pos, go_sem]⟩
  intro m s hs'
  rw [hI] at hs'
  obtain ⟨k, hk, hm, hq, t2, t3, t36, t37, t38, h0, h1⟩ := hs'
  have lt0 := (List.getElem?_eq_some_iff.1 h0).1
  have lt1 := (List.getElem?_eq_some_iff.1 h1).1
  simp -dsimp -implicitDefEqProofs [-getElem?_pos, go_sem, hP, t37, t38]
  refine condP (fun hh => ?_) (fun hh => ?_)
  · have hk : k < qa.length := by simpa using hh
    obtain ⟨x, hx⟩ : ∃ x, qa[k]? = some x := ⟨_, List.getElem?_eq_getElem hk⟩
    obtain ⟨y, hy⟩ : ∃ y, qb[k]? = some y := ⟨_, List.getElem?_eq_getElem (by omega)⟩
    have wk := wrap_in ((k : Int) + 1) (by omega)
    have tx : qa.take (k + 1) = qa.take k ++ [x] := by rw [List.take_add_one, hx]; rfl
    have ty : qb.take (k + 1) = qb.take k ++ [y] := by rw [List.take_add_one, hy]; rfl
    simp -dsimp -implicitDefEqProofs [-getElem?_pos, go_sem, hP, t38]
    refine adrawB (fun _ => true) [] hP (by kernel_rfl) (by kernel_rfl) ?_
    by_cases hxy : x = y
    · subst hxy
      simp -dsimp -implicitDefEqProofs [-getElem?_pos, go_sem, hP, t2, t3, h0, h1, lt0, lt1, hx, hy, cPr, t38, wk]
      refine ⟨qa.length - (k + 1), by omega, ?_⟩
      rw [hI]
      exact ⟨k + 1, by omega, rfl, by rw [tx, ty, hq], by simp -dsimp -implicitDefEqProofs [-getElem?_pos, go_sem, t2], by simp -dsimp -implicitDefEqProofs [-getElem?_pos, go_sem, t3], by simp -dsimp -implicitDefEqProofs [-getElem?_pos, go_sem, t36], by simp -dsimp -implicitDefEqProofs [-getElem?_pos, go_sem, t37], by simp -dsimp -implicitDefEqProofs [-getElem?_pos, go_sem], by simp -dsimp -implicitDefEqProofs [-getElem?_pos, go_sem, h0], by simp -dsimp -implicitDefEqProofs [-getElem?_pos, go_sem, h1]⟩
    · have hne : R = false := hb fun e => by
        have := e.2.1
        subst this
        rw [hx] at hy
        exact hxy (Option.some.inj hy)
      simp -dsimp -implicitDefEqProofs [-getElem?_pos, go_sem, hP, t2, t3, h0, h1, lt0, lt1, hx, hy, cPr, t38, wk]
      refine condP (fun h => ?_) (fun h => ?_)
      · simp -dsimp -implicitDefEqProofs [-getElem?_pos, go_sem, hP, hne]
      · refine absurd ?_ hxy
        obtain ⟨_, _, ⟨_, _, _, _, _⟩⟩ := x
        obtain ⟨_, _, ⟨_, _, _, _, _⟩⟩ := y
        simp at h
        simp [h]
  have hk : k = qa.length := by simp at hh; omega
  subst hk
  rw [List.take_length] at hq
  rw [c2, List.take_length] at hq
  subst hq
  clear hI
  simp -dsimp -implicitDefEqProofs [-getElem?_pos, go_sem, hP, t2, h0, lt0]
  obtain ⟨J, hJ⟩ : ∃ I : Nat → St → Prop, I = fun m s => ∃ (k : Nat), k ≤ ca.length ∧ m = ca.length - k ∧ ca.take k = cb.take k ∧ s.t 2 = .ref 0 0 0 ∧ s.t 3 = .ref 1 0 0 ∧ s.t 54 = corrsL ca ∧ s.t 55 = iv ca.length ∧ s.t 56 = iv k ∧ s.H[0]? = some (some ⟨56, 3, [[postsL pa, presL qa, corrsL ca]]⟩) ∧ s.H[1]? = some (some ⟨56, 3, [[postsL pa, presL qa, corrsL cb]]⟩) := ⟨_, rfl⟩
  refine aloop0 J (ca.length) (by rw [hN]; rfl) ?_ ?_
  · rw [hJ]
    exact ⟨0, by omega, by omega, rfl, by simp -dsimp -implicitDefEqProofs [-getElem?_pos, go_sem, t2], by simp -dsimp -implicitDefEqProofs [-getElem?_pos, go_sem, t3], by simp -dsimp -implicitDefEqProofs [-getElem?_pos, go_sem], by simp -dsimp -implicitDefEqProofs [-getElem?_pos, go_sem], by simp -dsimp -implicitDefEqProofs [-getElem?_pos, go_sem], by simp -dsimp -implicitDefEqProofs [-getElem?_pos, go_sem, h0], by simp -dsimp -implicitDefEqProofs [-getElem?_pos, go_sem, h1]⟩
  clear t2 t3 t36 t37 t38 h0 h1 lt0 lt1 hh
  intro m s hs'
  rw [hJ] at hs'
  obtain ⟨k, hk, hm, hq, t2, t3, t54, t55, t56, h0, h1⟩ := hs'
  have lt0 := (List.getElem?_eq_some_iff.1 h0).1
  have lt1 := (List.getElem?_eq_some_iff.1 h1).1
  simp -dsimp -implicitDefEqProofs [-getElem?_pos, go_sem, hP, t55, t56]
  refine condP (fun hh => ?_) (fun hh => ?_)
  rotate_left
  · have hk : k = ca.length := by simp at hh; omega
    subst hk
    rw [List.take_length] at hq
    rw [c3, List.take_length] at hq
    simp -dsimp -implicitDefEqProofs [-getElem?_pos, go_sem, hP, hg rfl rfl hq]
  have hk : k < ca.length := by simpa using hh
  obtain ⟨x, hx⟩ : ∃ x, ca[k]? = some x := ⟨_, List.getElem?_eq_getElem hk⟩
  obtain ⟨y, hy⟩ : ∃ y, cb[k]? = some y := ⟨_, List.getElem?_eq_getElem (by omega)⟩
  have wk := wrap_in ((k : Int) + 1) (by omega)
  have tx : ca.take (k + 1) = ca.take k ++ [x] := by rw [List.take_add_one, hx]; rfl
  have ty : cb.take (k + 1) = cb.take k ++ [y] := by rw [List.take_add_one, hy]; rfl
  have lx := a4 x (List.mem_of_getElem? hx)
  have ly := b4 y (List.mem_of_getElem? hy)
  have bad : ¬ x = y → R = false := fun hxy => hb fun e => by
    have := e.2.2
    subst this
    rw [hx] at hy
    exact hxy (Option.some.inj hy)
  have le := listEq_pf_posts40 x.Postings y.Postings lx ly
  have ix := imm_posts x.Postings
  have iy := imm_posts y.Postings
  obtain ⟨n, hn⟩ : ∃ n, n = s.H.length := ⟨_, rfl⟩
  have hn1 : 1 < n := hn ▸ lt1
  obtain ⟨Inv, hInv⟩ : ∃ Inv : St → Prop, Inv = fun s => ∃ (p q : Nat), s.t 2 = .ref 0 0 0 ∧ s.t 3 = .ref 1 0 0 ∧ s.t 54 = corrsL ca ∧ s.t 55 = iv ca.length ∧ s.t 56 = iv k ∧ s.t 7 = .ref p 0 0 ∧ s.t 8 = .ref q 0 0 ∧ s.H[0]? = some (some ⟨56, 3, [[postsL pa, presL qa, corrsL ca]]⟩) ∧ s.H[1]? = some (some ⟨56, 3, [[postsL pa, presL qa, corrsL cb]]⟩) ∧ s.H[p]? = some (some ⟨66, 3, [[iv x.Year, iv x.Found, postsL x.Postings]]⟩) ∧ s.H[q]? = some (some ⟨66, 3, [[iv y.Year, iv y.Found, postsL y.Postings]]⟩) := ⟨_, rfl⟩
  simp -dsimp -implicitDefEqProofs [-getElem?_pos, go_sem, hP, t56]
  have aD : ∀ (X : Heap), s.H.length ≤ X.length → X[0]? = s.H[0]? → X[1]? = s.H[1]? → ∀ l, Agree (fun i => decide (i < 2)) X (X ++ l) := fun X hX _ _ l i hi => by
    simp only [decide_eq_true_eq] at hi
    rw [List.getElem?_append_left (by omega)]
  refine adraw_cut Inv ?_ ?_
  · refine adrawK (fun i => decide (i < 2)) [] [] 10 hP (by kernel_rfl) (by kernel_rfl) (by simp) ?_
    simp -dsimp -implicitDefEqProofs [-getElem?_pos, go_sem, hP, List.take_succ_cons, List.take_zero, restr_get, t2, t3, h0, h1, lt0, lt1, hx, hy, cC]
    have aE : ∀ l l', Agree (fun i => decide (i < 2)) (s.H ++ l) (s.H ++ l') := fun l l' i hi => by
      simp only [decide_eq_true_eq] at hi
      rw [List.getElem?_append_left (by omega), List.getElem?_append_left (by omega)]
    have aE0 : ∀ l, Agree (fun i => decide (i < 2)) s.H (s.H ++ l) := fun l => by
      have := aE [] l
      rwa [List.append_nil] at this
    have fin : ∀ (p q : Nat) (s' : St) (l : Heap), s'.H = s.H ++ l → s'.t 2 = .ref 0 0 0 → s'.t 3 = .ref 1 0 0 → s'.t 54 = corrsL ca → s'.t 55 = iv ca.length → s'.t 56 = iv k → s'.t 7 = .ref p 0 0 → s'.t 8 = .ref q 0 0 → s'.H[p]? = some (some ⟨66, 3, [[iv x.Year, iv x.Found, postsL x.Postings]]⟩) → s'.H[q]? = some (some ⟨66, 3, [[iv y.Year, iv y.Found, postsL y.Postings]]⟩) → Inv s' := fun p q s' l e0 e1 e2 e3 e4 e5 e6 e7 e8 e9 => by
      rw [hInv]
      refine ⟨p, q, e1, e2, e3, e4, e5, e6, e7, ?_, ?_, e8, e9⟩
      · rw [e0, List.getElem?_append_left lt0, h0]
      · rw [e0, List.getElem?_append_left lt1, h1]
    refine xany_two (i := 10) (j := 11) (by kernel_rfl) rfl rfl ?_ ?_
    · simp -dsimp -implicitDefEqProofs [-getElem?_pos, go_sem, hP]
      refine ⟨aE0 _, ?_⟩
      refine xany_one (i := 11) (by kernel_rfl) rfl ?_
      simp -dsimp -implicitDefEqProofs [-getElem?_pos, go_sem, hP]
      refine ⟨aE _ _, ?_⟩
      refine xany_one (i := 12) (by kernel_rfl) rfl ?_
      simp -dsimp -implicitDefEqProofs [-getElem?_pos, go_sem, hP]
      refine ⟨aE _ _, ?_⟩
      refine xany_one (i := 13) (by kernel_rfl) rfl ?_
      simp -dsimp -implicitDefEqProofs [-getElem?_pos, go_sem, hP]
      refine ⟨aE _ _, ?_⟩
      refine xany_nil (by kernel_rfl) ?_
      exact fin s.H.length (s.H.length + 1) _ _ rfl (by simp -dsimp -implicitDefEqProofs [-getElem?_pos, go_sem, t2]) (by simp -dsimp -implicitDefEqProofs [-getElem?_pos, go_sem, t3]) (by simp -dsimp -implicitDefEqProofs [-getElem?_pos, go_sem, t54]) (by simp -dsimp -implicitDefEqProofs [-getElem?_pos, go_sem, t55]) (by simp -dsimp -implicitDefEqProofs [-getElem?_pos, go_sem, t56]) (by simp -dsimp -implicitDefEqProofs [-getElem?_pos, go_sem]) (by simp -dsimp -implicitDefEqProofs [-getElem?_pos, go_sem]) (by simp -dsimp -implicitDefEqProofs [-getElem?_pos, go_sem]) (by simp -dsimp -implicitDefEqProofs [-getElem?_pos, go_sem])
    · simp -dsimp -implicitDefEqProofs [-getElem?_pos, go_sem, hP]
      refine ⟨aE0 _, ?_⟩
      refine xany_one (i := 10) (by kernel_rfl) rfl ?_
      simp -dsimp -implicitDefEqProofs [-getElem?_pos, go_sem, hP]
      refine ⟨aE _ _, ?_⟩
      refine xany_one (i := 12) (by kernel_rfl) rfl ?_
      simp -dsimp -implicitDefEqProofs [-getElem?_pos, go_sem, hP]
      refine ⟨aE _ _, ?_⟩
      refine xany_one (i := 13) (by kernel_rfl) rfl ?_
      simp -dsimp -implicitDefEqProofs [-getElem?_pos, go_sem, hP]
      refine ⟨aE _ _, ?_⟩
      refine xany_nil (by kernel_rfl) ?_
      exact fin (s.H.length + 1) s.H.length _ _ rfl (by simp -dsimp -implicitDefEqProofs [-getElem?_pos, go_sem, t2]) (by simp -dsimp -implicitDefEqProofs [-getElem?_pos, go_sem, t3]) (by simp -dsimp -implicitDefEqProofs [-getElem?_pos, go_sem, t54]) (by simp -dsimp -implicitDefEqProofs [-getElem?_pos, go_sem, t55]) (by simp -dsimp -implicitDefEqProofs [-getElem?_pos, go_sem, t56]) (by simp -dsimp -implicitDefEqProofs [-getElem?_pos, go_sem]) (by simp -dsimp -implicitDefEqProofs [-getElem?_pos, go_sem]) (by simp -dsimp -implicitDefEqProofs [-getElem?_pos, go_sem]) (by simp -dsimp -implicitDefEqProofs [-getElem?_pos, go_sem])
  clear t2 t3 t54 t55 t56 h0 h1 lt0 lt1 aD hn
  rw [hInv]
  rintro s ⟨p, q, t2, t3, t54, t55, t56, t7, t8, h0, h1, hp, hq'⟩
  have ltp := (List.getElem?_eq_some_iff.1 hp).1
  have ltq := (List.getElem?_eq_some_iff.1 hq').1
  by_cases c4 : x.Year = y.Year
  rotate_left
  · have d4 := decide_eq_false c4
    have hne := bad fun e => c4 (by rw [e])
    simp -dsimp -implicitDefEqProofs [-getElem?_pos, go_sem, hP, t7, hp, ltp, t8, hq', ltq, d4, c4, hne]
  by_cases c5 : x.Found = y.Found
  rotate_left
  · have d5 := decide_eq_false c5
    have hne := bad fun e => c5 (by rw [e])
    simp -dsimp -implicitDefEqProofs [-getElem?_pos, go_sem, hP, t7, hp, ltp, t8, hq', ltq, c4, d5, c5, hne]
  simp -dsimp -implicitDefEqProofs [-getElem?_pos, go_sem, hP, t7, hp, ltp, t8, hq', ltq, c4, c5]
  refine callB_is (le.lift _ _) hP en_65 (by simp [ix, iy]) .sc ?_
  by_cases c6 : x.Postings = y.Postings
  · have hxy : x = y := by
      cases x; cases y
      simp only at c4 c5 c6
      subst c4 c5 c6
      rfl
    rw [decide_eq_true c6]
    simp -dsimp -implicitDefEqProofs [-getElem?_pos, go_sem, hP, t56, wk]
    refine ⟨ca.length - (k + 1), by omega, ?_⟩
    rw [hJ]
    exact ⟨k + 1, by omega, rfl, by rw [tx, ty, hq, hxy], by simp -dsimp -implicitDefEqProofs [-getElem?_pos, go_sem, t2], by simp -dsimp -implicitDefEqProofs [-getElem?_pos, go_sem, t3], by simp -dsimp -implicitDefEqProofs [-getElem?_pos, go_sem, t54], by simp -dsimp -implicitDefEqProofs [-getElem?_pos, go_sem, t55], by simp -dsimp -implicitDefEqProofs [-getElem?_pos, go_sem], by simp -dsimp -implicitDefEqProofs [-getElem?_pos, go_sem, h0], by simp -dsimp -implicitDefEqProofs [-getElem?_pos, go_sem, h1]⟩
  · have hne := bad fun e => c6 (by rw [e])
    rw [decide_eq_false c6]
    simp -dsimp -implicitDefEqProofs [-getElem?_pos, go_sem, hP, hne]
end Go.Proofs.Ytellcfkpfccgaaa
