/- Carrying over: lines. -/
import Derived.Test.YtmkhcmiplleghaaGreatDoorCar7
set_option linter.unusedSimpArgs false
set_option linter.unusedVariables false
namespace Go.Proofs.YtmkhcmiplleghaaGreatDoor
open Go.PA
open Go.RowKit

theorem idx_none {α : Type} (p : α → Bool) : ∀ (l : List α) (k : Nat), (∀ a, a ∈ l → p a = false) → idxFrom p k l = -1
  | [], _, _ => rfl
  | a :: l, k, h => by
    simp only [idxFrom]
    rw [h a (by simp), if_neg (by simp)]
    exact idx_none p l (k + 1) fun b hb => h b (by simp [hb])
theorem contO_pf (l : List TOpen) (hl : l.length ≤ 1000000) (h : ∀ x, x ∈ l → OpOk x) : PFun Tryz.prog none none 19 [opensL l, .fn 20 []] (· = bv false) := by
  refine pfun_intro Tryz.func19 rfl (by simp [Tryz.f19]) (by kernel_rfl) ?_
  intro E hP hr hs hW hN
  have ix := index_pf_open l 20 [] (fun _ => false) hl (by kernel_rfl) (by simp) fun a ha => clin1_pf (h a ha)
  rw [idxI, idx_none _ _ _ (fun _ _ => rfl)] at ix
  simp -dsimp -implicitDefEqProofs [-getElem?_pos, go_sem, hP]
  refine callB_pure ix hP en_38 (args_same (by simp only [List.mem_cons, List.not_mem_nil, or_false]; rintro a (rfl | rfl); exact imm_opens l; exact .fn (by simp))) .sc ?_
  simp -dsimp -implicitDefEqProofs [-getElem?_pos, go_sem, hP]
theorem contC_pf (l : List TCarry) (hl : l.length ≤ 1000000) (h : ∀ x, x ∈ l → 0 ≤ x.Amount ∧ x.Amount ≤ 1000000) : PFun Tryz.prog none none 25 [carriesL l, .fn 26 []] (· = bv false) := by
  refine pfun_intro Tryz.func25 rfl (by simp [Tryz.f25]) (by kernel_rfl) ?_
  intro E hP hr hs hW hN
  have ix := index_pf_carry l 26 [] (fun _ => false) hl (by kernel_rfl) (by simp) fun a ha => clin3_pf (h a ha)
  rw [idxI, idx_none _ _ _ (fun _ _ => rfl)] at ix
  simp -dsimp -implicitDefEqProofs [-getElem?_pos, go_sem, hP]
  refine callB_pure ix hP en_43 (args_same (by simp only [List.mem_cons, List.not_mem_nil, or_false]; rintro a (rfl | rfl); exact imm_carries l; exact .fn (by simp))) .sc ?_
  simp -dsimp -implicitDefEqProofs [-getElem?_pos, go_sem, hP]
theorem push_newL {α : Type} {l : List α} {c : α} : (l ++ [c])[l.length]? = some c := by simp
theorem linesOf_succ {A : List TOpen} {k : Nat} {x : TOpen} (hx : A[k]? = some x) : linesOf (A.take (k + 1)) = lineStep (linesOf (A.take k)) x := by
  rw [List.take_add_one, hx]
  simp [linesOf]
set_option maxHeartbeats 8000000 in
theorem clines_pf (l sh : List TOpen) (lp : List TLeft) (hl : l.length ≤ 9) (hok : ∀ x, x ∈ l → OpOk x) :
    ∃ A : List TOpen, A.Perm l ∧ PFun Tryz.prog none none 8 [.agg [opensL l, opensL sh, leftsL lp], iv 4] (· = .tup [carriesL (linesOf A), iv 0]) := by
  obtain ⟨l', hl'⟩ := encO_lift l fun x hx => (hok x hx).cd
  obtain ⟨A, hA⟩ : ∃ A, A = (isort ltO2 l').map Subtype.val := ⟨_, rfl⟩
  have hp : A.Perm l := by rw [hA, ← hl']; exact (isort_permC _ _).map _
  have hAo : ∀ x, x ∈ A → OpOk x := fun x hx => hok x (hp.subset hx)
  have lA : A.length = l.length := hp.length_eq
  refine ⟨A, hp, ?_⟩
  obtain ⟨Q, hQ⟩ : ∃ Q : AV → Prop, Q = (· = .tup [carriesL (linesOf A), iv 0]) := ⟨_, rfl⟩
  rw [← hQ]
  refine pfun_intro Tryz.func8 rfl (by simp [Tryz.f8]) (by kernel_rfl) ?_
  intro E hP hr hs hW hN
  simp -dsimp -implicitDefEqProofs [-getElem?_pos, go_sem, hP]
  refine callB_pure (camong_pf 4 1 100) hP en_18 (args_same (by simp -dsimp -implicitDefEqProofs [-getElem?_pos, go_sem])) .sc ?_
  have d1 : decide ((60 : Int) < (l.length : Int)) = false := decide_eq_false (by omega)
  simp -dsimp -implicitDefEqProofs [-getElem?_pos, go_sem, hP, encL_len, d1]
  refine callB_pure (contO_pf l (by omega) hok) hP en_19 (args_same (by simp only [List.mem_cons, List.not_mem_nil, or_false]; rintro a (rfl | rfl); exact imm_opens l; exact .fn (by simp))) .sc ?_
  simp -dsimp -implicitDefEqProofs [-getElem?_pos, go_sem, hP]
  obtain ⟨H0, hH0⟩ : ∃ H0 : Heap, H0 = [some ⟨30, 3, [[opensL l, opensL sh, leftsL lp]]⟩] := ⟨_, rfl⟩
  rw [← hH0]
  refine callB_m (by rw [hr, hs]; exact clone_m_open l H0 (by omega)) hP (by kernel_rfl) ?_
  rintro r H2 ⟨ia, rfl, hia, hHa, kp⟩
  have sm : MFun Tryz.prog E.row E.src 22 [.sref ia 0 l.length, .fn 23 []] H2 (fun _ H' => H' = H2.set ia (some ⟨42, 5, encL encO (isort ltO2 l')⟩)) :=
    sortStable_m_open encO ltO2 23 cmpOk2 l' H2 ia l.length (by rw [← hl']; simp) (by omega) (by rw [encO_map, hl']; exact hHa)
  simp -dsimp -implicitDefEqProofs [-getElem?_pos, go_sem, hP]
  refine callB_m sm hP (by kernel_rfl) ?_
  rintro r H3 rfl
  have lta := (List.getElem?_eq_some_iff.1 hHa).1
  obtain ⟨H3, hH3⟩ : ∃ H3, H3 = H2.set ia (some ⟨42, 5, encL encO (isort ltO2 l')⟩) := ⟨_, rfl⟩
  rw [← hH3]
  have fa : H3[ia]? = some (some ⟨42, 5, encL TOpen.cells A⟩) := by rw [hH3, List.getElem?_set, if_pos rfl, if_pos lta, encO_map, hA]
  have l3 : ia < H3.length := (List.getElem?_eq_some_iff.1 fa).1
  clear hH3 sm kp hHa lta
  simp -dsimp -implicitDefEqProofs [-getElem?_pos, go_sem, hP, fa, encL_len]
  refine aloop_own 7 40 5 (by simp -dsimp -implicitDefEqProofs [-getElem?_pos, go_sem]) ?_
  obtain ⟨J, hJ⟩ : ∃ I : Nat → St → Prop, I = fun m s => ∃ (k o : Nat), k ≤ A.length ∧ m = A.length - k ∧ ia ≠ o ∧ s.t 1 = iv 4 ∧ s.t 7 = .sref o 0 (linesOf (A.take k)).length ∧ s.t 26 = .sref ia 0 A.length ∧ s.t 27 = iv A.length ∧ s.t 28 = iv k ∧ s.H[ia]? = some (some ⟨42, 5, encL TOpen.cells A⟩) ∧ s.H[o]? = some (some ⟨40, 5, encL TCarry.cells (linesOf (A.take k))⟩) := ⟨_, rfl⟩
  refine aloop0 J (A.length) (by rw [hN]; rfl) ?_ ?_
  · rw [hJ]
    exact ⟨0, H3.length, by omega, by omega, by omega, by simp -dsimp -implicitDefEqProofs [-getElem?_pos, go_sem], by simp -dsimp -implicitDefEqProofs [-getElem?_pos, go_sem, linesOf], by simp -dsimp -implicitDefEqProofs [-getElem?_pos, go_sem, lA], by simp -dsimp -implicitDefEqProofs [-getElem?_pos, go_sem, lA], by simp -dsimp -implicitDefEqProofs [-getElem?_pos, go_sem], by simp -dsimp -implicitDefEqProofs [-getElem?_pos, go_sem, fa, l3, List.getElem?_append], by simp -dsimp -implicitDefEqProofs [-getElem?_pos, go_sem, linesOf, encL_nil]⟩
  intro m s hs'
  rw [hJ] at hs'
  obtain ⟨k, o, hk, hm, hne, t1, t7, t26, t27, t28, ga, go⟩ := hs'
  have lta := (List.getElem?_eq_some_iff.1 ga).1
  have lto := (List.getElem?_eq_some_iff.1 go).1
  obtain ⟨s1, s2, s3⟩ := lines_ok (A.take k) fun x hx => (hAo x (List.mem_of_mem_take hx)).am
  obtain ⟨Z, hZ⟩ : ∃ Z, Z = linesOf (A.take k) := ⟨_, rfl⟩
  rw [← hZ] at t7 go s1 s2 s3
  have tl : (A.take k).length = k := by simp; omega
  rw [tl] at s2 s3
  simp -dsimp -implicitDefEqProofs [-getElem?_pos, go_sem, hP, t28, t27]
  refine condP (fun h => ?_) (fun h => ?_)
  · have hk : k < A.length := by simpa using h
    obtain ⟨x, hx⟩ : ∃ x, A[k]? = some x := ⟨_, List.getElem?_eq_getElem hk⟩
    have am := (hAo x (List.mem_of_getElem? hx)).am
    have wk := wrap_in ((k : Int) + 1) (by omega)
    have hS := linesOf_succ hx
    rw [← hZ] at hS
    obtain ⟨n, hn⟩ : ∃ n, n = s.H.length := ⟨_, rfl⟩
    rw [← hn] at lta lto
    have n1 : ¬ o = n ∧ ¬ ia = n ∧ ¬ o = ia ∧ ¬ ia = o := by omega
    have nxt : ∀ (s' : St) (o' : Nat), ia ≠ o' → s'.t 1 = iv 4 → s'.t 7 = .sref o' 0 (lineStep Z x).length → s'.t 26 = .sref ia 0 A.length → s'.t 27 = iv A.length → s'.t 28 = iv ((k : Int) + 1) → s'.H[ia]? = some (some ⟨42, 5, encL TOpen.cells A⟩) → s'.H[o']? = some (some ⟨40, 5, encL TCarry.cells (lineStep Z x)⟩) → ∃ m', m' < A.length - k ∧ J m' s' := fun s' o' a1 a2 a3 a4 a5 a6 a7 a8 => by
      refine ⟨A.length - (k + 1), by omega, ?_⟩
      rw [hJ]
      exact ⟨k + 1, o', by omega, rfl, a1, a2, by rw [hS]; exact a3, a4, a5, by rw [a6]; simp, a7, by rw [hS]; exact a8⟩
    subst hm
    have w4 : IntKind.i64.wrap 1440 = 1440 := wrap_in _ (by omega)
    have nl2 : (n + 1 < n) = False := by simp
    have n2 : ¬ ia = n + 1 ∧ ¬ o = n + 1 := by omega
    have lts : n < n + 1 ∧ n + 1 < n + 1 + 1 := by omega
    rcases List.eq_nil_or_concat Z with rfl | ⟨L, y, rfl⟩
    · have w1 := wrap_in x.Amount (by omega)
      have w0 : IntKind.i64.wrap 1 = 1 := wrap_in 1 (by omega)
      have w00 : IntKind.i64.wrap 0 = 0 := wrap_in 0 (by omega)
      simp -dsimp -implicitDefEqProofs [-getElem?_pos, go_sem, hP, t26, t28, ga, hx, cOpn, t7, go, encL_len, encL_nil, hk, ← hn, lta, lto, List.getElem?_append]
      refine adrawB (fun _ => true) [] hP (by kernel_rfl) (by kernel_rfl) ?_
      simp -dsimp -implicitDefEqProofs [-getElem?_pos, go_sem, hP, t7, t1, go, lto, ← hn, n1, w4, w0, List.getElem?_append, List.getElem?_set]
      refine adrawB (fun _ => true) [12] hP (by kernel_rfl) (by kernel_rfl) ?_
      simp -dsimp -implicitDefEqProofs [-getElem?_pos, go_sem, hP, ← hn, n1, w0, w00, w1, w4, nl2, List.getElem?_append, List.getElem?_set, t28, wk]
      have e : lineStep [] x = [⟨1, 1440, x.Code, 4, x.Amount⟩] := rfl
      refine nxt _ (n + 1) (by omega) (by simp -dsimp -implicitDefEqProofs [-getElem?_pos, go_sem, t1]) (by simp -dsimp -implicitDefEqProofs [-getElem?_pos, go_sem, e]) (by simp -dsimp -implicitDefEqProofs [-getElem?_pos, go_sem, t26]) (by simp -dsimp -implicitDefEqProofs [-getElem?_pos, go_sem, t27]) (by simp -dsimp -implicitDefEqProofs [-getElem?_pos, go_sem]) ?_ ?_
      all_goals dsimp only
      all_goals simp [-getElem?_pos, List.getElem?_append, List.getElem?_set, ← hn, lta, lto, n1, n2, nl2, ga, go, e, encL, cCry] <;> rfl
    · rw [List.concat_eq_append] at *
      simp only [List.length_append, List.length_singleton] at t7 s3
      have wL := wrap_in ((L.length : Int) + 1 - 1) (by omega)
      rw [Int.add_sub_cancel] at wL
      have hy := s2 y (by simp)
      have wy := wrap_in (y.Amount + x.Amount) (by omega)
      have gy : (encL TCarry.cells (L ++ [y]))[L.length]? = some y.cells := by simp [encL]
      have d0 : decide ((L.length : Int) + 1 = 0) = false := decide_eq_false (by omega)
      have dl : ((L.length : Int) < (L.length : Int) + 1) = True := eq_true (by omega)
      by_cases hc : y.Code = x.Code
      · have e : lineStep (L ++ [y]) x = L ++ [{ y with Amount := y.Amount + x.Amount }] := by simp [lineStep, hc]
        simp -dsimp -implicitDefEqProofs [-getElem?_pos, go_sem, hP, t26, t28, ga, hx, cOpn, t7, go, encL_len, hk, ← hn, lta, lto, List.getElem?_append]
        refine adrawB (fun _ => true) [] hP (by kernel_rfl) (by kernel_rfl) ?_
        simp -dsimp -implicitDefEqProofs [-getElem?_pos, go_sem, hP, t7, go, lto, ← hn, n1, w4, d0, dl, hc, Int.add_sub_cancel, wL, gy, cCry, List.getElem?_append, List.getElem?_set]
        refine adrawB (fun _ => true) [12] hP (by kernel_rfl) (by kernel_rfl) ?_
        simp -dsimp -implicitDefEqProofs [-getElem?_pos, go_sem, hP, t7, go, lto, ← hn, n1, w4, d0, dl, wy, encL_len, Int.add_sub_cancel, wL, gy, cCry, List.getElem?_append, List.getElem?_set, t28, wk]
        refine nxt _ o (by omega) (by simp -dsimp -implicitDefEqProofs [-getElem?_pos, go_sem, t1]) (by simp -dsimp -implicitDefEqProofs [-getElem?_pos, go_sem, t7, e]) (by simp -dsimp -implicitDefEqProofs [-getElem?_pos, go_sem, t26]) (by simp -dsimp -implicitDefEqProofs [-getElem?_pos, go_sem, t27]) (by simp -dsimp -implicitDefEqProofs [-getElem?_pos, go_sem]) ?_ ?_
        · dsimp only
          simp [-getElem?_pos, List.getElem?_append, List.getElem?_set, ← hn, lta, lto, n1, n2, nl2, ga, go]
        · dsimp only
          rw [e]
          have es : (encL TCarry.cells (L ++ [y])).set L.length [iv y.Number, iv y.Day, .sc (.string y.Code), iv y.Year, iv (y.Amount + x.Amount)] = encL TCarry.cells (L ++ [{ y with Amount := y.Amount + x.Amount }]) := by
            simp [encL, cCry]
          simp [-getElem?_pos, List.getElem?_append, List.getElem?_set, ← hn, lta, lto, n1, n2, nl2, ga, go, es]
          try rfl
      · have e : lineStep (L ++ [y]) x = L ++ [y] ++ [⟨(L.length : Int) + 1 + 1, 1440, x.Code, 4, x.Amount⟩] := by simp [lineStep, hc]
        have wL2 := wrap_in ((L.length : Int) + 1 + 1) (by omega)
        have wL3 := wrap_in ((L.length : Int) + 1 + 1 - 1) (by omega)
        rw [Int.add_sub_cancel] at wL3
        have wx := wrap_in (0 + x.Amount) (by omega)
        have wx2 := wrap_in x.Amount (by omega)
        have ll1 : (encL TCarry.cells (L ++ [y])).length = L.length + 1 := by simp [encL]
        have d3 : ((0 : Int) ≤ (L.length : Int) + 1 ∧ (L.length : Int) < (L.length : Int) + 1) = True := eq_true (by omega)
        have gy2 : ∀ c : List AV, (encL TCarry.cells (L ++ [y]) ++ [c])[L.length + 1]? = some c := fun c => by rw [← ll1]; exact push_newL
        have gs2 : ∀ c c' : List AV, (encL TCarry.cells (L ++ [y]) ++ [c]).set (L.length + 1) c' = encL TCarry.cells (L ++ [y]) ++ [c'] := fun c c' => by rw [← ll1, List.set_append_right _ _ (Nat.le_refl _)]; simp
        simp -dsimp -implicitDefEqProofs [-getElem?_pos, go_sem, hP, t26, t28, ga, hx, cOpn, t7, go, encL_len, hk, ← hn, lta, lto, List.getElem?_append]
        refine adrawB (fun _ => true) [] hP (by kernel_rfl) (by kernel_rfl) ?_
        simp -dsimp -implicitDefEqProofs [-getElem?_pos, go_sem, hP, t7, t1, go, lto, ← hn, n1, w4, d0, dl, hc, Int.add_sub_cancel, wL, wL2, gy, cCry, List.getElem?_append, List.getElem?_set]
        refine ⟨by omega, by omega, ?_⟩
        refine adrawB (fun _ => true) [12] hP (by kernel_rfl) (by kernel_rfl) ?_
        simp -dsimp -implicitDefEqProofs [-getElem?_pos, go_sem, hP, ← hn, n1, nl2, w4, wL3, wx, wx2, d3, gs2, encL_len, Int.add_sub_cancel, cCry, List.getElem?_append, List.getElem?_set, List.length_append, List.length_singleton, Nat.lt_irrefl, Nat.sub_self, List.getElem?_cons_zero, t28, wk]
        refine nxt _ (n + 1) (by omega) (by simp -dsimp -implicitDefEqProofs [-getElem?_pos, go_sem, t1]) (by simp -dsimp -implicitDefEqProofs [-getElem?_pos, go_sem, e]) (by simp -dsimp -implicitDefEqProofs [-getElem?_pos, go_sem, t26]) (by simp -dsimp -implicitDefEqProofs [-getElem?_pos, go_sem, t27]) (by simp -dsimp -implicitDefEqProofs [-getElem?_pos, go_sem]) ?_ ?_
        all_goals dsimp only
        · simp [-getElem?_pos, List.getElem?_append, List.getElem?_set, ← hn, lta, lto, n1, n2, nl2, ga, go]
        · rw [e]
          simp [-getElem?_pos, List.getElem?_append, List.getElem?_set, ← hn, lta, lto, n1, n2, nl2, encL, cCry]
          rfl
  · have hk : k = A.length := by simp at h; omega
    subst hk
    rw [List.take_length] at hZ
    have fin : PFun Tryz.prog none none 25 [carriesL Z, .fn 26 []] (· = bv false) := contC_pf Z (by omega) fun x hx => by
      have := s2 x hx
      omega
    simp -dsimp -implicitDefEqProofs [-getElem?_pos, go_sem, hP, t7]
    refine callB_pure fin hP en_25 (args_sref go (by rw [encL_len]) (imm_carries Z) (args_imm (.fn (by simp)) .nil)) .sc ?_
    simp -dsimp -implicitDefEqProofs [-getElem?_pos, go_sem, hP]
    refine done (x := .tup [carriesL Z, iv 0]) ?_ (by rw [hQ, hZ]) ?_
    · simp [go_sem, t7, go, encL]
      intro a _
      exact TCarry.imm a
    · have lt := (List.getElem?_eq_some_iff.1 go).1
      simp [go_sem, carriesL, t7, go, encL]
end Go.Proofs.YtmkhcmiplleghaaGreatDoor
