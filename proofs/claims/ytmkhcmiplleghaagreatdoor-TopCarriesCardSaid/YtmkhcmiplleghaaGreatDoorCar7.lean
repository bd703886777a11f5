/- Carrying over: covering. -/
import Derived.Test.YtmkhcmiplleghaaGreatDoorCar6
import Derived.Test.YtmkhcmiplleghaaGreatDoorPaCell
set_option linter.unusedSimpArgs false
set_option linter.unusedVariables false
namespace Go.Proofs.YtmkhcmiplleghaaGreatDoor
open Go.PA
open Go.RowKit

theorem clone_m_open {row src : Option Nat} (l : List TOpen) (H : Heap) (hl : l.length ≤ 1000000) : MFun Tryz.prog row src 15 [.list 5 (encL TOpen.cells l)] H (fun r H' => ∃ id, r = .sref id 0 l.length ∧ H.length ≤ id ∧ H'[id]? = some (some ⟨42, 5, encL TOpen.cells l⟩) ∧ Kept [] H H') := by
  have own : MFun Tryz.prog row src 15 [.list 5 (encL TOpen.cells l)] H (fun r H' => (r = .nil ∧ l = [] ∧ H' = H) ∨ ∃ id, r = .sref id 0 l.length ∧ H.length ≤ id ∧ H'[id]? = some (some ⟨42, 5, encL TOpen.cells l⟩) ∧ Kept [] H H') := by
    cases l with
    | nil =>
      refine mfun_list_nil fun A c => ?_
      refine mfun_intro Tryz.func15 rfl (by simp [Tryz.f15]) (by kernel_rfl) ⟨.nil, H, .inl ⟨rfl, rfl, rfl⟩⟩ ?_
      intro E hP hr hs hN
      cases A with
      | none => simp -dsimp -implicitDefEqProofs [-getElem?_pos, go_sem, hP]
      | some a =>
        simp -dsimp -implicitDefEqProofs [-getElem?_pos, go_sem, hP]
        exact kept_app _ _ _
    | cons a l =>
      refine mfun_intro Tryz.func15 rfl (by simp [Tryz.f15]) (by kernel_rfl) ⟨_, H ++ [some ⟨42, 5, encL TOpen.cells (a :: l)⟩], .inr ⟨H.length, rfl, Nat.le_refl _, by simp, kept_push _ (kept_refl _ _)⟩⟩ ?_
      intro E hP hr hs hN
      simp only [List.length_cons] at hl
      have e : encL TOpen.cells (a :: l) = TOpen.cells a :: encL TOpen.cells l := rfl
      simp -dsimp -implicitDefEqProofs [-getElem?_pos, go_sem, hP, e]
      refine ⟨by omega, by omega, ?_⟩
      exact kept_app _ _ _
  refine (own.ownNil 42 5).mono ?_
  rintro r H' (⟨H0, h0, rfl, rfl⟩ | ⟨hne, h⟩)
  · rcases h0 with ⟨_, rfl, rfl⟩ | ⟨id, h, _⟩
    · exact ⟨_, rfl, Nat.le_refl _, by simp [encL], kept_push _ (kept_refl _ _)⟩
    · cases h
  · rcases h with ⟨h, _⟩ | h
    · exact absurd h hne
    · exact h

theorem smRest : SMap Tryz.prog 53 (.sc (valI 0)) := ⟨9, 3, by kernel_rfl, by kernel_rfl⟩
theorem lkRest {ty k : Nat} (r : Rest) (c : ByteArray) : alookO Tryz.prog 53 (some (some ⟨ty, k, encG kS valI r⟩)) (.sc (.string c)) false = some (iv (restAt r c)) := alookO_S smRest
theorem upRest {H : Heap} {id ty k : Nat} (r : Rest) (c : ByteArray) (v : Int) : aupdO Tryz.prog 53 id H (some (some ⟨ty, k, encG kS valI r⟩)) (.sc (.string c)) (iv v) = some (H.set id (some ⟨ty, k, encG kS valI (putG r c v)⟩)) := aupdO_S smRest
abbrev carO (a b c : AV) : AObj := ⟨30, 3, [[a, b, c]]⟩
theorem rins_permC {α : Type} (lt : α → α → Bool) (x : α) : ∀ l : List α, (rins lt x l).Perm (x :: l)
  | [] => .refl _
  | y :: ys => by
    simp only [rins]
    split
    · exact ((rins_permC lt x ys).cons y).trans (.swap x y ys)
    · exact .refl _
theorem rsort_permC {α : Type} (lt : α → α → Bool) : ∀ l acc : List α, (l.foldl (fun acc x => rins lt x acc) acc).Perm (l ++ acc)
  | [], acc => .refl _
  | x :: l, acc => by
    rw [List.foldl_cons]
    refine (rsort_permC lt l _).trans ?_
    refine ((rins_permC lt x acc).append_left l).trans ?_
    exact List.perm_middle
theorem isort_permC {α : Type} (lt : α → α → Bool) (l : List α) : (isort lt l).Perm l := by
  refine (List.reverse_perm _).trans ?_
  have := rsort_permC lt l []
  rwa [List.append_nil] at this

abbrev carSt (A : List TOpen) (left : List TLeft) (k : Nat) : CarrySt := (A.take k).foldl carryStep ⟨restOf left, [], []⟩
theorem carSt_succ {A : List TOpen} {left : List TLeft} {k : Nat} {x : TOpen} (hx : A[k]? = some x) : carSt A left (k + 1) = carryStep (carSt A left k) x := by
  unfold carSt
  rw [List.take_add_one, hx]
  simp
theorem carSt_ok {A : List TOpen} {left : List TLeft} (hA : ∀ x, x ∈ A → OpOk x) (hf : GenLf 4 left) : ∀ k, k ≤ A.length → ∃ done, CarryOk (left.map (·.Code)) (sumLf left) done k (carSt A left k)
  | 0, _ => ⟨0, carry_start left hf.nodup fun x hx => by
      have := hf.am x hx
      simp only [List.mem_cons, List.not_mem_nil, or_false] at this
      omega⟩
  | k + 1, h => by
    obtain ⟨d, hd⟩ := carSt_ok hA hf k (by omega)
    obtain ⟨x, hx⟩ : ∃ x, A[k]? = some x := ⟨_, List.getElem?_eq_getElem (by omega)⟩
    rw [carSt_succ hx]
    exact ⟨_, carryStep_ok hf.nodup hd (hA x (List.mem_of_getElem? hx))⟩
theorem lapsed_snoc (r : Rest) (l : List TLeft) (x : TLeft) : lapsedOf r (l ++ [x]) = lapsedOf r l ++ (if 0 < restAt r x.Code then [⟨x.Code, restAt r x.Code⟩] else []) := by
  simp only [lapsedOf, List.filter_append, List.map_append]
  congr 1
  by_cases h : 0 < restAt r x.Code
  · simp [h]
  · simp [h]
set_option maxHeartbeats 8000000 in
theorem carry_pf (l : List TOpen) (left : List TLeft) (hg : GenOps l) (hl : l.length ≤ 9) (hf : GenLf 4 left) :
    ∃ A : List TOpen, A.Perm l ∧ PFun Tryz.prog none none 7 [opensL l, leftsL left] (fun x => ∃ t : CarrySt, t = carSt A left A.length ∧ x = .tup [.agg [opensL t.c, opensL t.s, leftsL (lapsedOf t.r left)], iv 0]) := by
  have hcd : ∀ x, x ∈ l → OpOk x := fun x hx => by
    obtain ⟨i, hi⟩ := List.getElem?_of_mem hx
    exact (hg.ok hl hi).1
  obtain ⟨l', hl'⟩ := encO_lift l fun x hx => (hcd x hx).cd
  obtain ⟨A, hA⟩ : ∃ A, A = (isort ltO1 l').map Subtype.val := ⟨_, rfl⟩
  have hp : A.Perm l := by rw [hA, ← hl']; exact (isort_permC _ _).map _
  have hAo : ∀ x, x ∈ A → OpOk x := fun x hx => hcd x (hp.subset hx)
  have lA : A.length = l.length := hp.length_eq
  have ll := hf.sub.length_le
  rw [List.length_map, List.length_take] at ll
  refine ⟨A, hp, ?_⟩
  obtain ⟨Q, hQ⟩ : ∃ Q : AV → Prop, Q = fun x => ∃ t : CarrySt, t = carSt A left A.length ∧ x = .tup [.agg [opensL t.c, opensL t.s, leftsL (lapsedOf t.r left)], iv 0] := ⟨_, rfl⟩
  rw [← hQ]
  refine pfun_intro Tryz.func7 rfl (by simp [Tryz.f7]) (by kernel_rfl) ?_
  intro E hP hr hs hW hN
  simp -dsimp -implicitDefEqProofs [-getElem?_pos, go_sem, hP]
  refine callB_pure (ccheck_pf l left hg hl hf) hP en_14 (args_same (by simp only [List.mem_cons, List.not_mem_nil, or_false]; rintro a (rfl | rfl); exact imm_opens l; exact imm_lefts left)) .sc ?_
  simp -dsimp -implicitDefEqProofs [-getElem?_pos, go_sem, hP, encL_len]
  obtain ⟨I, hI⟩ : ∃ I : Nat → St → Prop, I = fun m s => ∃ k : Nat, k ≤ left.length ∧ m = left.length - k ∧ s.t 0 = opensL l ∧ s.t 1 = leftsL left ∧ s.t 4 = .ref 0 0 0 ∧ s.t 7 = .mref 1 ∧ s.t 27 = leftsL left ∧ s.t 28 = iv left.length ∧ s.t 29 = iv k ∧ s.H[0]? = some (some (carO .nil .nil .nil)) ∧ s.H[1]? = some (some ⟨0, 2, encG kS valI (restOf (left.take k))⟩) := ⟨_, rfl⟩
  refine aloop0 I (left.length) (by rw [hN]; rfl) ?_ ?_
  · rw [hI]
    exact ⟨0, by omega, by omega, by simp -dsimp -implicitDefEqProofs [-getElem?_pos, go_sem], by simp -dsimp -implicitDefEqProofs [-getElem?_pos, go_sem], by simp -dsimp -implicitDefEqProofs [-getElem?_pos, go_sem], by simp -dsimp -implicitDefEqProofs [-getElem?_pos, go_sem], by simp -dsimp -implicitDefEqProofs [-getElem?_pos, go_sem], by simp -dsimp -implicitDefEqProofs [-getElem?_pos, go_sem, encL_len], by simp -dsimp -implicitDefEqProofs [-getElem?_pos, go_sem], by simp -dsimp -implicitDefEqProofs [-getElem?_pos, go_sem], by simp -dsimp -implicitDefEqProofs [-getElem?_pos, go_sem, encG, restOf]⟩
  intro m s hs'
  rw [hI] at hs'
  obtain ⟨k, hk, hm, t0, t1, t4, t7, t27, t28, t29, h0, h1⟩ := hs'
  have lt1 := (List.getElem?_eq_some_iff.1 h1).1
  simp -dsimp -implicitDefEqProofs [-getElem?_pos, go_sem, hP, t29, t28]
  refine condP (fun h => ?_) (fun h => ?_)
  · have hk : k < left.length := by simpa using h
    obtain ⟨x, hx⟩ : ∃ x, left[k]? = some x := ⟨_, List.getElem?_eq_getElem hk⟩
    have wk := wrap_in ((k : Int) + 1) (by omega)
    have tk : left.take (k + 1) = left.take k ++ [x] := by rw [List.take_add_one, hx]; rfl
    have n1 : ¬ s.H.length = 1 := by omega
    simp -dsimp -implicitDefEqProofs [-getElem?_pos, go_sem, hP, t27, t29, hx, cLft, t7, h1, lt1, upRest, wk, n1, List.getElem?_append]
    refine ⟨left.length - (k + 1), by omega, ?_⟩
    rw [hI]
    refine ⟨k + 1, by omega, rfl, by simp -dsimp -implicitDefEqProofs [-getElem?_pos, go_sem, t0], by simp -dsimp -implicitDefEqProofs [-getElem?_pos, go_sem, t1], by simp -dsimp -implicitDefEqProofs [-getElem?_pos, go_sem, t4], by simp -dsimp -implicitDefEqProofs [-getElem?_pos, go_sem, t7], by simp -dsimp -implicitDefEqProofs [-getElem?_pos, go_sem, t27], by simp -dsimp -implicitDefEqProofs [-getElem?_pos, go_sem, t28], by simp -dsimp -implicitDefEqProofs [-getElem?_pos, go_sem], ?_, ?_⟩
    · dsimp only
      rw [List.getElem?_append_left (by simp; omega), List.getElem?_set_ne (by omega)]
      exact h0
    · dsimp only
      rw [List.getElem?_append_left (by simpa using lt1), List.getElem?_set, if_pos rfl, if_pos lt1, tk, restOf_snoc]
  · have hk : k = left.length := by simp at h; omega
    subst hk
    rw [List.take_length] at h1
    clear hI
    simp -dsimp -implicitDefEqProofs [-getElem?_pos, go_sem, hP, t0]
    refine callB_m (by rw [hr, hs]; exact clone_m_open l s.H (by omega)) hP (by kernel_rfl) ?_
    rintro r H2 ⟨ia, rfl, hia, hHa, kp⟩
    have g0 := kp _ _ (by simp) h0
    have g1 := kp _ _ (by simp) h1
    have sm := sortF_m (row := E.row) (src := E.src) l' H2 ia l.length (by rw [← hl']; simp) (by omega) (by rw [encO_map, hl']; exact hHa)
    simp -dsimp -implicitDefEqProofs [-getElem?_pos, go_sem, hP]
    refine callB_m sm hP (by kernel_rfl) ?_
    rintro r H3 rfl
    have lta := (List.getElem?_eq_some_iff.1 hHa).1
    obtain ⟨H3, hH3⟩ : ∃ H3, H3 = H2.set ia (some ⟨42, 5, encL encO (isort ltO1 l')⟩) := ⟨_, rfl⟩
    rw [← hH3]
    have f0 : H3[0]? = some (some (carO .nil .nil .nil)) := by rw [hH3, List.getElem?_set_ne (by omega)]; exact g0
    have f1 : H3[1]? = some (some ⟨0, 2, encG kS valI (restOf left)⟩) := by rw [hH3, List.getElem?_set_ne (by omega)]; exact g1
    have fa : H3[ia]? = some (some ⟨42, 5, encL TOpen.cells A⟩) := by rw [hH3, List.getElem?_set, if_pos rfl, if_pos lta, encO_map, hA]
    have l3 : ia < H3.length := (List.getElem?_eq_some_iff.1 fa).1
    clear hH3 sm kp g0 g1 hHa lta
    have fa' : ∀ r : Heap, (H3 ++ r)[ia]? = some (some ⟨42, 5, encL TOpen.cells A⟩) := fun r => by rw [List.getElem?_append_left l3]; exact fa
    simp -dsimp -implicitDefEqProofs [-getElem?_pos, go_sem, hP, fa', encL_len]
    refine aloop_owncell (o := H3.length) (ty := 30) (k := 3) (cs := [.nil, .nil, .nil]) 0 42 5 (by exact push_new) (by decide) (by simp) rfl ?_
    refine aloop_owncell (o := H3.length) (ty := 30) (k := 3) (cs := [.sref (H3.length + 1) 0 0, .nil, .nil]) 1 42 5 (by simp) (by decide) (by simp) rfl ?_
    refine aloop_owncell (o := H3.length) (ty := 30) (k := 3) (cs := [.sref (H3.length + 1) 0 0, .sref (H3.length + 2) 0 0, .nil]) 2 38 2 (by simp) (by decide) (by simp) rfl ?_
    obtain ⟨o, ho⟩ : ∃ o, o = H3.length := ⟨_, rfl⟩
    obtain ⟨J, hJ⟩ : ∃ I : Nat → St → Prop, I = fun m s => ∃ (k i1 i2 : Nat) (t : CarrySt), k ≤ A.length ∧ m = A.length - k ∧ t = carSt A left k ∧ o + 3 = o + 3 ∧ (o < i1 ∧ o < i2 ∧ i1 ≠ i2 ∧ i1 ≠ o + 3 ∧ i2 ≠ o + 3) ∧ s.t 1 = leftsL left ∧ s.t 4 = .ref 0 0 0 ∧ s.t 7 = .mref 1 ∧ s.t 11 = .ref o 0 0 ∧ s.t 43 = .sref ia 0 A.length ∧ s.t 44 = iv A.length ∧ s.t 45 = iv k ∧ s.H[0]? = some (some (carO .nil .nil .nil)) ∧ s.H[1]? = some (some ⟨0, 2, encG kS valI t.r⟩) ∧ s.H[ia]? = some (some ⟨42, 5, encL TOpen.cells A⟩) ∧ s.H[o]? = some (some (carO (.sref i1 0 t.c.length) (.sref i2 0 t.s.length) (.sref (o + 3) 0 0))) ∧ s.H[i1]? = some (some ⟨42, 5, encL TOpen.cells t.c⟩) ∧ s.H[i2]? = some (some ⟨42, 5, encL TOpen.cells t.s⟩) ∧ s.H[o + 3]? = some (some ⟨38, 2, []⟩) := ⟨_, rfl⟩
    refine aloop0 J (A.length) (by rw [hN]; rfl) ?_ ?_
    · rw [hJ]
      have go : ∀ (j : Nat) (x : Option AObj), H3[j]? = some x → j < o := fun j x h => by rw [ho]; exact (List.getElem?_eq_some_iff.1 h).1
      have o0 := go 0 _ f0
      have o1 := go 1 _ f1
      have oa := go ia _ fa
      refine ⟨0, o + 1, o + 2, ⟨restOf left, [], []⟩, by omega, by omega, rfl, rfl, by omega, by simp -dsimp -implicitDefEqProofs [-getElem?_pos, go_sem, t1], by simp -dsimp -implicitDefEqProofs [-getElem?_pos, go_sem, t4], by simp -dsimp -implicitDefEqProofs [-getElem?_pos, go_sem, t7], by simp -dsimp -implicitDefEqProofs [-getElem?_pos, go_sem, ho], by simp -dsimp -implicitDefEqProofs [-getElem?_pos, go_sem, lA], by simp -dsimp -implicitDefEqProofs [-getElem?_pos, go_sem, lA], by simp -dsimp -implicitDefEqProofs [-getElem?_pos, go_sem], ?_, ?_, ?_, ?_, ?_, ?_, ?_⟩
      all_goals simp [-getElem?_pos, List.getElem?_append, List.getElem?_set, ← ho, o0, o1, oa, f0, f1, fa, encL_nil, Nat.ne_of_lt o0, Nat.ne_of_lt o1]
      all_goals rfl
    have h1a : 1 < ia := by omega
    have hao : ia < o := by omega
    clear ho
    intro m s hs'
    rw [hJ] at hs'
    obtain ⟨k, i1, i2, t, hk, hm, ht, _, hd, t1, t4, t7, t11, t43, t44, t45, g0, g1, ga, go, gi1, gi2, gi3⟩ := hs'
    obtain ⟨done, ok⟩ := carSt_ok hAo hf k hk
    rw [← ht] at ok
    have lt1 := (List.getElem?_eq_some_iff.1 g1).1
    have lta := (List.getElem?_eq_some_iff.1 ga).1
    have lto := (List.getElem?_eq_some_iff.1 go).1
    have lti1 := (List.getElem?_eq_some_iff.1 gi1).1
    have lti2 := (List.getElem?_eq_some_iff.1 gi2).1
    have lti3 := (List.getElem?_eq_some_iff.1 gi3).1
    simp -dsimp -implicitDefEqProofs [-getElem?_pos, go_sem, hP, t45, t44]
    refine condP (fun h => ?_) (fun h => ?_)
    · have hk : k < A.length := by simpa using h
      obtain ⟨x, hx⟩ : ∃ x, A[k]? = some x := ⟨_, List.getElem?_eq_getElem hk⟩
      have ox := hAo x (List.mem_of_getElem? hx)
      have am := ox.am
      have pr := ok.pos x.Code
      have wk := wrap_in ((k : Int) + 1) (by omega)
      obtain ⟨v, hv⟩ : ∃ v, v = covI t.r x := ⟨_, rfl⟩
      have hv1 : 0 ≤ v ∧ v ≤ restAt t.r x.Code ∧ v ≤ x.Amount := by rw [hv]; unfold covI; omega
      have amn : amin [iv x.Amount, iv (restAt t.r x.Code)] = some (iv v) := by simp [amin, aminFrom, hv, covI]
      have w1 := wrap_in (restAt t.r x.Code - v) (by omega)
      have w2 := wrap_in (x.Amount - v) (by omega)
      have nl : (s.H.length + 1 < s.H.length) = False := by simp
      simp -dsimp -implicitDefEqProofs [-getElem?_pos, go_sem, hP, t43, t45, ga, hx, cOpn, encL_len, hk, t7, g1, lt1, lkRest, upRest, amn, w1, w2, nl, List.getElem?_append]
      subst hm
      have e1 : (carryStep t x).r = putG t.r x.Code (restAt t.r x.Code - v) := by simp only [carryStep, ← hv]
      have lH := lti1
      obtain ⟨n, hn⟩ : ∃ n, n = s.H.length := ⟨_, rfl⟩
      rw [← hn] at lt1 lta lto lti1 lti2 lti3
      have l0 : 0 < n := by omega
      have ln := ok.len
      have n1 : ¬ 1 = o := by omega
      have n2 : ¬ 1 = i1 := by omega
      have n3 : ¬ i1 = o := by omega
      have n4 : ¬ i1 = n := by omega
      have n5 : ¬ o = n := by omega
      have nl2 : (n + 1 < n) = False := by simp
      have n6 : ¬ i1 = i2 := by omega
      have n7 : ¬ o = i2 := by omega
      have n8 : ¬ 1 = i2 := by omega
      have n9 : ¬ i2 = o := by omega
      have m1 : ¬ o = ia := by omega
      have m2 : ¬ i1 = ia := by omega
      have m3 : ¬ i2 = ia := by omega
      have m4 : ¬ 1 = ia := by omega
      have m5 : ¬ i1 = o + 3 := by omega
      have m6 : ¬ i2 = o + 3 := by omega
      have m7 : ¬ o = 0 ∧ ¬ i1 = 0 ∧ ¬ i2 = 0 := by omega
      have m8 : ¬ i2 = i1 ∧ ¬ o = i1 ∧ ¬ i2 = 1 ∧ ¬ 1 = o + 3 := by omega
      have m9 : ¬ o = 1 ∧ ¬ i1 = 1 := by omega
      have nxt : ∀ (s' : St) (j1 j2 : Nat), (o < j1 ∧ o < j2 ∧ j1 ≠ j2 ∧ j1 ≠ o + 3 ∧ j2 ≠ o + 3) → s'.t 1 = leftsL left → s'.t 4 = .ref 0 0 0 → s'.t 7 = .mref 1 → s'.t 11 = .ref o 0 0 → s'.t 43 = .sref ia 0 A.length → s'.t 44 = iv A.length → s'.t 45 = iv ((k : Int) + 1) →
          s'.H[0]? = some (some (carO .nil .nil .nil)) → s'.H[1]? = some (some ⟨0, 2, encG kS valI (carryStep t x).r⟩) → s'.H[ia]? = some (some ⟨42, 5, encL TOpen.cells A⟩) → s'.H[o]? = some (some (carO (.sref j1 0 (carryStep t x).c.length) (.sref j2 0 (carryStep t x).s.length) (.sref (o + 3) 0 0))) →
          s'.H[j1]? = some (some ⟨42, 5, encL TOpen.cells (carryStep t x).c⟩) → s'.H[j2]? = some (some ⟨42, 5, encL TOpen.cells (carryStep t x).s⟩) → s'.H[o + 3]? = some (some ⟨38, 2, []⟩) → ∃ m', m' < A.length - k ∧ J m' s' := fun s' j1 j2 a1 a2 a3 a4 a5 a6 a7 a8 b1 b2 b3 b4 b5 b6 b7 => by
        refine ⟨A.length - (k + 1), by omega, ?_⟩
        rw [hJ]
        exact ⟨k + 1, j1, j2, carryStep t x, by omega, rfl, by rw [carSt_succ hx, ht], rfl, a1, a2, a3, a4, a5, a6, a7, by rw [a8]; simp, b1, b2, b3, b4, b5, b6, b7⟩
      refine condP (fun hv0 => ?_) (fun hv0 => ?_)
      · have hv0 : 0 < v := by simpa using hv0
        have e2 : (carryStep t x).c = t.c ++ [{ x with Amount := v }] := by simp only [carryStep, ← hv]; rw [if_pos hv0]
        simp -dsimp -implicitDefEqProofs [-getElem?_pos, go_sem, hP, t11, go, lto, lti1, gi1, ← hn, encL_len, cOpn, List.getElem?_append, List.getElem?_set, n1, n2, n3, n4, n5, nl2]
        refine ⟨by omega, by omega, ?_⟩
        refine condP (fun hs0 => ?_) (fun hs0 => ?_)
        · have hs0 : 0 < x.Amount - v := by simpa using hs0
          have e3 : (carryStep t x).s = t.s ++ [{ x with Amount := x.Amount - v }] := by simp only [carryStep, ← hv]; rw [if_pos hs0]
          simp -dsimp -implicitDefEqProofs [-getElem?_pos, go_sem, hP, t11, go, lto, lti1, lti2, gi2, ← hn, encL_len, cOpn, List.getElem?_append, List.getElem?_set, n1, n2, n3, n4, n5, n6, n7, n8, n9, nl2, t45, wk]
          refine ⟨by omega, by omega, ?_⟩
          refine nxt _ (n + 2) (n + 3) (by omega) (by simp -dsimp -implicitDefEqProofs [-getElem?_pos, go_sem, t1]) (by simp -dsimp -implicitDefEqProofs [-getElem?_pos, go_sem, t4]) (by simp -dsimp -implicitDefEqProofs [-getElem?_pos, go_sem, t7]) (by simp -dsimp -implicitDefEqProofs [-getElem?_pos, go_sem, t11]) (by simp -dsimp -implicitDefEqProofs [-getElem?_pos, go_sem, t43]) (by simp -dsimp -implicitDefEqProofs [-getElem?_pos, go_sem, t44]) (by simp -dsimp -implicitDefEqProofs [-getElem?_pos, go_sem]) ?_ ?_ ?_ ?_ ?_ ?_ ?_
          all_goals dsimp only
          all_goals simp [-getElem?_pos, List.getElem?_append, List.getElem?_set, ← hn, l0, lt1, lta, lto, lti1, lti2, lti3, n1, n2, n3, n4, n5, n6, n7, n8, n9, m1, m2, m3, m4, m5, m6, m7, m8, nl2, e1, e2, e3, g0, ga, go, gi1, gi2, gi3, encL, cOpn, m9] <;> rfl
        · have hs0 : ¬ 0 < x.Amount - v := by simpa using hs0
          have e3 : (carryStep t x).s = t.s := by simp only [carryStep, ← hv]; rw [if_neg hs0]
          simp -dsimp -implicitDefEqProofs [-getElem?_pos, go_sem, hP, t45, wk]
          refine nxt _ (n + 2) i2 (by omega) (by simp -dsimp -implicitDefEqProofs [-getElem?_pos, go_sem, t1]) (by simp -dsimp -implicitDefEqProofs [-getElem?_pos, go_sem, t4]) (by simp -dsimp -implicitDefEqProofs [-getElem?_pos, go_sem, t7]) (by simp -dsimp -implicitDefEqProofs [-getElem?_pos, go_sem, t11]) (by simp -dsimp -implicitDefEqProofs [-getElem?_pos, go_sem, t43]) (by simp -dsimp -implicitDefEqProofs [-getElem?_pos, go_sem, t44]) (by simp -dsimp -implicitDefEqProofs [-getElem?_pos, go_sem]) ?_ ?_ ?_ ?_ ?_ ?_ ?_
          all_goals dsimp only
          all_goals simp [-getElem?_pos, List.getElem?_append, List.getElem?_set, ← hn, l0, lt1, lta, lto, lti1, lti2, lti3, n1, n2, n3, n4, n5, n6, n7, n8, n9, m1, m2, m3, m4, m5, m6, m7, m8, nl2, e1, e2, e3, g0, ga, go, gi1, gi2, gi3, encL, cOpn, m9] <;> rfl
      · have hv0 : ¬ 0 < v := by simpa using hv0
        have e2 : (carryStep t x).c = t.c := by simp only [carryStep, ← hv]; rw [if_neg hv0]
        simp -dsimp -implicitDefEqProofs [-getElem?_pos, go_sem, hP, ← hn, List.getElem?_append, List.getElem?_set, nl2]
        refine condP (fun hs0 => ?_) (fun hs0 => ?_)
        · have hs0 : 0 < x.Amount - v := by simpa using hs0
          have e3 : (carryStep t x).s = t.s ++ [{ x with Amount := x.Amount - v }] := by simp only [carryStep, ← hv]; rw [if_pos hs0]
          simp -dsimp -implicitDefEqProofs [-getElem?_pos, go_sem, hP, t11, go, lto, lti1, lti2, gi2, ← hn, encL_len, cOpn, List.getElem?_append, List.getElem?_set, n1, n2, n3, n4, n5, n6, n7, n8, n9, nl2, t45, wk]
          refine ⟨by omega, by omega, ?_⟩
          refine nxt _ i1 (n + 2) (by omega) (by simp -dsimp -implicitDefEqProofs [-getElem?_pos, go_sem, t1]) (by simp -dsimp -implicitDefEqProofs [-getElem?_pos, go_sem, t4]) (by simp -dsimp -implicitDefEqProofs [-getElem?_pos, go_sem, t7]) (by simp -dsimp -implicitDefEqProofs [-getElem?_pos, go_sem, t11]) (by simp -dsimp -implicitDefEqProofs [-getElem?_pos, go_sem, t43]) (by simp -dsimp -implicitDefEqProofs [-getElem?_pos, go_sem, t44]) (by simp -dsimp -implicitDefEqProofs [-getElem?_pos, go_sem]) ?_ ?_ ?_ ?_ ?_ ?_ ?_
          all_goals dsimp only
          all_goals simp [-getElem?_pos, List.getElem?_append, List.getElem?_set, ← hn, l0, lt1, lta, lto, lti1, lti2, lti3, n1, n2, n3, n4, n5, n6, n7, n8, n9, m1, m2, m3, m4, m5, m6, m7, m8, nl2, e1, e2, e3, g0, ga, go, gi1, gi2, gi3, encL, cOpn, m9] <;> rfl
        · have hs0 : ¬ 0 < x.Amount - v := by simpa using hs0
          have e3 : (carryStep t x).s = t.s := by simp only [carryStep, ← hv]; rw [if_neg hs0]
          simp -dsimp -implicitDefEqProofs [-getElem?_pos, go_sem, hP, t45, wk]
          refine nxt _ i1 i2 (by omega) (by simp -dsimp -implicitDefEqProofs [-getElem?_pos, go_sem, t1]) (by simp -dsimp -implicitDefEqProofs [-getElem?_pos, go_sem, t4]) (by simp -dsimp -implicitDefEqProofs [-getElem?_pos, go_sem, t7]) (by simp -dsimp -implicitDefEqProofs [-getElem?_pos, go_sem, t11]) (by simp -dsimp -implicitDefEqProofs [-getElem?_pos, go_sem, t43]) (by simp -dsimp -implicitDefEqProofs [-getElem?_pos, go_sem, t44]) (by simp -dsimp -implicitDefEqProofs [-getElem?_pos, go_sem]) ?_ ?_ ?_ ?_ ?_ ?_ ?_
          all_goals dsimp only
          all_goals simp [-getElem?_pos, List.getElem?_append, List.getElem?_set, ← hn, l0, lt1, lta, lto, lti1, lti2, lti3, n1, n2, n3, n4, n5, n6, n7, n8, n9, m1, m2, m3, m4, m5, m6, m7, m8, nl2, e1, e2, e3, g0, ga, go, gi1, gi2, gi3, encL, cOpn, m9] <;> rfl
    · have hk : k = A.length := by simp at h; omega
      subst hk
      clear hJ h
      simp -dsimp -implicitDefEqProofs [-getElem?_pos, go_sem, hP, t1, encL_len]
      have h03 : o + 3 < s.H.length := lti3
      obtain ⟨L, hL⟩ : ∃ I : Nat → St → Prop, I = fun m s => ∃ (j i3 : Nat), j ≤ left.length ∧ m = left.length - j ∧ (o < i3 ∧ i3 ≠ i1 ∧ i3 ≠ i2) ∧ s.t 4 = .ref 0 0 0 ∧ s.t 7 = .mref 1 ∧ s.t 11 = .ref o 0 0 ∧ s.t 89 = leftsL left ∧ s.t 90 = iv left.length ∧ s.t 91 = iv j ∧ s.H[0]? = some (some (carO .nil .nil .nil)) ∧ s.H[1]? = some (some ⟨0, 2, encG kS valI t.r⟩) ∧ s.H[o]? = some (some (carO (.sref i1 0 t.c.length) (.sref i2 0 t.s.length) (.sref i3 0 (lapsedOf t.r (left.take j)).length))) ∧ s.H[i1]? = some (some ⟨42, 5, encL TOpen.cells t.c⟩) ∧ s.H[i2]? = some (some ⟨42, 5, encL TOpen.cells t.s⟩) ∧ s.H[i3]? = some (some ⟨38, 2, encL TLeft.cells (lapsedOf t.r (left.take j))⟩) := ⟨_, rfl⟩
      refine aloop0 L (left.length) (by rw [hN]; rfl) ?_ ?_
      · rw [hL]
        exact ⟨0, o + 3, by omega, by omega, by omega, by simp -dsimp -implicitDefEqProofs [-getElem?_pos, go_sem, t4], by simp -dsimp -implicitDefEqProofs [-getElem?_pos, go_sem, t7], by simp -dsimp -implicitDefEqProofs [-getElem?_pos, go_sem, t11], by simp -dsimp -implicitDefEqProofs [-getElem?_pos, go_sem, t1], by simp -dsimp -implicitDefEqProofs [-getElem?_pos, go_sem, t1, encL_len], by simp -dsimp -implicitDefEqProofs [-getElem?_pos, go_sem], by simp -dsimp -implicitDefEqProofs [-getElem?_pos, go_sem, g0], by simp -dsimp -implicitDefEqProofs [-getElem?_pos, go_sem, g1], by simp -dsimp -implicitDefEqProofs [-getElem?_pos, go_sem, go, lapsedOf], by simp -dsimp -implicitDefEqProofs [-getElem?_pos, go_sem, gi1], by simp -dsimp -implicitDefEqProofs [-getElem?_pos, go_sem, gi2], by simp -dsimp -implicitDefEqProofs [-getElem?_pos, go_sem, gi3, lapsedOf, encL_nil]⟩
      obtain ⟨cap, hcap⟩ : ∃ cap, cap = t := ⟨_, rfl⟩
      clear t1 t4 t7 t11 t43 t44 t45 g0 g1 ga go gi1 gi2 gi3 lt1 lta lto lti1 lti2 lti3 h03 hm
      intro m s hs'
      rw [hL] at hs'
      obtain ⟨j, i3, hj, hm, hd3, t4, t7, t11, t89, t90, t91, g0, g1, go, gi1, gi2, gi3⟩ := hs'
      have lt1 := (List.getElem?_eq_some_iff.1 g1).1
      have lto := (List.getElem?_eq_some_iff.1 go).1
      have lti1 := (List.getElem?_eq_some_iff.1 gi1).1
      have lti2 := (List.getElem?_eq_some_iff.1 gi2).1
      have lti3 := (List.getElem?_eq_some_iff.1 gi3).1
      have lz : ∀ q, (lapsedOf t.r (left.take q)).length ≤ left.length := fun q => by
        simp only [lapsedOf, List.length_map]
        exact Nat.le_trans (List.length_filter_le _ _) (by simp; omega)
      simp -dsimp -implicitDefEqProofs [-getElem?_pos, go_sem, hP, t91, t90]
      refine condP (fun h => ?_) (fun h => ?_)
      · have hj : j < left.length := by simpa using h
        obtain ⟨x, hx⟩ : ∃ x, left[j]? = some x := ⟨_, List.getElem?_eq_getElem hj⟩
        have wj := wrap_in ((j : Int) + 1) (by omega)
        have tk : left.take (j + 1) = left.take j ++ [x] := by rw [List.take_add_one, hx]; rfl
        obtain ⟨Z, hZ⟩ : ∃ Z, Z = lapsedOf t.r (left.take j) := ⟨_, rfl⟩
        have lZ := lz j
        rw [← hZ] at go gi3 lZ
        have hS := lapsed_snoc t.r (left.take j) x
        rw [← tk, ← hZ] at hS
        obtain ⟨n, hn⟩ : ∃ n, n = s.H.length := ⟨_, rfl⟩
        rw [← hn] at lt1 lto lti1 lti2 lti3
        have l0 : 0 < n := by omega
        have n1 : ¬ o = i1 ∧ ¬ o = i2 ∧ ¬ o = i3 ∧ ¬ i3 = i1 ∧ ¬ i3 = i2 ∧ ¬ i3 = o ∧ ¬ i3 = 0 ∧ ¬ i3 = 1 ∧ ¬ o = 0 ∧ ¬ o = 1 ∧ ¬ o = n ∧ ¬ i3 = n := by omega
        have nl2 : (n + 1 < n) = False := by simp
        subst hm
        simp -dsimp -implicitDefEqProofs [-getElem?_pos, go_sem, hP, t89, t91, hx, cLft, t7, g1, lt1, lkRest, ← hn, List.getElem?_append]
        refine condP (fun hr0 => ?_) (fun hr0 => ?_)
        · have hr0 : 0 < restAt t.r x.Code := by simpa using hr0
          rw [if_pos hr0] at hS
          simp -dsimp -implicitDefEqProofs [-getElem?_pos, go_sem, hP, t11, go, lto, lti3, gi3, ← hn, encL_len, cLft, List.getElem?_append, List.getElem?_set, n1, nl2, t91, wj]
          refine ⟨by omega, by omega, left.length - (j + 1), by omega, ?_⟩
          rw [hL]
          refine ⟨j + 1, n + 1, by omega, rfl, by omega, by simp -dsimp -implicitDefEqProofs [-getElem?_pos, go_sem, t4], by simp -dsimp -implicitDefEqProofs [-getElem?_pos, go_sem, t7], by simp -dsimp -implicitDefEqProofs [-getElem?_pos, go_sem, t11], by simp -dsimp -implicitDefEqProofs [-getElem?_pos, go_sem, t89], by simp -dsimp -implicitDefEqProofs [-getElem?_pos, go_sem, t90], by simp -dsimp -implicitDefEqProofs [-getElem?_pos, go_sem], ?_, ?_, ?_, ?_, ?_, ?_⟩
          all_goals dsimp only
          all_goals simp [-getElem?_pos, List.getElem?_append, List.getElem?_set, ← hn, l0, lt1, lto, lti1, lti2, lti3, n1, nl2, g0, g1, go, gi1, gi2, gi3, hS, encL, cLft] <;> rfl
        · have hr0 : ¬ 0 < restAt t.r x.Code := by simpa using hr0
          rw [if_neg hr0, List.append_nil] at hS
          simp -dsimp -implicitDefEqProofs [-getElem?_pos, go_sem, hP, t91, wj]
          refine ⟨left.length - (j + 1), by omega, ?_⟩
          rw [hL]
          refine ⟨j + 1, i3, by omega, rfl, by omega, by simp -dsimp -implicitDefEqProofs [-getElem?_pos, go_sem, t4], by simp -dsimp -implicitDefEqProofs [-getElem?_pos, go_sem, t7], by simp -dsimp -implicitDefEqProofs [-getElem?_pos, go_sem, t11], by simp -dsimp -implicitDefEqProofs [-getElem?_pos, go_sem, t89], by simp -dsimp -implicitDefEqProofs [-getElem?_pos, go_sem, t90], by simp -dsimp -implicitDefEqProofs [-getElem?_pos, go_sem], ?_, ?_, ?_, ?_, ?_, ?_⟩
          all_goals dsimp only
          all_goals simp [-getElem?_pos, List.getElem?_append, List.getElem?_set, ← hn, l0, lt1, lto, lti1, lti2, lti3, n1, nl2, g0, g1, go, gi1, gi2, gi3, hS] <;> rfl
      · have hj : j = left.length := by simp at h; omega
        subst hj
        rw [List.take_length] at go gi3
        have lt0 : 0 < s.H.length := by omega
        have n0 : ¬ 0 = i1 ∧ ¬ 0 = i2 ∧ ¬ 0 = i3 := by omega
        simp -dsimp -implicitDefEqProofs [-getElem?_pos, go_sem, hP, t11, t4, go, g0, lto, lt0]
        refine done_agg2 (cs' := [opensL t.c, opensL t.s, leftsL (lapsedOf t.r left)]) (cw_sref (ty := 42) ?_ (by rw [encL_len]) (imm_opens _) (cw_sref (ty := 42) ?_ (by rw [encL_len]) (imm_opens _) (cw_sref (ty := 38) ?_ (by rw [encL_len]) (imm_lefts _) .nil))) ?_
        · rw [List.getElem?_set_ne n0.1]; exact gi1
        · rw [List.getElem?_set_ne n0.2.1]; exact gi2
        · rw [List.getElem?_set_ne n0.2.2]; exact gi3
        · rw [hQ]
          exact ⟨t, ht, rfl⟩
end Go.Proofs.YtmkhcmiplleghaaGreatDoor
