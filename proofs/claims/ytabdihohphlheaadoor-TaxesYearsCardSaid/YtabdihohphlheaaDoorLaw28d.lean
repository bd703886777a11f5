/- TaxesYears. -/
import Derived.Test.YtabdihohphlheaaDoorGen28
import Derived.Test.YtabdihohphlheaaDoorTax5
set_option linter.unusedSimpArgs false
set_option linter.unusedVariables false
namespace Go.Proofs.YtabdihohphlheaaDoor
open Go.PA
open Go.RowKit

theorem dsum_snoc (g : Int → Bool) (A : Int) (ds : List Int) (d : Int) : dsum g A (ds ++ [d]) = dsum g A ds + if g d then A else 0 := by simp [dsum]
theorem dsum_bd (g : Int → Bool) {A : Int} (hA : 0 ≤ A ∧ A ≤ 1000000000000) : ∀ ds : List Int, 0 ≤ dsum g A ds ∧ dsum g A ds ≤ (ds.length : Int) * 1000000000000
  | [] => by simp [dsum]
  | d :: ds => by
    have ih := dsum_bd g hA ds
    have e : dsum g A (d :: ds) = (if g d then A else 0) + dsum g A ds := by simp [dsum]
    rw [e, List.length_cons]
    split <;> omega
def ownOf (y : Int) (t : TTax) : Int := if t.Code = k2 then dsum (fun d => decide (calY d = y)) (amountD t) (daysD t) else 0
theorem ownSum_snoc (l : List TTax) (t : TTax) (y : Int) : ownSum (l ++ [t]) y = ownSum l y + ownOf y t := by simp [ownSum, ownOf]
theorem ownSum_bd (y : Int) : ∀ (l : List TTax), (∀ t, t ∈ l → GenTax t) → 0 ≤ ownSum l y ∧ ownSum l y ≤ (l.length : Int) * 6000000000000
  | [], _ => by simp [ownSum]
  | t :: l, h => by
    have ih := ownSum_bd y l fun u hu => h u (List.mem_cons_of_mem _ hu)
    have e : ownSum (t :: l) y = ownOf y t + ownSum l y := by simp [ownSum, ownOf]
    have d6 := days6 (h t (List.mem_cons_self ..))
    have b := dsum_bd (fun d => decide (calY d = y)) (amountD_bd t) (daysD t)
    rw [e, List.length_cons, ownOf]
    split <;> omega

set_option maxHeartbeats 8000000 in
set_option maxRecDepth 4000 in
theorem years28_pf (xs : List Int) (hx : Small xs) (hl : xs.length ≤ 9223372036854775807) : PFun Tryd.prog none none 6 [intsL xs] (· = bv true) := by
  refine pfun_introA Tryd.func6 rfl (by simp [Tryd.f6]) ?_
  intro E hP hr hs hW hN
  refine awp_cut (by rw [hN]; kernel_rfl) ?_
  simp [go_sem, hP]
  refine awp_cut (by rw [hN]; kernel_rfl) ?_
  simp [go_sem, hP]
  have hnew : POwn Tryd.prog E.row E.src 7 [intsL xs] 53 2 (· = [[intsL (xs.take 900), iv 0]]) := by rw [hr, hs]; exact new_pf xs hl
  refine callB_own hnew hP en_7 (args_same (by simp [go_sem, intsL])) (by simp [srefs_imm, go_sem, intsL]) ⟨_, rfl⟩ ?_
  rintro es rfl
  simp [go_sem, hP]
  refine awp_adopt 3 (ty := 53) (xs := xs.take 900) (at_ := 0) hr hs hW (by simp [go_sem]) (by simp [go_sem, intsL]) (by omega) (by simp; omega) (fun x hx' => hx x (List.mem_of_mem_take hx')) (by rw [hN]; kernel_rfl) ?_
  intro E' p hP' hr' hN' hW'
  rw [hP] at hP'
  rw [hN] at hN'
  clear hnew hP hr hs hW hN E
  rename Env => E
  rename E.P = _ => hP
  rename E.row = _ => hr
  rename E.N = _ => hN
  rename (∀ b, ¬ E.W b) => hW
  obtain ⟨src, hs⟩ : ∃ src, E.src = src := ⟨_, rfl⟩
  have up : ∀ {f : FuncId} {args : List AV} {Q : AV → Prop}, PFun Tryd.prog (some p) src f args Q → PFun Tryd.prog E.row E.src f args Q := fun h => hr ▸ hs ▸ h

  have saneB : ∀ {H : Heap} {C : AV → Heap → Prop} {b : Bx C}, C (bv true) H → CallB E 10 [] H C b := fun h => callB_pure sane28_pf hP en_10 (args_nil.2 trivial) .sc h
  simp -dsimp -implicitDefEqProofs [-getElem?_pos, go_sem, hP]
  refine callB_isQ (up (staxes_pf p src 6 (by omega))) hP en_12 (by simp [go_sem]) (taxesQ_ex 6) ?_
  rintro r ⟨l, rfl, hl6, hg⟩ _
  have it := imm_taxes l
  have hf := genFit hg
  have hcd : ∀ t, t ∈ l → t.Code ∈ codes := fun t ht => (hg t ht).1
  have ex := texpected_pf l hf (by omega) 0 36000
  rw [gen_expected hg hl6] at ex
  have ye : ∀ c, codeB c = true → c.size ≤ 1000000 → ∀ y, PFun Tryd.prog none none 16 [taxesL l, .sc (.string c), iv y] (· = .tup [iv (tsum (yearW c y) l), iv 0]) := fun c hc hs y => by
    have := tyear_pf l hf (by omega) c hs y
    rwa [gen_year hg hl6 c hc] at this
  have tb : ∀ w, 0 ≤ tsum w l ∧ tsum w l ≤ 36000000000000 := fun w => by
    rw [← sumA_flows]
    have h1 := sumA_bd (flowsD w l) (flowsD_amt w l)
    have h2 := flowsD_len6 w hg
    omega
  have lf := flowsD_len6 (fun _ d => btw d 0 36000) hg
  have am := flowsD_amt (fun _ d => btw d 0 36000) l
  have fin := upTo_all hg
  rw [← sumA_flows] at fin
  obtain ⟨F, hF⟩ : ∃ F, F = flowsD (fun _ d => btw d 0 36000) l := ⟨_, rfl⟩
  rw [← hF] at ex lf am fin
  simp only at ex
  clear hF
  have bF := sumA_bd F am
  have y1 := ye k1 (by kernel_rfl) (by decide)
  have y2 := ye k2 (by kernel_rfl) (by decide)
  have y29 := ye k29 (by kernel_rfl) (by decide)
  have y210 := ye k210 (by kernel_rfl) (by decide)
  clear ye
  simp -dsimp -implicitDefEqProofs [-getElem?_pos, go_sem, hP]
  refine callB_is (ex.lift _ _) hP en_13 (by simpa [imm_sc] using it) (imm_pair (imm_flows _) .sc) ?_
  simp -dsimp -implicitDefEqProofs [-getElem?_pos, go_sem, hP]
  obtain ⟨I, hI⟩ : ∃ I : Nat → St → Prop, I = fun m s => ∃ k : Nat, k ≤ F.length ∧ m = F.length - k ∧ s.t 4 = taxesL l ∧ s.t 7 = iv (sumA (F.take k)) ∧ s.t 8 = iv 0 ∧ s.t 38 = flowsL F ∧ s.t 39 = iv F.length ∧ s.t 40 = iv k := ⟨_, rfl⟩
  refine aloop0 I (F.length) (by rw [hN]; rfl) ?_ ?_
  · rw [hI]
    exact ⟨0, by omega, by omega, by simp -dsimp -implicitDefEqProofs [-getElem?_pos, go_sem], by simp -dsimp -implicitDefEqProofs [-getElem?_pos, go_sem, sumA], by simp -dsimp -implicitDefEqProofs [-getElem?_pos, go_sem], by simp -dsimp -implicitDefEqProofs [-getElem?_pos, go_sem], by simp -dsimp -implicitDefEqProofs [-getElem?_pos, go_sem], by simp -dsimp -implicitDefEqProofs [-getElem?_pos, go_sem]⟩
  intro m s hs'
  rw [hI] at hs'
  obtain ⟨k, hk, hm, t4, t7, t8, t38, t39, t40⟩ := hs'
  subst hm
  simp -dsimp -implicitDefEqProofs [-getElem?_pos, go_sem, hP, t39, t40]
  refine condP (fun h => ?_) (fun h => ?_)
  · have hk : k < F.length := by simpa using h
    obtain ⟨x, hx'⟩ : ∃ x, F[k]? = some x := ⟨_, List.getElem?_eq_getElem hk⟩
    have wk := wrap_in ((k : Int) + 1) (by omega)
    have tk : F.take (k + 1) = F.take k ++ [x] := takeAt hx'
    have b1 := sumA_bd (F.take k) fun z hz => am z (List.mem_of_mem_take hz)
    have b2 := am x (List.mem_of_getElem? hx')
    rw [List.length_take] at b1
    have ws := wrap_in (sumA (F.take k) + x.Amount) (by omega)
    simp -dsimp -implicitDefEqProofs [-getElem?_pos, go_sem, hP, t38, t40, hx', cFl, t7, ws, wk]
    refine ⟨F.length - (k + 1), by omega, ?_⟩
    rw [hI]
    exact ⟨k + 1, by omega, rfl, by simp -dsimp -implicitDefEqProofs [-getElem?_pos, go_sem, t4], by simp -dsimp -implicitDefEqProofs [-getElem?_pos, go_sem, tk, sumA_snoc], by simp -dsimp -implicitDefEqProofs [-getElem?_pos, go_sem, t8], by simp -dsimp -implicitDefEqProofs [-getElem?_pos, go_sem, t38], by simp -dsimp -implicitDefEqProofs [-getElem?_pos, go_sem, t39], by simp -dsimp -implicitDefEqProofs [-getElem?_pos, go_sem]⟩
  have hk : k = F.length := by
    have : ¬ k < F.length := by simpa using h
    omega
  subst hk
  rw [List.take_length] at t7
  obtain ⟨W, hWd⟩ : ∃ W, W = sumA F := ⟨_, rfl⟩
  rw [← hWd] at t7 fin bF
  clear hWd
  simp -dsimp -implicitDefEqProofs [-getElem?_pos, go_sem, hP]
  obtain ⟨J, hJ⟩ : ∃ I : Nat → St → Prop, I = fun m s => ∃ n : Nat, n ≤ 101 ∧ m = 101 - n ∧ s.t 4 = taxesL l ∧ s.t 7 = iv W ∧ s.t 8 = iv (upTo l n) ∧ s.t 11 = iv n := ⟨_, rfl⟩
  refine aloop0 J (101) (by rw [hN]; rfl) ?_ ?_
  · rw [hJ]
    refine ⟨0, by omega, by omega, by simp -dsimp -implicitDefEqProofs [-getElem?_pos, go_sem, t4], by simp -dsimp -implicitDefEqProofs [-getElem?_pos, go_sem, t7], ?_, by simp -dsimp -implicitDefEqProofs [-getElem?_pos, go_sem]⟩
    have := upTo_zero hg
    simp -dsimp -implicitDefEqProofs [-getElem?_pos, go_sem, t8, this]
  clear t4 t7 t8
  intro m s hs'
  rw [hJ] at hs'
  obtain ⟨n, hn, hm, t4, t7, t8, t11⟩ := hs'
  subst hm
  have bu : 0 ≤ upTo l n ∧ upTo l n ≤ 36000000000000 := tb _
  simp -dsimp -implicitDefEqProofs [-getElem?_pos, go_sem, hP, t11]
  refine condP (fun h => ?_) (fun h => ?_)
  rotate_left
  · have hn : n = 101 := by
      have : ¬ ((n : Int) ≤ 100) := by simpa using h
      omega
    subst hn
    have e : upTo l ((101 : Nat) : Int) = W := fin
    rw [e] at t8
    simp -dsimp -implicitDefEqProofs [-getElem?_pos, go_sem, hP, t7, t8]
    refine saneB ?_
    simp -dsimp -implicitDefEqProofs [-getElem?_pos, go_sem, hP]
  have hn : n ≤ 100 := by
    have : (n : Int) ≤ 100 := by simpa using h
    omega
  have wn := wrap_in ((n : Int) + 1) (by omega)
  have st := upTo_step hcd n
  have pa := years_parts hcd n
  have b1 := tb (yearW k1 n)
  have b2 := tb (yearW k2 n)
  have b29 := tb (yearW k29 n)
  have b210 := tb (yearW k210 n)
  have y1 := y1 n
  have y2 := y2 n
  have y29 := y29 n
  have y210 := y210 n
  have bo := ownSum_bd n l hg
  obtain ⟨A1, hA1⟩ : ∃ A1, A1 = tsum (yearW k1 n) l := ⟨_, rfl⟩
  obtain ⟨A2, hA2⟩ : ∃ A2, A2 = tsum (yearW k2 n) l := ⟨_, rfl⟩
  obtain ⟨A29, hA29⟩ : ∃ A29, A29 = tsum (yearW k29 n) l := ⟨_, rfl⟩
  obtain ⟨A210, hA210⟩ : ∃ A210, A210 = tsum (yearW k210 n) l := ⟨_, rfl⟩
  rw [← hA1] at st b1 y1
  rw [← hA2] at st b2 y2 pa
  rw [← hA29] at b29 y29 pa
  rw [← hA210] at b210 y210 pa
  obtain ⟨U, hU⟩ : ∃ U, U = upTo l n := ⟨_, rfl⟩
  rw [← hU] at st t8 bu
  clear hA1 hA2 hA29 hA210
  have wone := wrap_in 1 (by omega)
  have wtwo := wrap_in 2 (by omega)
  have w1 := wrap_in (U + A1) (by omega)
  have w2 := wrap_in (U + A1 + A2) (by omega)
  have w3 := wrap_in A29 (by omega)
  have w4 := wrap_in (A29 + A210) (by omega)
  have x0 : aixV Tryd.prog 49 (.agg [.sc (.string k1), .sc (.string k2)]) (iv ((0 : Nat) : Int)) = some (.sc (.string k1)) := by kernel_rfl
  have x1 : aixV Tryd.prog 49 (.agg [.sc (.string k1), .sc (.string k2)]) (iv ((1 : Nat) : Int)) = some (.sc (.string k2)) := by kernel_rfl
  have x2 : aixV Tryd.prog 49 (.agg [.sc (.string k29), .sc (.string k210)]) (iv ((0 : Nat) : Int)) = some (.sc (.string k29)) := by kernel_rfl
  have x3 : aixV Tryd.prog 49 (.agg [.sc (.string k29), .sc (.string k210)]) (iv ((1 : Nat) : Int)) = some (.sc (.string k210)) := by kernel_rfl
  obtain ⟨XA, hXA⟩ : ∃ XA : AV, XA = .agg [.sc (.string k1), .sc (.string k2)] := ⟨_, rfl⟩
  obtain ⟨XB, hXB⟩ : ∃ XB : AV, XB = .agg [.sc (.string k29), .sc (.string k210)] := ⟨_, rfl⟩
  rw [← hXA] at x0 x1
  rw [← hXB] at x2 x3
  simp -dsimp -implicitDefEqProofs [-getElem?_pos, go_sem, hP]
  obtain ⟨K, hK⟩ : ∃ I : Nat → St → Prop, I = fun m s => ∃ q : Nat, ((q = 0 ∧ s.t 8 = iv U) ∨ (q = 1 ∧ s.t 8 = iv (U + A1)) ∨ (q = 2 ∧ s.t 8 = iv (U + A1 + A2))) ∧ m = 2 - q ∧ s.t 4 = taxesL l ∧ s.t 7 = iv W ∧ s.t 11 = iv n ∧ s.t 53 = XA ∧ s.t 54 = iv q := ⟨_, rfl⟩
  refine aloop0 K (2) (by rw [hN]; rfl) ?_ ?_
  · rw [hK]
    exact ⟨0, .inl ⟨rfl, by simp -dsimp -implicitDefEqProofs [-getElem?_pos, go_sem, t8]⟩, by omega, by simp -dsimp -implicitDefEqProofs [-getElem?_pos, go_sem, t4], by simp -dsimp -implicitDefEqProofs [-getElem?_pos, go_sem, t7], by simp -dsimp -implicitDefEqProofs [-getElem?_pos, go_sem, t11], by simp -dsimp -implicitDefEqProofs [-getElem?_pos, go_sem, hXA], by simp -dsimp -implicitDefEqProofs [-getElem?_pos, go_sem]⟩
  clear t4 t7 t8 t11
  intro m s hs'
  rw [hK] at hs'
  obtain ⟨q, hq, hm, t4, t7, t11, t53, t54⟩ := hs'
  subst hm
  rcases hq with ⟨rfl, t8⟩ | ⟨rfl, t8⟩ | ⟨rfl, t8⟩
  · have t54 : s.t 54 = iv 0 := t54
    have x0 : aixV Tryd.prog 49 XA (iv 0) = some (.sc (.string k1)) := x0
    simp -dsimp -implicitDefEqProofs [-getElem?_pos, go_sem, hP, t54, t53, x0, t4, t11]
    refine callB_is (y1.lift _ _) hP en_16 (by simpa [imm_sc] using it) (imm_pair .sc .sc) ?_
    simp -dsimp -implicitDefEqProofs [-getElem?_pos, go_sem, hP, t8, w1, t54, wone]
    refine ⟨1, by omega, ?_⟩
    rw [hK]
    exact ⟨1, .inr (.inl ⟨rfl, by simp -dsimp -implicitDefEqProofs [-getElem?_pos, go_sem]⟩), by omega, by simp -dsimp -implicitDefEqProofs [-getElem?_pos, go_sem, t4], by simp -dsimp -implicitDefEqProofs [-getElem?_pos, go_sem, t7], by simp -dsimp -implicitDefEqProofs [-getElem?_pos, go_sem, t11], by simp -dsimp -implicitDefEqProofs [-getElem?_pos, go_sem, t53], by simp -dsimp -implicitDefEqProofs [-getElem?_pos, go_sem, wone, wtwo]⟩
  · have t54 : s.t 54 = iv 1 := t54
    have x1 : aixV Tryd.prog 49 XA (iv 1) = some (.sc (.string k2)) := x1
    simp -dsimp -implicitDefEqProofs [-getElem?_pos, go_sem, hP, t54, t53, x1, t4, t11]
    refine callB_is (y2.lift _ _) hP en_16 (by simpa [imm_sc] using it) (imm_pair .sc .sc) ?_
    simp -dsimp -implicitDefEqProofs [-getElem?_pos, go_sem, hP, t8, w2, t54, wtwo]
    rw [hK]
    exact ⟨2, .inr (.inr ⟨rfl, by simp -dsimp -implicitDefEqProofs [-getElem?_pos, go_sem]⟩), by omega, by simp -dsimp -implicitDefEqProofs [-getElem?_pos, go_sem, t4], by simp -dsimp -implicitDefEqProofs [-getElem?_pos, go_sem, t7], by simp -dsimp -implicitDefEqProofs [-getElem?_pos, go_sem, t11], by simp -dsimp -implicitDefEqProofs [-getElem?_pos, go_sem, t53], by simp -dsimp -implicitDefEqProofs [-getElem?_pos, go_sem, wone, wtwo]⟩
  have t54 : s.t 54 = iv 2 := t54
  have st' : U + A1 + A2 = upTo l ((n : Int) + 1) := by omega
  rw [st'] at t8
  obtain ⟨V, hV⟩ : ∃ V, V = upTo l ((n : Int) + 1) := ⟨_, rfl⟩
  rw [← hV] at t8

  simp -dsimp -implicitDefEqProofs [-getElem?_pos, go_sem, hP, t54]
  obtain ⟨K, hK⟩ : ∃ I : Nat → St → Prop, I = fun m s => ∃ q : Nat, ((q = 0 ∧ s.t 16 = iv 0) ∨ (q = 1 ∧ s.t 16 = iv A29) ∨ (q = 2 ∧ s.t 16 = iv (A29 + A210))) ∧ m = 2 - q ∧ s.t 4 = taxesL l ∧ s.t 7 = iv W ∧ s.t 8 = iv V ∧ s.t 11 = iv n ∧ s.t 70 = XB ∧ s.t 71 = iv q := ⟨_, rfl⟩
  refine aloop0 K (2) (by rw [hN]; rfl) ?_ ?_
  · rw [hK]
    exact ⟨0, .inl ⟨rfl, by simp -dsimp -implicitDefEqProofs [-getElem?_pos, go_sem]⟩, by omega, by simp -dsimp -implicitDefEqProofs [-getElem?_pos, go_sem, t4], by simp -dsimp -implicitDefEqProofs [-getElem?_pos, go_sem, t7], by simp -dsimp -implicitDefEqProofs [-getElem?_pos, go_sem, t8], by simp -dsimp -implicitDefEqProofs [-getElem?_pos, go_sem, t11], by simp -dsimp -implicitDefEqProofs [-getElem?_pos, go_sem, hXB], by simp -dsimp -implicitDefEqProofs [-getElem?_pos, go_sem]⟩
  clear t4 t7 t8 t11 t53 t54
  intro m s hs'
  rw [hK] at hs'
  obtain ⟨q, hq, hm, t4, t7, t8, t11, t70, t71⟩ := hs'
  subst hm
  rcases hq with ⟨rfl, t16⟩ | ⟨rfl, t16⟩ | ⟨rfl, t16⟩
  · have t71 : s.t 71 = iv 0 := t71
    have x2 : aixV Tryd.prog 49 XB (iv 0) = some (.sc (.string k29)) := x2
    simp -dsimp -implicitDefEqProofs [-getElem?_pos, go_sem, hP, t71, t70, x2, t4, t11]
    refine callB_is (y29.lift _ _) hP en_16 (by simpa [imm_sc] using it) (imm_pair .sc .sc) ?_
    simp -dsimp -implicitDefEqProofs [-getElem?_pos, go_sem, hP, t16, w3, t71, wone]
    refine ⟨1, by omega, ?_⟩
    rw [hK]
    exact ⟨1, .inr (.inl ⟨rfl, by simp -dsimp -implicitDefEqProofs [-getElem?_pos, go_sem]⟩), by omega, by simp -dsimp -implicitDefEqProofs [-getElem?_pos, go_sem, t4], by simp -dsimp -implicitDefEqProofs [-getElem?_pos, go_sem, t7], by simp -dsimp -implicitDefEqProofs [-getElem?_pos, go_sem, t8], by simp -dsimp -implicitDefEqProofs [-getElem?_pos, go_sem, t11], by simp -dsimp -implicitDefEqProofs [-getElem?_pos, go_sem, t70], by simp -dsimp -implicitDefEqProofs [-getElem?_pos, go_sem, wone, wtwo]⟩
  · have t71 : s.t 71 = iv 1 := t71
    have x3 : aixV Tryd.prog 49 XB (iv 1) = some (.sc (.string k210)) := x3
    simp -dsimp -implicitDefEqProofs [-getElem?_pos, go_sem, hP, t71, t70, x3, t4, t11]
    refine callB_is (y210.lift _ _) hP en_16 (by simpa [imm_sc] using it) (imm_pair .sc .sc) ?_
    simp -dsimp -implicitDefEqProofs [-getElem?_pos, go_sem, hP, t16, w4, t71, wtwo]
    rw [hK]
    exact ⟨2, .inr (.inr ⟨rfl, by simp -dsimp -implicitDefEqProofs [-getElem?_pos, go_sem]⟩), by omega, by simp -dsimp -implicitDefEqProofs [-getElem?_pos, go_sem, t4], by simp -dsimp -implicitDefEqProofs [-getElem?_pos, go_sem, t7], by simp -dsimp -implicitDefEqProofs [-getElem?_pos, go_sem, t8], by simp -dsimp -implicitDefEqProofs [-getElem?_pos, go_sem, t11], by simp -dsimp -implicitDefEqProofs [-getElem?_pos, go_sem, t70], by simp -dsimp -implicitDefEqProofs [-getElem?_pos, go_sem, wone, wtwo]⟩
  have t71 : s.t 71 = iv 2 := t71
  obtain ⟨P, hPp⟩ : ∃ P, P = A29 + A210 := ⟨_, rfl⟩
  rw [← hPp] at t16 pa
  clear x0 x1 x2 x3
  have bP : 0 ≤ P ∧ P ≤ 72000000000000 := by omega
  simp -dsimp -implicitDefEqProofs [-getElem?_pos, go_sem, hP, t71, t4]
  obtain ⟨L, hL⟩ : ∃ I : Nat → St → Prop, I = fun m s => ∃ q : Nat, q ≤ l.length ∧ m = l.length - q ∧ s.t 4 = taxesL l ∧ s.t 7 = iv W ∧ s.t 8 = iv V ∧ s.t 11 = iv n ∧ s.t 16 = iv (P + ownSum (l.take q) n) ∧ s.t 85 = taxesL l ∧ s.t 86 = iv l.length ∧ s.t 87 = iv q := ⟨_, rfl⟩
  refine aloop0 L (l.length) (by rw [hN]; rfl) ?_ ?_
  · rw [hL]
    exact ⟨0, by omega, by omega, by simp -dsimp -implicitDefEqProofs [-getElem?_pos, go_sem, t4], by simp -dsimp -implicitDefEqProofs [-getElem?_pos, go_sem, t7], by simp -dsimp -implicitDefEqProofs [-getElem?_pos, go_sem, t8], by simp -dsimp -implicitDefEqProofs [-getElem?_pos, go_sem, t11], by simp -dsimp -implicitDefEqProofs [-getElem?_pos, go_sem, t16, ownSum], by simp -dsimp -implicitDefEqProofs [-getElem?_pos, go_sem, t4], by simp -dsimp -implicitDefEqProofs [-getElem?_pos, go_sem], by simp -dsimp -implicitDefEqProofs [-getElem?_pos, go_sem]⟩
  clear t4 t7 t8 t11 t70 t71 t16
  intro m s hs'
  rw [hL] at hs'
  obtain ⟨q, hq, hm, t4, t7, t8, t11, t16, t85, t86, t87⟩ := hs'
  subst hm
  simp -dsimp -implicitDefEqProofs [-getElem?_pos, go_sem, hP, t86, t87]
  refine condP (fun h => ?_) (fun h => ?_)
  rotate_left
  · have hq : q = l.length := by
      have : ¬ q < l.length := by simpa using h
      omega
    subst hq
    rw [List.take_length, ← pa] at t16
    simp -dsimp -implicitDefEqProofs [-getElem?_pos, go_sem, hP, t4, t11]
    refine callB_is (y2.lift _ _) hP en_16 (by simpa [imm_sc] using it) (imm_pair .sc .sc) ?_
    simp -dsimp -implicitDefEqProofs [-getElem?_pos, go_sem, hP, t16, t11, wn]
    refine ⟨101 - (n + 1), by omega, ?_⟩
    rw [hJ]
    exact ⟨n + 1, by omega, rfl, by simp -dsimp -implicitDefEqProofs [-getElem?_pos, go_sem, t4], by simp -dsimp -implicitDefEqProofs [-getElem?_pos, go_sem, t7], by simp -dsimp -implicitDefEqProofs [-getElem?_pos, go_sem, t8, hV], by simp -dsimp -implicitDefEqProofs [-getElem?_pos, go_sem]⟩
  have hq : q < l.length := by simpa using h
  obtain ⟨t, ht⟩ : ∃ t, l[q]? = some t := ⟨_, List.getElem?_eq_getElem hq⟩
  have htl := List.mem_of_getElem? ht
  have gt := hg t htl
  have wq := wrap_in ((q : Int) + 1) (by omega)
  have tq : ownSum (l.take (q + 1)) n = ownSum (l.take q) n + ownOf n t := by rw [takeAt ht, ownSum_snoc]
  have bq := ownSum_bd n (l.take q) fun u hu => hg u (List.mem_of_mem_take hu)
  rw [List.length_take] at bq
  obtain ⟨O, hO⟩ : ∃ O, O = P + ownSum (l.take q) n := ⟨_, rfl⟩
  rw [← hO] at t16
  have bO : 0 ≤ O ∧ O ≤ 200000000000000 := by omega
  have nxt : ∀ s' : St, s'.t 4 = taxesL l → s'.t 7 = iv W → s'.t 8 = iv V → s'.t 11 = iv n → s'.t 16 = iv (O + ownOf n t) → s'.t 85 = taxesL l → s'.t 86 = iv l.length → s'.t 87 = iv ((q : Int) + 1) → ∃ n', n' < l.length - q ∧ L n' s' := fun s' c1 c2 c3 c4 c5 c6 c7 c8 => by
    refine ⟨l.length - (q + 1), by omega, ?_⟩
    rw [hL]
    exact ⟨q + 1, by omega, rfl, c1, c2, c3, c4, by rw [c5, tq, hO, Int.add_assoc], c6, c7, c8⟩
  by_cases hc : t.Code = k2
  rotate_left
  · have eo : ownOf n t = 0 := by rw [ownOf, if_neg hc]
    have dc := decide_eq_false hc
    rw [eo, Int.add_zero] at nxt
    simp -dsimp -implicitDefEqProofs [-getElem?_pos, go_sem, hP, t85, t87, ht, cTx, dc, hc, wq]
    exact nxt _ (by simp -dsimp -implicitDefEqProofs [-getElem?_pos, go_sem, t4]) (by simp -dsimp -implicitDefEqProofs [-getElem?_pos, go_sem, t7]) (by simp -dsimp -implicitDefEqProofs [-getElem?_pos, go_sem, t8]) (by simp -dsimp -implicitDefEqProofs [-getElem?_pos, go_sem, t11]) (by simp -dsimp -implicitDefEqProofs [-getElem?_pos, go_sem, t16]) (by simp -dsimp -implicitDefEqProofs [-getElem?_pos, go_sem, t85]) (by simp -dsimp -implicitDefEqProofs [-getElem?_pos, go_sem, t86]) (by simp -dsimp -implicitDefEqProofs [-getElem?_pos, go_sem])
  have dy := tdays_pf t (hf t htl)
  have at' := tamount_pf t (hf t htl)
  have itx := imm_tax t
  have bA := amountD_bd t
  have d6 := days6 gt
  have din := days_in gt
  have eo : ownOf n t = dsum (fun d => decide (calY d = n)) (amountD t) (daysD t) := by rw [ownOf, if_pos hc]
  rw [eo] at nxt
  obtain ⟨A, hA⟩ : ∃ A, A = amountD t := ⟨_, rfl⟩
  obtain ⟨ds, hds⟩ : ∃ ds, ds = daysD t := ⟨_, rfl⟩
  rw [← hA] at at' bA nxt
  rw [← hds] at dy d6 din nxt
  rw [cTx, hc] at dy at' itx
  obtain ⟨nb, hnb⟩ : ∃ nb, nb = s.H.length := ⟨_, rfl⟩
  have gnb : ∀ x : Option AObj, (s.H ++ [x])[nb]? = some x := fun x => by rw [hnb]; simp
  obtain ⟨TO, hTO⟩ : ∃ TO : AObj, TO = ⟨26, 8, [[.sc (.string k2), iv t.Payer, iv t.Base, iv t.Num, iv t.Den, iv t.First, iv t.Every, iv t.Times]]⟩ := ⟨_, rfl⟩
  have dc := decide_eq_true hc
  simp -dsimp -implicitDefEqProofs [-getElem?_pos, go_sem, hP, t85, t87, ht, cTx]
  rw [← hnb]
  simp -dsimp -implicitDefEqProofs [-getElem?_pos, go_sem, hP, gnb, dc, hc]
  refine callB_is (dy.lift _ _) hP en_9 (by simpa using itx) (imm_ints _) ?_
  simp -dsimp -implicitDefEqProofs [-getElem?_pos, go_sem, hP, intsL]
  obtain ⟨M, hM⟩ : ∃ I : Nat → St → Prop, I = fun m s => ∃ r : Nat, r ≤ ds.length ∧ m = ds.length - r ∧ s.t 4 = taxesL l ∧ s.t 7 = iv W ∧ s.t 8 = iv V ∧ s.t 11 = iv n ∧ s.t 16 = iv (O + dsum (fun d => decide (calY d = n)) A (ds.take r)) ∧ s.t 22 = .ref nb 0 0 ∧ s.t 85 = taxesL l ∧ s.t 86 = iv l.length ∧ s.t 87 = iv q ∧ s.t 95 = .list 1 (ds.map fun x => [iv x]) ∧ s.t 96 = iv ds.length ∧ s.t 97 = iv r ∧ s.H[nb]? = some (some TO) := ⟨_, rfl⟩
  refine aloop0 M (ds.length) (by rw [hN]; rfl) ?_ ?_
  · rw [hM]
    exact ⟨0, by omega, by omega, by simp -dsimp -implicitDefEqProofs [-getElem?_pos, go_sem, t4], by simp -dsimp -implicitDefEqProofs [-getElem?_pos, go_sem, t7], by simp -dsimp -implicitDefEqProofs [-getElem?_pos, go_sem, t8], by simp -dsimp -implicitDefEqProofs [-getElem?_pos, go_sem, t11], by simp -dsimp -implicitDefEqProofs [-getElem?_pos, go_sem, t16, dsum], by simp -dsimp -implicitDefEqProofs [-getElem?_pos, go_sem], by simp -dsimp -implicitDefEqProofs [-getElem?_pos, go_sem, t85], by simp -dsimp -implicitDefEqProofs [-getElem?_pos, go_sem, t86], by simp -dsimp -implicitDefEqProofs [-getElem?_pos, go_sem, t87], by simp -dsimp -implicitDefEqProofs [-getElem?_pos, go_sem], by simp -dsimp -implicitDefEqProofs [-getElem?_pos, go_sem], by simp -dsimp -implicitDefEqProofs [-getElem?_pos, go_sem], by simp -dsimp -implicitDefEqProofs [-getElem?_pos, go_sem, gnb, hTO]⟩
  clear t4 t7 t8 t11 t16 t85 t86 t87 gnb hnb h s
  intro m s hs'
  rw [hM] at hs'
  obtain ⟨r, hr', hm, t4, t7, t8, t11, t16, t22, t85, t86, t87, t95, t96, t97, hH⟩ := hs'
  have ltH := (List.getElem?_eq_some_iff.1 hH).1
  subst hm
  rw [hTO] at hH
  simp -dsimp -implicitDefEqProofs [-getElem?_pos, go_sem, hP, t96, t97]
  refine condP (fun h => ?_) (fun h => ?_)
  · have hr2 : r < ds.length := by simpa using h
    obtain ⟨d, hd⟩ : ∃ d, ds[r]? = some d := ⟨_, List.getElem?_eq_getElem hr2⟩
    have bd := din d (List.mem_of_getElem? hd)
    have cy := calY_in bd
    have wr := wrap_in ((r : Int) + 1) (by omega)
    have td : d.tdiv 360 = calY d := by rw [cy.1]; exact Int.tdiv_eq_ediv_of_nonneg bd.1
    have wd := wrap_in (calY d) (by omega)
    have tr : dsum (fun d => decide (calY d = n)) A (ds.take (r + 1)) = dsum (fun d => decide (calY d = n)) A (ds.take r) + if decide (calY d = n) then A else 0 := by rw [takeAt hd, dsum_snoc]
    have bs := dsum_bd (fun d => decide (calY d = n)) bA (ds.take r)
    rw [List.length_take] at bs
    obtain ⟨S, hS⟩ : ∃ S, S = dsum (fun d => decide (calY d = n)) A (ds.take r) := ⟨_, rfl⟩
    rw [← hS] at t16 tr bs
    have wS := wrap_in (O + S + A) (by omega)
    have nxt2 : ∀ s' : St, s'.t 4 = taxesL l → s'.t 7 = iv W → s'.t 8 = iv V → s'.t 11 = iv n → s'.t 16 = iv (O + dsum (fun d => decide (calY d = n)) A (ds.take (r + 1))) → s'.t 22 = .ref nb 0 0 → s'.t 85 = taxesL l → s'.t 86 = iv l.length → s'.t 87 = iv q → s'.t 95 = .list 1 (ds.map fun x => [iv x]) → s'.t 96 = iv ds.length → s'.t 97 = iv ((r : Int) + 1) → s'.H = s.H → ∃ n', n' < ds.length - r ∧ M n' s' := fun s' c1 c2 c3 c4 c5 c6 c7 c8 c9 c10 c11 c12 c13 => by
      refine ⟨ds.length - (r + 1), by omega, ?_⟩
      rw [hM]
      exact ⟨r + 1, by omega, rfl, c1, c2, c3, c4, c5, c6, c7, c8, c9, c10, c11, c12, by rw [c13, hTO]; exact hH⟩
    by_cases cd : calY d = n
    · have ddc := decide_eq_true cd
      rw [ddc, if_pos rfl] at tr
      rw [tr, ← Int.add_assoc] at nxt2
      rw [cd] at wd
      simp -dsimp -implicitDefEqProofs [-getElem?_pos, go_sem, hP, t95, t97, hd, td, wd, t11, cd, t22, hH, ltH]
      refine callB_is (at'.lift _ _) hP en_11 (by simpa using itx) .sc ?_
      simp -dsimp -implicitDefEqProofs [-getElem?_pos, go_sem, hP, t16, wS, t97, wr]
      exact nxt2 _ (by simp -dsimp -implicitDefEqProofs [-getElem?_pos, go_sem, t4]) (by simp -dsimp -implicitDefEqProofs [-getElem?_pos, go_sem, t7]) (by simp -dsimp -implicitDefEqProofs [-getElem?_pos, go_sem, t8]) (by simp -dsimp -implicitDefEqProofs [-getElem?_pos, go_sem, t11]) (by simp -dsimp -implicitDefEqProofs [-getElem?_pos, go_sem]) (by simp -dsimp -implicitDefEqProofs [-getElem?_pos, go_sem, t22]) (by simp -dsimp -implicitDefEqProofs [-getElem?_pos, go_sem, t85]) (by simp -dsimp -implicitDefEqProofs [-getElem?_pos, go_sem, t86]) (by simp -dsimp -implicitDefEqProofs [-getElem?_pos, go_sem, t87]) (by simp -dsimp -implicitDefEqProofs [-getElem?_pos, go_sem, t95]) (by simp -dsimp -implicitDefEqProofs [-getElem?_pos, go_sem, t96]) (by simp -dsimp -implicitDefEqProofs [-getElem?_pos, go_sem]) rfl
    · have ddc := decide_eq_false cd
      rw [ddc, if_neg (by simp), Int.add_zero] at tr
      rw [tr] at nxt2
      simp -dsimp -implicitDefEqProofs [-getElem?_pos, go_sem, hP, t95, t97, hd, td, wd, t11, ddc, cd, wr]
      exact nxt2 _ (by simp -dsimp -implicitDefEqProofs [-getElem?_pos, go_sem, t4]) (by simp -dsimp -implicitDefEqProofs [-getElem?_pos, go_sem, t7]) (by simp -dsimp -implicitDefEqProofs [-getElem?_pos, go_sem, t8]) (by simp -dsimp -implicitDefEqProofs [-getElem?_pos, go_sem, t11]) (by simp -dsimp -implicitDefEqProofs [-getElem?_pos, go_sem, t16]) (by simp -dsimp -implicitDefEqProofs [-getElem?_pos, go_sem, t22]) (by simp -dsimp -implicitDefEqProofs [-getElem?_pos, go_sem, t85]) (by simp -dsimp -implicitDefEqProofs [-getElem?_pos, go_sem, t86]) (by simp -dsimp -implicitDefEqProofs [-getElem?_pos, go_sem, t87]) (by simp -dsimp -implicitDefEqProofs [-getElem?_pos, go_sem, t95]) (by simp -dsimp -implicitDefEqProofs [-getElem?_pos, go_sem, t96]) (by simp -dsimp -implicitDefEqProofs [-getElem?_pos, go_sem]) rfl
  · have hr2 : r = ds.length := by
      have : ¬ r < ds.length := by simpa using h
      omega
    subst hr2
    rw [List.take_length] at t16
    simp -dsimp -implicitDefEqProofs [-getElem?_pos, go_sem, hP, t87, wq]
    exact nxt _ (by simp -dsimp -implicitDefEqProofs [-getElem?_pos, go_sem, t4]) (by simp -dsimp -implicitDefEqProofs [-getElem?_pos, go_sem, t7]) (by simp -dsimp -implicitDefEqProofs [-getElem?_pos, go_sem, t8]) (by simp -dsimp -implicitDefEqProofs [-getElem?_pos, go_sem, t11]) (by simp -dsimp -implicitDefEqProofs [-getElem?_pos, go_sem, t16]) (by simp -dsimp -implicitDefEqProofs [-getElem?_pos, go_sem, t85]) (by simp -dsimp -implicitDefEqProofs [-getElem?_pos, go_sem, t86]) (by simp -dsimp -implicitDefEqProofs [-getElem?_pos, go_sem])
end Go.Proofs.YtabdihohphlheaaDoor
