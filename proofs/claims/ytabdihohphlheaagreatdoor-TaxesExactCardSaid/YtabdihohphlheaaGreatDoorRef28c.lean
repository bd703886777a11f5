/- The reference of taxes: years, claims. -/
import Derived.Test.YtabdihohphlheaaGreatDoorRef28b
import Derived.Test.YtabdihohphlheaaGreatDoorTax7
set_option linter.unusedSimpArgs false
set_option linter.unusedVariables false
namespace Go.Proofs.YtabdihohphlheaaGreatDoor
open Go.PA
open Go.RowKit

set_option maxHeartbeats 1000000 in
theorem runder_pf (c top : ByteArray) : PFun Tryz.prog none none 50 [.sc (.string c), .sc (.string top)] (· = bv (underB c top)) := by
  refine pfun_intro Tryz.func50 rfl (by simp [Tryz.f50]) (by kernel_rfl) ?_
  intro E hP hr hs hW hN
  have p1 := rparts_pf c
  have p2 := rparts_pf top
  have l1 := partsD_len c
  have l2 := partsD_len top
  obtain ⟨U, hU⟩ : ∃ U, U = underB c top := ⟨_, rfl⟩
  rw [← hU]
  rw [underB] at hU
  obtain ⟨x, hx⟩ : ∃ x, x = partsD c := ⟨_, rfl⟩
  obtain ⟨y, hy⟩ : ∃ y, y = partsD top := ⟨_, rfl⟩
  rw [← hx, ← hy] at hU
  rw [← hx] at p1 l1
  rw [← hy] at p2 l2
  simp -dsimp -implicitDefEqProofs [-getElem?_pos, go_sem, hP]
  refine callB_is (p1.lift _ _) hP en_39 (by simp -dsimp -implicitDefEqProofs [-getElem?_pos, go_sem]) (imm_ints x) ?_
  simp -dsimp -implicitDefEqProofs [-getElem?_pos, go_sem, hP]
  refine callB_is (p2.lift _ _) hP en_39 (by simp -dsimp -implicitDefEqProofs [-getElem?_pos, go_sem]) (imm_ints y) ?_
  by_cases c2 : y.length ≤ x.length
  rotate_left
  · have d2 : decide (x.length < y.length) = true := decide_eq_true (by omega)
    have e : U = false := by rw [hU, decide_eq_false c2]; simp
    simp -dsimp -implicitDefEqProofs [-getElem?_pos, go_sem, hP, intsL, d2, e]
  have d2 : decide (x.length < y.length) = false := decide_eq_false (by omega)
  by_cases c1 : y = []
  · have e : U = false := by rw [hU, c1]; simp
    have dz : decide ((x.length : Int) < 0) = false := decide_eq_false (by omega)
    simp -dsimp -implicitDefEqProofs [-getElem?_pos, go_sem, hP, intsL, d2, c1, dz, e]
  have d1 : decide (y = []) = false := decide_eq_false c1
  have yl : 0 < y.length := List.length_pos_iff.2 c1
  rw [decide_eq_true yl, decide_eq_true c2, Bool.true_and, Bool.true_and] at hU
  simp -dsimp -implicitDefEqProofs [-getElem?_pos, go_sem, hP, intsL, d2, d1, c1]
  obtain ⟨I, hI⟩ : ∃ I : Nat → St → Prop, I = fun m s => ∃ k : Nat, k ≤ y.length ∧ m = y.length - k ∧ s.t 5 = .list 1 (x.map fun z => [iv z]) ∧ s.t 6 = .list 1 (y.map fun z => [iv z]) ∧ s.t 23 = iv y.length ∧ s.t 24 = iv k ∧ x.take k = y.take k := ⟨_, rfl⟩
  refine aloop0 I (y.length) (by rw [hN]; rfl) ?_ ?_
  · rw [hI]
    exact ⟨0, by omega, by omega, by simp -dsimp -implicitDefEqProofs [-getElem?_pos, go_sem], by simp -dsimp -implicitDefEqProofs [-getElem?_pos, go_sem], by simp -dsimp -implicitDefEqProofs [-getElem?_pos, go_sem], by simp -dsimp -implicitDefEqProofs [-getElem?_pos, go_sem], by simp⟩
  intro m s hs'
  rw [hI] at hs'
  obtain ⟨k, hk, hm, t5, t6, t23, t24, heq⟩ := hs'
  subst hm
  simp -dsimp -implicitDefEqProofs [-getElem?_pos, go_sem, hP, t23, t24]
  refine condP (fun h => ?_) (fun h => ?_)
  · have hk : k < y.length := by simpa using h
    obtain ⟨u, hu⟩ : ∃ u, x[k]? = some u := ⟨_, List.getElem?_eq_getElem (by omega)⟩
    obtain ⟨v, hv⟩ : ∃ v, y[k]? = some v := ⟨_, List.getElem?_eq_getElem hk⟩
    have wk := wrap_in ((k : Int) + 1) (by omega)
    have tx : x.take (k + 1) = x.take k ++ [u] := takeAt hu
    have ty : y.take (k + 1) = y.take k ++ [v] := takeAt hv
    simp -dsimp -implicitDefEqProofs [-getElem?_pos, go_sem, hP, t24]
    refine adrawB (fun _ => true) [] hP (by kernel_rfl) (by kernel_rfl) ?_
    by_cases huv : u = v
    · subst huv
      simp -dsimp -implicitDefEqProofs [-getElem?_pos, go_sem, hP, t5, t6, hu, hv, t24, wk]
      refine ⟨y.length - (k + 1), by omega, ?_⟩
      rw [hI]
      exact ⟨k + 1, by omega, rfl, by simp -dsimp -implicitDefEqProofs [-getElem?_pos, go_sem, t5], by simp -dsimp -implicitDefEqProofs [-getElem?_pos, go_sem, t6], by simp -dsimp -implicitDefEqProofs [-getElem?_pos, go_sem, t23], by simp -dsimp -implicitDefEqProofs [-getElem?_pos, go_sem], by rw [tx, ty, heq]⟩
    · have dd := decide_eq_false huv
      have e : U = false := by
        rw [hU, decide_eq_false]
        intro h
        have h1 : (x.take y.length)[k]? = some u := by rw [List.getElem?_take, if_pos hk]; exact hu
        rw [h, hv] at h1
        exact huv (Option.some.inj h1).symm
      simp -dsimp -implicitDefEqProofs [-getElem?_pos, go_sem, hP, t5, t6, hu, hv, t24, dd, e]
  · have hk : k = y.length := by
      have : ¬ k < y.length := by simpa using h
      omega
    subst hk
    rw [List.take_length] at heq
    have e : U = true := by rw [hU, decide_eq_true heq]
    simp -dsimp -implicitDefEqProofs [-getElem?_pos, go_sem, hP, e]

/-! ### Sums -/
theorem dsum_snoc (g : Int → Bool) (A : Int) (ds : List Int) (d : Int) : dsum g A (ds ++ [d]) = dsum g A ds + if g d then A else 0 := by simp [dsum]
theorem dsum_bd (g : Int → Bool) {A : Int} (hA : 0 ≤ A ∧ A ≤ 1000000000000) : ∀ ds : List Int, 0 ≤ dsum g A ds ∧ dsum g A ds ≤ (ds.length : Int) * 1000000000000
  | [] => by simp [dsum]
  | d :: ds => by
    have ih := dsum_bd g hA ds
    have e : dsum g A (d :: ds) = (if g d then A else 0) + dsum g A ds := by simp [dsum]
    rw [e, List.length_cons]
    split <;> omega
theorem tsum_snoc (w : TTax → Int → Bool) (l : List TTax) (t : TTax) : tsum w (l ++ [t]) = tsum w l + dsum (w t) (amountD t) (daysD t) := by simp [tsum]
theorem tsum_bd (w : TTax → Int → Bool) : ∀ l : List TTax, 0 ≤ tsum w l ∧ tsum w l ≤ (l.length : Int) * 60000000000000
  | [] => by simp [tsum]
  | t :: l => by
    have ih := tsum_bd w l
    have h1 := dsum_bd (w t) (amountD_bd t) (daysD t)
    have h2 := daysD_len t
    have e : tsum w (t :: l) = dsum (w t) (amountD t) (daysD t) + tsum w l := by simp [tsum]
    rw [e, List.length_cons]
    omega
theorem daysD_in {t : TTax} {d : Int} (h : d ∈ daysD t) : 0 ≤ d ∧ d ≤ 36000 := by
  unfold daysD at h
  split at h
  · unfold daysGo at h
    obtain ⟨i, _, hi⟩ := List.mem_filterMap.1 h
    split at hi
    · rename_i hc
      cases hi
      unfold nextD at hc ⊢
      split
      · rename_i k
        have := (openD_le (t.First + 30 * t.Every * i)).1
        exact ⟨by simp only; omega, k.2.2⟩
      · rename_i k
        rw [if_neg k] at hc
        cases hc
    · cases hi
  · cases h

set_option maxHeartbeats 4000000 in
theorem ryear_pf (l : List TTax) (hl : l.length ≤ 1000000) (code : ByteArray) (y : Int) : PFun Tryz.prog none none 30 [taxesL l, .sc (.string code), iv y] (· = .tup [iv (yearD l code y).1, iv (yearD l code y).2]) := by
  refine pfun_intro Tryz.func30 rfl (by simp [Tryz.f30]) (by kernel_rfl) ?_
  intro E hP hr hs hW hN
  have it := imm_taxes l
  obtain ⟨R, hR⟩ : ∃ R, R = yearD l code y := ⟨_, rfl⟩
  rw [← hR]
  simp -dsimp -implicitDefEqProofs [-getElem?_pos, go_sem, hP]
  refine callB_is ((rcheck_pf l hl).lift _ _) hP en_14 (by simpa using it) .sc ?_
  by_cases c : checkT l = 0
  rotate_left
  · have e : R = (0, checkT l) := by rw [hR, yearD, if_neg c]
    have d := decide_eq_false c
    simp -dsimp -implicitDefEqProofs [-getElem?_pos, go_sem, hP, d]
    exact done_imm (imm_pair .sc .sc) (by rw [e])
  obtain ⟨l20, _⟩ := checkT_len c
  rw [yearD, if_pos c, sumA_flows] at hR
  simp -dsimp -implicitDefEqProofs [-getElem?_pos, go_sem, hP, c]
  refine callB_is ((rparts_pf code).lift _ _) hP en_39 (by simp -dsimp -implicitDefEqProofs [-getElem?_pos, go_sem]) (imm_ints _) ?_
  obtain ⟨ps, hps⟩ : ∃ ps, ps = partsD code := ⟨_, rfl⟩
  have hcb : codeB code = decide (0 < ps.length) := by rw [hps]; rfl
  rw [← hps]
  cases hp : ps with
  | nil =>
    rw [hp] at hcb
    rw [hcb] at hR
    simp -dsimp -implicitDefEqProofs [-getElem?_pos, go_sem, hP, intsL]
    exact done_imm (imm_pair .sc .sc) (by rw [hR]; rfl)
  | cons p0 ps0 =>
  rw [hp, List.length_cons, decide_eq_true (by omega)] at hcb
  rw [hcb, if_pos rfl] at hR
  have d0 : decide ((ps0.length : Int) + 1 = 0) = false := decide_eq_false (by omega)
  obtain ⟨w, hw⟩ : ∃ w, w = yearW code y := ⟨_, rfl⟩
  rw [← hw] at hR
  simp -dsimp -implicitDefEqProofs [-getElem?_pos, go_sem, hP, intsL, d0]
  obtain ⟨I, hI⟩ : ∃ I : Nat → St → Prop, I = fun m s => ∃ k : Nat, k ≤ l.length ∧ m = l.length - k ∧ s.t 1 = .sc (.string code) ∧ s.t 2 = iv y ∧ s.t 9 = iv (tsum w (l.take k)) ∧ s.t 23 = taxesL l ∧ s.t 24 = iv l.length ∧ s.t 25 = iv k := ⟨_, rfl⟩
  refine aloop0 I (l.length) (by rw [hN]; rfl) ?_ ?_
  · rw [hI]
    exact ⟨0, by omega, by omega, by simp -dsimp -implicitDefEqProofs [-getElem?_pos, go_sem], by simp -dsimp -implicitDefEqProofs [-getElem?_pos, go_sem], by simp -dsimp -implicitDefEqProofs [-getElem?_pos, go_sem, tsum], by simp -dsimp -implicitDefEqProofs [-getElem?_pos, go_sem], by simp -dsimp -implicitDefEqProofs [-getElem?_pos, go_sem], by simp -dsimp -implicitDefEqProofs [-getElem?_pos, go_sem]⟩
  intro m s hs'
  rw [hI] at hs'
  obtain ⟨k, hk, hm, t1, t2, t9, t23, t24, t25⟩ := hs'
  subst hm
  simp -dsimp -implicitDefEqProofs [-getElem?_pos, go_sem, hP, t24, t25]
  refine condP (fun h => ?_) (fun h => ?_)
  rotate_left
  · have hk : k = l.length := by
      have : ¬ k < l.length := by simpa using h
      omega
    subst hk
    rw [List.take_length] at t9
    simp -dsimp -implicitDefEqProofs [-getElem?_pos, go_sem, hP, t9]
    exact done_imm (imm_pair .sc .sc) (by rw [hR])
  have hk : k < l.length := by simpa using h
  obtain ⟨t, ht⟩ : ∃ t, l[k]? = some t := ⟨_, List.getElem?_eq_getElem hk⟩
  have wk := wrap_in ((k : Int) + 1) (by omega)
  have tk : tsum w (l.take (k + 1)) = tsum w (l.take k) + dsum (w t) (amountD t) (daysD t) := by rw [takeAt ht, tsum_snoc]
  have bk := tsum_bd w (l.take k)
  rw [List.length_take] at bk
  obtain ⟨O, hO⟩ : ∃ O, O = tsum w (l.take k) := ⟨_, rfl⟩
  rw [← hO] at t9 tk bk
  have nxt : ∀ s' : St, s'.t 1 = .sc (.string code) → s'.t 2 = iv y → s'.t 9 = iv (O + dsum (w t) (amountD t) (daysD t)) → s'.t 23 = taxesL l → s'.t 24 = iv l.length → s'.t 25 = iv ((k : Int) + 1) → ∃ n', n' < l.length - k ∧ I n' s' := fun s' b1 b2 b3 b4 b5 b6 => by
    refine ⟨l.length - (k + 1), by omega, ?_⟩
    rw [hI]
    exact ⟨k + 1, by omega, rfl, b1, b2, by rw [tk]; exact b3, b4, b5, b6⟩
  simp -dsimp -implicitDefEqProofs [-getElem?_pos, go_sem, hP, t23, t25, ht, cTx, t1]
  refine callB_pure (runder_pf t.Code code) hP en_50 (args_same (by simp -dsimp -implicitDefEqProofs [-getElem?_pos, go_sem])) .sc ?_
  cases hu : underB t.Code code
  · have e : dsum (w t) (amountD t) (daysD t) = 0 := by
      refine (dsum_congr _ fun d _ => ?_).trans (dsum_no (amountD t) (daysD t))
      rw [hw, yearW, hu, Bool.false_and]
    rw [e, Int.add_zero] at nxt
    simp -dsimp -implicitDefEqProofs [-getElem?_pos, go_sem, hP, t25, wk]
    exact nxt _ (by simp -dsimp -implicitDefEqProofs [-getElem?_pos, go_sem, t1]) (by simp -dsimp -implicitDefEqProofs [-getElem?_pos, go_sem, t2]) (by simp -dsimp -implicitDefEqProofs [-getElem?_pos, go_sem, t9]) (by simp -dsimp -implicitDefEqProofs [-getElem?_pos, go_sem, t23]) (by simp -dsimp -implicitDefEqProofs [-getElem?_pos, go_sem, t24]) (by simp -dsimp -implicitDefEqProofs [-getElem?_pos, go_sem])
  have ew : w t = fun d => decide (calY d = y) := by
    rw [hw]
    funext d
    rw [yearW, hu, Bool.true_and]
  rw [ew] at nxt
  have dy := rdays_pf t
  have at' := ramount_pf t
  have itx := imm_tax t
  have bA := amountD_bd t
  have d60 := daysD_len t
  have din : ∀ d, d ∈ daysD t → 0 ≤ d ∧ d ≤ 36000 := fun d hd => daysD_in hd
  obtain ⟨A, hA⟩ : ∃ A, A = amountD t := ⟨_, rfl⟩
  obtain ⟨ds, hds⟩ : ∃ ds, ds = daysD t := ⟨_, rfl⟩
  rw [← hA] at at' bA nxt
  rw [← hds] at dy d60 din nxt
  rw [cTx] at dy at' itx
  obtain ⟨nb, hnb⟩ : ∃ nb, nb = s.H.length := ⟨_, rfl⟩
  have gnb : ∀ x : Option AObj, (s.H ++ [x])[nb]? = some x := fun x => by rw [hnb]; simp
  simp -dsimp -implicitDefEqProofs [-getElem?_pos, go_sem, hP]
  rw [← hnb]
  try simp only [gnb]
  refine callB_is (dy.lift _ _) hP en_21 (by simpa using itx) (imm_ints _) ?_
  simp -dsimp -implicitDefEqProofs [-getElem?_pos, go_sem, hP, intsL]
  obtain ⟨M, hM⟩ : ∃ I : Nat → St → Prop, I = fun m s => ∃ r : Nat, r ≤ ds.length ∧ m = ds.length - r ∧ s.t 1 = .sc (.string code) ∧ s.t 2 = iv y ∧ s.t 9 = iv (O + dsum (fun d => decide (calY d = y)) A (ds.take r)) ∧ s.t 11 = .ref nb 0 0 ∧ s.t 23 = taxesL l ∧ s.t 24 = iv l.length ∧ s.t 25 = iv k ∧ s.t 35 = .list 1 (ds.map fun x => [iv x]) ∧ s.t 36 = iv ds.length ∧ s.t 37 = iv r ∧ s.H[nb]? = some (some ⟨30, 8, [[.sc (.string t.Code), iv t.Payer, iv t.Base, iv t.Num, iv t.Den, iv t.First, iv t.Every, iv t.Times]]⟩) := ⟨_, rfl⟩
  refine aloop0 M (ds.length) (by rw [hN]; rfl) ?_ ?_
  · rw [hM]
    exact ⟨0, by omega, by omega, by simp -dsimp -implicitDefEqProofs [-getElem?_pos, go_sem, t1], by simp -dsimp -implicitDefEqProofs [-getElem?_pos, go_sem, t2], by simp -dsimp -implicitDefEqProofs [-getElem?_pos, go_sem, t9, dsum], by simp -dsimp -implicitDefEqProofs [-getElem?_pos, go_sem], by simp -dsimp -implicitDefEqProofs [-getElem?_pos, go_sem, t23], by simp -dsimp -implicitDefEqProofs [-getElem?_pos, go_sem, t24], by simp -dsimp -implicitDefEqProofs [-getElem?_pos, go_sem, t25], by simp -dsimp -implicitDefEqProofs [-getElem?_pos, go_sem], by simp -dsimp -implicitDefEqProofs [-getElem?_pos, go_sem], by simp -dsimp -implicitDefEqProofs [-getElem?_pos, go_sem], by simp -dsimp -implicitDefEqProofs [-getElem?_pos, go_sem, gnb]⟩
  clear t1 t2 t9 t23 t24 t25 gnb hnb h s
  intro m s hs'
  rw [hM] at hs'
  obtain ⟨r, hr', hm, t1, t2, t9, t11, t23, t24, t25, t35, t36, t37, hH⟩ := hs'
  have ltH := (List.getElem?_eq_some_iff.1 hH).1
  subst hm
  simp -dsimp -implicitDefEqProofs [-getElem?_pos, go_sem, hP, t36, t37]
  refine condP (fun h => ?_) (fun h => ?_)
  · have hr2 : r < ds.length := by simpa using h
    obtain ⟨d, hd⟩ : ∃ d, ds[r]? = some d := ⟨_, List.getElem?_eq_getElem hr2⟩
    have bd := din d (List.mem_of_getElem? hd)
    have cy := calY_in bd
    have wr := wrap_in ((r : Int) + 1) (by omega)
    have td : d.tdiv 360 = calY d := by rw [cy.1]; exact Int.tdiv_eq_ediv_of_nonneg bd.1
    have wd := wrap_in (calY d) (by omega)
    have tr : dsum (fun d => decide (calY d = y)) A (ds.take (r + 1)) = dsum (fun d => decide (calY d = y)) A (ds.take r) + if decide (calY d = y) then A else 0 := by rw [takeAt hd, dsum_snoc]
    have bs := dsum_bd (fun d => decide (calY d = y)) bA (ds.take r)
    rw [List.length_take] at bs
    obtain ⟨S, hS⟩ : ∃ S, S = dsum (fun d => decide (calY d = y)) A (ds.take r) := ⟨_, rfl⟩
    rw [← hS] at t9 tr bs
    have wS := wrap_in (O + S + A) (by omega)
    have nxt2 : ∀ s' : St, s'.t 1 = .sc (.string code) → s'.t 2 = iv y → s'.t 9 = iv (O + dsum (fun d => decide (calY d = y)) A (ds.take (r + 1))) → s'.t 11 = .ref nb 0 0 → s'.t 23 = taxesL l → s'.t 24 = iv l.length → s'.t 25 = iv k → s'.t 35 = .list 1 (ds.map fun x => [iv x]) → s'.t 36 = iv ds.length → s'.t 37 = iv ((r : Int) + 1) → s'.H = s.H → ∃ n', n' < ds.length - r ∧ M n' s' := fun s' c1 c2 c3 c4 c5 c6 c7 c8 c9 c10 c11 => by
      refine ⟨ds.length - (r + 1), by omega, ?_⟩
      rw [hM]
      exact ⟨r + 1, by omega, rfl, c1, c2, c3, c4, c5, c6, c7, c8, c9, c10, by rw [c11]; exact hH⟩
    by_cases cd : calY d = y
    · rw [decide_eq_true cd, if_pos rfl] at tr
      rw [tr, ← Int.add_assoc] at nxt2
      rw [cd] at wd
      simp -dsimp -implicitDefEqProofs [-getElem?_pos, go_sem, hP, t35, t37, hd, td, wd, t2, cd, t11, hH, ltH]
      refine callB_is (at'.lift _ _) hP en_18 (by simpa using itx) .sc ?_
      simp -dsimp -implicitDefEqProofs [-getElem?_pos, go_sem, hP, t9, wS, t37, wr]
      exact nxt2 _ (by simp -dsimp -implicitDefEqProofs [-getElem?_pos, go_sem, t1]) (by simp -dsimp -implicitDefEqProofs [-getElem?_pos, go_sem, t2]) (by simp -dsimp -implicitDefEqProofs [-getElem?_pos, go_sem]) (by simp -dsimp -implicitDefEqProofs [-getElem?_pos, go_sem, t11]) (by simp -dsimp -implicitDefEqProofs [-getElem?_pos, go_sem, t23]) (by simp -dsimp -implicitDefEqProofs [-getElem?_pos, go_sem, t24]) (by simp -dsimp -implicitDefEqProofs [-getElem?_pos, go_sem, t25]) (by simp -dsimp -implicitDefEqProofs [-getElem?_pos, go_sem, t35]) (by simp -dsimp -implicitDefEqProofs [-getElem?_pos, go_sem, t36]) (by simp -dsimp -implicitDefEqProofs [-getElem?_pos, go_sem]) rfl
    · have ddc := decide_eq_false cd
      rw [ddc, if_neg (by simp), Int.add_zero] at tr
      rw [tr] at nxt2
      simp -dsimp -implicitDefEqProofs [-getElem?_pos, go_sem, hP, t35, t37, hd, td, wd, t2, ddc, cd, wr]
      exact nxt2 _ (by simp -dsimp -implicitDefEqProofs [-getElem?_pos, go_sem, t1]) (by simp -dsimp -implicitDefEqProofs [-getElem?_pos, go_sem, t2]) (by simp -dsimp -implicitDefEqProofs [-getElem?_pos, go_sem, t9]) (by simp -dsimp -implicitDefEqProofs [-getElem?_pos, go_sem, t11]) (by simp -dsimp -implicitDefEqProofs [-getElem?_pos, go_sem, t23]) (by simp -dsimp -implicitDefEqProofs [-getElem?_pos, go_sem, t24]) (by simp -dsimp -implicitDefEqProofs [-getElem?_pos, go_sem, t25]) (by simp -dsimp -implicitDefEqProofs [-getElem?_pos, go_sem, t35]) (by simp -dsimp -implicitDefEqProofs [-getElem?_pos, go_sem, t36]) (by simp -dsimp -implicitDefEqProofs [-getElem?_pos, go_sem]) rfl
  · have hr2 : r = ds.length := by
      have : ¬ r < ds.length := by simpa using h
      omega
    subst hr2
    rw [List.take_length] at t9
    simp -dsimp -implicitDefEqProofs [-getElem?_pos, go_sem, hP, t25, wk]
    exact nxt _ (by simp -dsimp -implicitDefEqProofs [-getElem?_pos, go_sem, t1]) (by simp -dsimp -implicitDefEqProofs [-getElem?_pos, go_sem, t2]) (by simp -dsimp -implicitDefEqProofs [-getElem?_pos, go_sem, t9]) (by simp -dsimp -implicitDefEqProofs [-getElem?_pos, go_sem, t23]) (by simp -dsimp -implicitDefEqProofs [-getElem?_pos, go_sem, t24]) (by simp -dsimp -implicitDefEqProofs [-getElem?_pos, go_sem])
end Go.Proofs.YtabdihohphlheaaGreatDoor
