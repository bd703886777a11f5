/- TaxesMore. -/
import Derived.Test.YtabdihohphlheaaDoorTax5
set_option linter.unusedSimpArgs false
set_option linter.unusedVariables false
namespace Go.Proofs.YtabdihohphlheaaDoor
open Go.PA
open Go.RowKit

/-- More of the base or of the share brings no less. -/
theorem shareD_in {a n d : Int} (ha : 0 ≤ a ∧ a ≤ 200000) (hn : 0 ≤ n ∧ n ≤ d) (hd : 1 ≤ d ∧ d ≤ 400) : (shareD a n d).1 = (2 * a * n + d) / (2 * d) := by
  have h1 : 0 ≤ 2 * a * n := Int.mul_nonneg (by omega) hn.1
  have h2 : 2 * a * n ≤ 400000 * 400 := Int.mul_le_mul (by omega) (by omega) hn.1 (by omega)
  have h3 : (2 * a * n + d) / (2 * d) ≤ 1000000000000 := by
    have : (2 * a * n + d) / (2 * d) ≤ 2 * a * n + d := Int.ediv_le_self _ (by omega)
    omega
  rw [shareD, if_pos]
  simp [btw, h3]
  omega
theorem taxes_more {t u : TTax} (hb : taxB t = true) (hu : taxB u = true) (b1 : t.Base ≤ u.Base) (b2 : u.Base ≤ 200000) (n1 : t.Num ≤ u.Num) (d1 : u.Den = t.Den) (d2 : t.Den ≤ 400) : amountD t ≤ amountD u := by
  obtain ⟨_, _, h3, h4, h5, _⟩ := taxB_iff.1 hb
  obtain ⟨_, _, k3, k4, k5, _⟩ := taxB_iff.1 hu
  rw [amountD, amountD, if_pos hb, if_pos hu, shareD_in ⟨by omega, by omega⟩ h4 (by omega), shareD_in ⟨by omega, b2⟩ k4 (by omega), d1]
  refine Int.ediv_le_ediv (by omega) ?_
  have : 2 * t.Base * t.Num ≤ 2 * u.Base * u.Num := Int.mul_le_mul (by omega) n1 h4.1 (by omega)
  omega
theorem taxes_most {t : TTax} (hb : taxB t = true) (b2 : t.Base ≤ 200000) (d2 : t.Den ≤ 400) : amountD t ≤ t.Base := by
  obtain ⟨_, _, h3, h4, h5, _⟩ := taxB_iff.1 hb
  rw [amountD, if_pos hb, shareD_in ⟨by omega, by omega⟩ h4 (by omega)]
  have h1 : 2 * t.Base * t.Num ≤ 2 * t.Base * t.Den := Int.mul_le_mul_of_nonneg_left h4.2 (by omega)
  have h2 : (2 * t.Base * t.Num + t.Den) / (2 * t.Den) < t.Base + 1 := by
    refine Int.ediv_lt_of_lt_mul (by omega) ?_
    have : (t.Base + 1) * (2 * t.Den) = 2 * t.Base * t.Den + 2 * t.Den := by
      rw [Int.add_mul, Int.one_mul, ← Int.mul_assoc, Int.mul_comm t.Base 2]
    omega
  omega

set_option maxHeartbeats 2000000 in
set_option maxRecDepth 4000 in
theorem more28_pf (xs : List Int) (more : Nat) (hx : Small xs) (hl : xs.length ≤ 9223372036854775807) (hm : more ≤ 65535) : PFun Tryd.prog none none 4 [intsL xs, .sc (.int .u16 more)] (· = bv true) := by
  refine pfun_introA Tryd.func4 rfl (by simp [Tryd.f4]) ?_
  intro E hP hr hs hW hN
  refine awp_cut (by rw [hN]; kernel_rfl) ?_
  simp [go_sem, hP]
  refine awp_cut (by rw [hN]; kernel_rfl) ?_
  simp [go_sem, hP]
  have hnew : POwn Tryd.prog E.row E.src 7 [intsL xs] 53 2 (· = [[intsL (xs.take 900), iv 0]]) := by rw [hr, hs]; exact new_pf xs hl
  refine callB_own hnew hP en_7 (args_same (by simp [go_sem, intsL])) (by simp [srefs_imm, go_sem, intsL]) ⟨_, rfl⟩ ?_
  rintro es rfl
  simp [go_sem, hP]
  refine awp_adopt 5 (ty := 53) (xs := xs.take 900) (at_ := 0) hr hs hW (by simp [go_sem]) (by simp [go_sem, intsL]) (by omega) (by simp; omega) (fun x hx' => hx x (List.mem_of_mem_take hx')) (by rw [hN]; kernel_rfl) ?_
  intro E' p hP' hr' hN' hW'
  rw [hP] at hP'
  rw [hN] at hN'
  clear hnew hP hr hs hW hN E
  rename Env => E
  rename E.P = _ => hP
  rename E.row = _ => hr
  rename E.N = _ => hN
  rename (∀ b, ¬ E.W b) => hW
  obtain ⟨src, hs⟩ : ∃ src, E.src = src := ⟨_, rfl⟩
  have up : ∀ {f : FuncId} {args : List AV} {Q : AV → Prop}, PFun Tryd.prog (some p) src f args Q → PFun Tryd.prog E.row E.src f args Q := fun h => hr ▸ hs ▸ h

  have saneB : ∀ {H : Heap} {C : AV → Heap → Prop} {b : Bx C}, C (bv true) H → CallB E 10 [] H C b := fun h => callB_pure sane28_pf hP en_10 (args_nil.2 trivial) .sc h
  simp -dsimp -implicitDefEqProofs [-getElem?_pos, go_sem, hP]
  refine callB_isQ (up (stax_pf p src)) hP en_8 (by simp [go_sem]) taxQ_ex ?_
  rintro r ⟨t, rfl, hg⟩ _
  have hk := hg.ok
  obtain ⟨_, _, hB, hN', hD, _⟩ := hg
  simp only [List.mem_cons, List.not_mem_nil, or_false] at hB hD
  obtain ⟨k1, k2, k3, k4, k5, k6, k7, k8⟩ := taxB_iff.1 hk.1
  obtain ⟨y, hy⟩ : ∃ y : TTax, y = ⟨t.Code, t.Payer, t.Base + more, t.Num, t.Den, t.First, t.Every, t.Times⟩ := ⟨_, rfl⟩
  obtain ⟨M, hM⟩ : ∃ M : Int, M = (more : Int) % 5 := ⟨_, rfl⟩
  obtain ⟨Z, hZ⟩ : ∃ Z : Int, Z = min (t.Num + M) t.Den := ⟨_, rfl⟩
  obtain ⟨z, hz⟩ : ∃ z : TTax, z = ⟨t.Code, t.Payer, t.Base, Z, t.Den, t.First, t.Every, t.Times⟩ := ⟨_, rfl⟩
  have yb : taxB y = true := by rw [hy]; exact taxB_iff.2 ⟨k1, k2, by simp only; omega, k4, k5, k6, k7, k8⟩
  have zb : taxB z = true := by rw [hz]; exact taxB_iff.2 ⟨k1, k2, k3, by simp only; omega, k5, k6, k7, k8⟩
  have m1 : amountD t ≤ amountD y := taxes_more hk.1 yb (by rw [hy]; simp only; omega) (by rw [hy]; simp only; omega) (by rw [hy]; simp only; omega) (by rw [hy]) (by omega)
  have m2 : amountD t ≤ amountD z := taxes_more hk.1 zb (by rw [hz]; simp only; omega) (by rw [hz]; simp only; omega) (by rw [hz]; simp only; omega) (by rw [hz]) (by omega)
  have m3 := taxes_most hk.1 (by omega) (by omega)
  have at' := tamount_pf t (by have := hk.2; omega)
  have ay := tamount_pf y (by rw [hy]; have := hk.2; simp only; omega)
  have az := tamount_pf z (by rw [hz]; have := hk.2; simp only; omega)
  have it := imm_tax t
  have iy := imm_tax y
  have iz := imm_tax z
  obtain ⟨T, hT⟩ : ∃ T, T = amountD t := ⟨_, rfl⟩
  obtain ⟨Y, hY⟩ : ∃ Y, Y = amountD y := ⟨_, rfl⟩
  obtain ⟨V, hV⟩ : ∃ V, V = amountD z := ⟨_, rfl⟩
  rw [← hT] at at' m1 m2 m3
  rw [← hY] at ay m1
  rw [← hV] at az m2
  rw [cTx] at at' ay az it iy iz
  subst hy
  subst hz
  simp only at ay az iy iz
  have dT := decide_eq_true m1
  have dV := decide_eq_true m2
  have dB := decide_eq_true m3
  have w1 := wrap_in ((t.Base) + more) (by omega)
  have tm : (more : Int).tmod 5 = M := by rw [hM]; exact Int.tmod_eq_emod_of_nonneg (by omega)
  have w2 := wrap_in (t.Num + M) (by omega)
  have w0 := wrap_in (more : Int) (by omega)
  have em : amin [iv (t.Num + M), iv t.Den] = some (iv Z) := by
    rw [hZ]
    rfl
  simp -dsimp -implicitDefEqProofs [-getElem?_pos, go_sem, hP, cTx]
  obtain ⟨X, hX⟩ : ∃ X : Option AObj, X = some ⟨26, 8, [[.sc (.string t.Code), iv t.Payer, iv t.Base, iv t.Num, iv t.Den, iv t.First, iv t.Every, iv t.Times]]⟩ := ⟨_, rfl⟩
  rw [← hX]
  obtain ⟨Inv, hInv⟩ : ∃ Inv : St → Prop, Inv = fun s' => ∃ i j : Nat, ((i = 2 ∧ j = 3) ∨ (i = 3 ∧ j = 2)) ∧ s'.t 1 = .sc (.int .u16 more) ∧ s'.t 6 = .ref 1 0 0 ∧ s'.t 7 = .ref i 0 0 ∧ s'.t 8 = .ref j 0 0 ∧ s'.H = [none, X, X, X] := ⟨_, rfl⟩
  have aE : ∀ (a b : Option AObj) (l l' : Heap), Agree (fun i => decide (i < 2)) (a :: b :: l) (a :: b :: l') := fun a b l l' i hi => by
    have hi : i < 2 := by simpa using hi
    rcases (by omega : i = 0 ∨ i = 1) with rfl | rfl <;> rfl
  refine adraw_cut Inv ?_ ?_
  · refine adrawK (fun i => decide (i < 2)) [] [] 2 hP (by kernel_rfl) (by kernel_rfl) (by simp) ?_
    simp -dsimp -implicitDefEqProofs [-getElem?_pos, go_sem, hP, List.take_succ_cons, List.take_zero, restr_get, hX]
    refine xany_two (i := 2) (j := 3) (by kernel_rfl) rfl rfl ?_ ?_
    · simp -dsimp -implicitDefEqProofs [-getElem?_pos, go_sem, hP]
      refine ⟨aE _ _ _ _, ?_⟩
      refine xany_one (i := 3) (by kernel_rfl) rfl ?_
      simp -dsimp -implicitDefEqProofs [-getElem?_pos, go_sem, hP]
      refine ⟨aE _ _ _ _, ?_⟩
      refine xany_one (i := 4) (by kernel_rfl) rfl ?_
      simp -dsimp -implicitDefEqProofs [-getElem?_pos, go_sem, hP]
      refine ⟨aE _ _ _ _, ?_⟩
      refine xany_one (i := 5) (by kernel_rfl) rfl ?_
      simp -dsimp -implicitDefEqProofs [-getElem?_pos, go_sem, hP]
      refine ⟨aE _ _ _ _, ?_⟩
      refine xany_nil (by kernel_rfl) ?_
      rw [hInv]
      exact ⟨2, 3, .inl ⟨rfl, rfl⟩, by simp -dsimp -implicitDefEqProofs [-getElem?_pos, go_sem], by simp -dsimp -implicitDefEqProofs [-getElem?_pos, go_sem], by simp -dsimp -implicitDefEqProofs [-getElem?_pos, go_sem], by simp -dsimp -implicitDefEqProofs [-getElem?_pos, go_sem], by simp [hX]⟩
    · simp -dsimp -implicitDefEqProofs [-getElem?_pos, go_sem, hP]
      refine ⟨aE _ _ _ _, ?_⟩
      refine xany_one (i := 2) (by kernel_rfl) rfl ?_
      simp -dsimp -implicitDefEqProofs [-getElem?_pos, go_sem, hP]
      refine ⟨aE _ _ _ _, ?_⟩
      refine xany_one (i := 4) (by kernel_rfl) rfl ?_
      simp -dsimp -implicitDefEqProofs [-getElem?_pos, go_sem, hP]
      refine ⟨aE _ _ _ _, ?_⟩
      refine xany_one (i := 5) (by kernel_rfl) rfl ?_
      simp -dsimp -implicitDefEqProofs [-getElem?_pos, go_sem, hP]
      refine ⟨aE _ _ _ _, ?_⟩
      refine xany_nil (by kernel_rfl) ?_
      rw [hInv]
      exact ⟨3, 2, .inr ⟨rfl, rfl⟩, by simp -dsimp -implicitDefEqProofs [-getElem?_pos, go_sem], by simp -dsimp -implicitDefEqProofs [-getElem?_pos, go_sem], by simp -dsimp -implicitDefEqProofs [-getElem?_pos, go_sem], by simp -dsimp -implicitDefEqProofs [-getElem?_pos, go_sem], by simp [hX]⟩
  rw [hInv]
  rintro s' ⟨i, j, hij, t1, t6, t7, t8, hH⟩
  rcases hij with ⟨rfl, rfl⟩ | ⟨rfl, rfl⟩
  all_goals
    simp -dsimp -implicitDefEqProofs [-getElem?_pos, go_sem, hP, t1, t6, t7, t8, hH, hX, aconv, w0, w1, tm, w2, em]
    refine adrawB (fun _ => true) [] hP (by kernel_rfl) (by kernel_rfl) ?_
    simp -dsimp -implicitDefEqProofs [-getElem?_pos, go_sem, hP, t6, t7, t8]
    refine callB_is (ay.lift _ _) hP en_11 (by simpa using iy) .sc ?_
    simp -dsimp -implicitDefEqProofs [-getElem?_pos, go_sem, hP, t6, t7, t8]
    refine callB_is (at'.lift _ _) hP en_11 (by simpa using it) .sc ?_
    simp -dsimp -implicitDefEqProofs [-getElem?_pos, go_sem, hP, t6, t7, t8, dT]
    refine callB_is (az.lift _ _) hP en_11 (by simpa using iz) .sc ?_
    simp -dsimp -implicitDefEqProofs [-getElem?_pos, go_sem, hP, t6, t7, t8]
    refine callB_is (at'.lift _ _) hP en_11 (by simpa using it) .sc ?_
    simp -dsimp -implicitDefEqProofs [-getElem?_pos, go_sem, hP, t6, t7, t8, dV]
    refine callB_is (at'.lift _ _) hP en_11 (by simpa using it) .sc ?_
    simp -dsimp -implicitDefEqProofs [-getElem?_pos, go_sem, hP, t6, t7, t8, dB]
    refine saneB ?_
    simp -dsimp -implicitDefEqProofs [-getElem?_pos, go_sem, hP, t6, t7, t8]
end Go.Proofs.YtabdihohphlheaaDoor
