/- AccountDays: the walk. -/
import Derived.Test.YtcfkdimndhapfaaLaw23c
set_option linter.unusedSimpArgs false
set_option linter.unusedVariables false
namespace Go.Proofs.Ytcfkdimndhapfaa
open Go.PA
open Go.RowKit

theorem flow_bound {a : TAccount} (h : checkA a = 0) (x y : Int) : (0 ≤ (flowA a x y).1 ∧ (flowA a x y).1 ≤ 1000000000000 * 400) ∧ (0 ≤ (flowA a x y).2 ∧ (flowA a x y).2 ≤ 1000000000000 * 400) := by
  have h2 := (check_ok h).2.1
  rw [flowA, if_pos h]
  have i := sumE_bound (inF x y) 1000000000000 a.Entries (inF_bound h x y)
  have o := sumE_bound (outF x y) 1000000000000 a.Entries (outF_bound h x y)
  dsimp only
  omega

set_option maxHeartbeats 1000000 in
theorem days_law_pf (xs : List Int) (m : Nat) (hx : Small xs) (hl : xs.length ≤ 9223372036854775807) (hm : m ≤ 255) :
    PFun Try.prog none none 7 [intsL xs, .sc (.int .u8 m)] (· = bv true) := by
  refine pfun_introA Try.func7 rfl (by simp [Try.f7]) ?_
  intro E hP hr hs hW hN
  refine awp_cut (by rw [hN]; kernel_rfl) ?_
  simp [go_sem, hP]
  refine awp_cut (by rw [hN]; kernel_rfl) ?_
  simp [go_sem, hP]
  have hnew : POwn Try.prog E.row E.src 13 [intsL xs] 76 2 (· = [[intsL (xs.take 900), iv 0]]) := by rw [hr, hs]; exact new_pf xs hl
  refine callB_own hnew hP en_13 (args_same (by simp [go_sem, intsL])) (by simp [srefs_imm, go_sem, intsL]) ⟨_, rfl⟩ ?_
  rintro es rfl
  simp [go_sem, hP]
  refine awp_adopt 5 (ty := 76) (xs := xs.take 900) (at_ := 0) hr hs hW (by simp [go_sem]) (by simp [go_sem, intsL]) (by omega) (by simp; omega) (fun x hx' => hx x (List.mem_of_mem_take hx')) (by rw [hN]; kernel_rfl) ?_
  intro E' p hP' hr' hN' hW'
  rw [hP] at hP'
  rw [hN] at hN'
  clear hnew hP hr hs hW hN E
  rename Env => E
  rename E.P = _ => hP
  rename E.row = _ => hr
  rename E.N = _ => hN
  rename (∀ b, ¬ E.W b) => hW
  obtain ⟨src, hs⟩ : ∃ src, E.src = src := ⟨_, rfl⟩
  have up : ∀ {f : FuncId} {args : List AV} {Q : AV → Prop}, PFun Try.prog (some p) src f args Q → PFun Try.prog E.row E.src f args Q := fun h => hr ▸ hs ▸ h

  simp -dsimp -implicitDefEqProofs [-getElem?_pos, go_sem, hP]
  refine callB_isQ (up (account_pf p src 12 (by omega))) hP en_14 (by simp [go_sem]) (gen_ex 12) ?_
  rintro r ⟨a, rfl, hg⟩ _
  obtain ⟨n1, n2⟩ := gen_nums hg (by omega)
  have ia : Imm (.agg [iv a.Credit, subsL a.Subs, entsL a.Entries]) := imm_acc a
  have wm := wrap_in (m : Int) (by omega)
  have hk : ((m : Int).tmod 40) = ((m % 40 : Nat) : Int) := (Int.ofNat_tmod m 40).symm
  have hk40 : m % 40 < 40 := Nat.mod_lt _ (by omega)
  obtain ⟨k, hkk⟩ : ∃ k, k = m % 40 := ⟨_, rfl⟩
  rw [← hkk] at hk hk40
  clear hkk
  obtain ⟨f1, f2, f3⟩ := at_facts hg.ok k
  have fe := at_end hg.ok
  have ap := atp_pf a k n1 n2
  have ae := atp_pf a 36000 n1 n2
  rw [fe] at ae
  obtain ⟨l, hll⟩ : ∃ l, l = atA a k := ⟨_, rfl⟩
  rw [← hll] at f1 f2 f3 ap
  have llen : l.length = 4 := by rw [← ids_len, f3, hg.ids]; rfl
  obtain ⟨_, _, cr, _, _⟩ := check_ok hg.ok
  have fl1 := flow_pf a 0 k n1 n2
  have fl2 := flow_pf a (k + 1) 36000 n1 n2
  have fl3 := flow_pf a 0 36000 n1 n2
  obtain ⟨s1, s2⟩ := flow_split hg.ok (k := k) (by omega)
  have b1 := flow_bound hg.ok 0 k
  have b2 := flow_bound hg.ok (k + 1) 36000
  obtain ⟨i1, hi1⟩ : ∃ x, x = (flowA a 0 k).1 := ⟨_, rfl⟩
  obtain ⟨o1, ho1⟩ : ∃ x, x = (flowA a 0 k).2 := ⟨_, rfl⟩
  obtain ⟨i2, hi2⟩ : ∃ x, x = (flowA a (k + 1) 36000).1 := ⟨_, rfl⟩
  obtain ⟨o2, ho2⟩ : ∃ x, x = (flowA a (k + 1) 36000).2 := ⟨_, rfl⟩
  rw [← s1, ← s2] at fl3
  rw [← hi1, ← ho1] at fl1 fl3 b1 f1
  rw [← hi2, ← ho2] at fl2 fl3 b2
  rw [cA] at ap ae fl1 fl2 fl3
  have eq := listEq_pf_subs23 a.Subs a.Subs n1 n1
  clear hll s1 s2 hi1 hi2 ho1 ho2 fe
  simp -dsimp -implicitDefEqProofs [-getElem?_pos, go_sem, hP, cA, aconv, wm, hk]
  refine callB_is (ap.lift _ _) hP en_39 (by simp [ia, imm_sc]) (imm_subs _) ?_
  simp -dsimp -implicitDefEqProofs [-getElem?_pos, go_sem, hP]
  obtain ⟨I, hI⟩ : ∃ I : Nat → St → Prop, I = fun m s => ∃ j : Nat, j ≤ l.length ∧ m = l.length - j ∧ s.t 5 = sp p ∧ s.t 6 = .ref 1 0 0 ∧ s.t 7 = iv k ∧ s.t 9 = iv (sumB (l.take j)) ∧ s.t 28 = subsL l ∧ s.t 29 = iv l.length ∧ s.t 30 = iv j ∧ s.H[1]? = some (some ⟨28, 3, [a.cells]⟩) := ⟨_, rfl⟩
  refine aloop0 I (l.length) (by rw [hN]; rfl) ?_ ?_
  · rw [hI]
    exact ⟨0, by omega, by omega, by simp -dsimp -implicitDefEqProofs [-getElem?_pos, go_sem], by simp -dsimp -implicitDefEqProofs [-getElem?_pos, go_sem], by simp -dsimp -implicitDefEqProofs [-getElem?_pos, go_sem], by simp -dsimp -implicitDefEqProofs [-getElem?_pos, go_sem, sumB], by simp -dsimp -implicitDefEqProofs [-getElem?_pos, go_sem], by simp -dsimp -implicitDefEqProofs [-getElem?_pos, go_sem], by simp -dsimp -implicitDefEqProofs [-getElem?_pos, go_sem], by simp -dsimp -implicitDefEqProofs [-getElem?_pos, go_sem, cA]⟩
  intro m s hs'
  rw [hI] at hs'
  obtain ⟨j, hj, hm, t5, t6, t7, t9, t28, t29, t30, h1⟩ := hs'
  have lt1 := (List.getElem?_eq_some_iff.1 h1).1
  simp -dsimp -implicitDefEqProofs [-getElem?_pos, go_sem, hP, t29, t30]
  refine condP (fun h => ?_) (fun h => ?_)
  · have hj : j < l.length := by simpa using h
    obtain ⟨z, hz⟩ : ∃ z, l[j]? = some z := ⟨_, List.getElem?_eq_getElem hj⟩
    have wj := wrap_in ((j : Int) + 1) (by omega)
    have e1 : l.take (j + 1) = l.take j ++ [z] := by rw [List.take_add_one, hz]; rfl
    have bs := sumB_bound cr (l.take (j + 1)) (okAll_take f2 _)
    have bl : (l.take (j + 1)).length ≤ 4 := by rw [List.length_take, llen]; omega
    rw [e1, sumB_snoc, ← e1] at bs
    have ws := wrap_in (sumB (l.take j) + z.Balance) (by omega)
    have oz := List.all_eq_true.1 f2 z (List.mem_of_getElem? hz)
    have wc := wrap_in (-a.Credit) (by omega)
    have fin : ∀ s' : St, s'.t 5 = s.t 5 → s'.t 6 = s.t 6 → s'.t 7 = s.t 7 → s'.t 9 = iv (sumB (l.take j) + z.Balance) → s'.t 28 = s.t 28 → s'.t 29 = s.t 29 → s'.t 30 = iv ((j : Int) + 1) → s'.H[1]? = s.H[1]? → ∃ n', n' < m ∧ I n' s' := fun s' q5 q6 q7 q9 q28 q29 q30 q1 => by
      refine ⟨l.length - (j + 1), by omega, ?_⟩
      rw [hI]
      exact ⟨j + 1, by omega, rfl, by rw [q5, t5], by rw [q6, t6], by rw [q7, t7], by rw [q9, e1, sumB_snoc], by rw [q28, t28], by rw [q29, t29], by rw [q30]; simp, by rw [q1, h1]⟩
    by_cases g0 : z.Balance < 0
    · have g1 : z.ID = 1 := Classical.byContradiction fun h => by
        simp [okSub, h] at oz
        omega
      have d1 : decide (z.ID = 1) = true := decide_eq_true g1
      have g2 : ¬ z.Balance < -a.Credit := by
        simp [okSub, g1] at oz
        omega
      simp -dsimp -implicitDefEqProofs [-getElem?_pos, go_sem, hP, t28, t30, hz, TSub.cells, t9, ws, g0, d1, t6, h1, lt1, cA, wc, g2, wj]
      exact fin _ (by simp -dsimp -implicitDefEqProofs [-getElem?_pos, go_sem]) (by simp -dsimp -implicitDefEqProofs [-getElem?_pos, go_sem]) (by simp -dsimp -implicitDefEqProofs [-getElem?_pos, go_sem]) (by simp -dsimp -implicitDefEqProofs [-getElem?_pos, go_sem]) (by simp -dsimp -implicitDefEqProofs [-getElem?_pos, go_sem]) (by simp -dsimp -implicitDefEqProofs [-getElem?_pos, go_sem]) (by simp -dsimp -implicitDefEqProofs [-getElem?_pos, go_sem]) (by simp -dsimp -implicitDefEqProofs [-getElem?_pos, go_sem, lt1])
    · simp -dsimp -implicitDefEqProofs [-getElem?_pos, go_sem, hP, t28, t30, hz, TSub.cells, t9, ws, g0, t6, h1, lt1, cA, wj]
      exact fin _ (by simp -dsimp -implicitDefEqProofs [-getElem?_pos, go_sem]) (by simp -dsimp -implicitDefEqProofs [-getElem?_pos, go_sem]) (by simp -dsimp -implicitDefEqProofs [-getElem?_pos, go_sem]) (by simp -dsimp -implicitDefEqProofs [-getElem?_pos, go_sem]) (by simp -dsimp -implicitDefEqProofs [-getElem?_pos, go_sem]) (by simp -dsimp -implicitDefEqProofs [-getElem?_pos, go_sem]) (by simp -dsimp -implicitDefEqProofs [-getElem?_pos, go_sem]) (by simp -dsimp -implicitDefEqProofs [-getElem?_pos, go_sem, lt1])
  · have hj : j = l.length := by simp at h; omega
    subst hj
    rw [List.take_length, f1] at t9
    have w1 := wrap_in ((k : Int) + 1) (by omega)
    have w2 := wrap_in (i1 - o1) (by omega)
    have w3 := wrap_in (i1 + i2) (by omega)
    have w4 := wrap_in (o1 + o2) (by omega)
    simp -dsimp -implicitDefEqProofs [-getElem?_pos, go_sem, hP, t6, h1, lt1, cA, t7]
    refine callB_is (fl1.lift _ _) hP en_24 (by simp [ia, imm_sc]) (imm_pair .sc .sc) ?_
    simp -dsimp -implicitDefEqProofs [-getElem?_pos, go_sem, hP, t6, h1, lt1, cA, t7, w1]
    refine callB_is (fl2.lift _ _) hP en_24 (by simp [ia, imm_sc]) (imm_pair .sc .sc) ?_
    simp -dsimp -implicitDefEqProofs [-getElem?_pos, go_sem, hP, t6, h1, lt1, cA, t7, w1]
    refine callB_is (fl3.lift _ _) hP en_24 (by simp [ia, imm_sc]) (imm_pair .sc .sc) ?_
    simp -dsimp -implicitDefEqProofs [-getElem?_pos, go_sem, hP]
    refine adrawB (fun _ => true) [] hP (by kernel_rfl) (by kernel_rfl) ?_
    simp -dsimp -implicitDefEqProofs [-getElem?_pos, go_sem, hP, t6, h1, lt1, cA, t9, w2, w3, w4]
    refine callB_is (ae.lift _ _) hP en_39 (by simp [ia, imm_sc]) (imm_subs _) ?_
    simp -dsimp -implicitDefEqProofs [-getElem?_pos, go_sem, hP, t6, h1, lt1, cA]
    refine callB_pure eq hP en_38 (args_imm (imm_subs _) (args_imm (imm_subs _) (args_nil.2 trivial))) .sc ?_
    simp -dsimp -implicitDefEqProofs [-getElem?_pos, go_sem, hP]
    refine callB_pure sane23_pf hP en_18 (args_nil.2 trivial) .sc ?_
    simp -dsimp -implicitDefEqProofs [-getElem?_pos, go_sem, hP]
end Go.Proofs.Ytcfkdimndhapfaa
