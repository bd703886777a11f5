/- Sweeps: the reference's functions. -/
import Derived.Test.YtcfkdimndhapfaaSw1
set_option linter.unusedSimpArgs false
set_option linter.unusedVariables false
namespace Go.Proofs.Ytcfkdimndhapfaa
open Go.PA
open Go.RowKit

abbrev keepsL (l : List TKeep) : AV := .list 3 (encL TKeep.cells l)
theorem imm_keeps (l : List TKeep) : Imm (keepsL l) := imm_encL _ TKeep.imm l
theorem cK (k : TKeep) : k.cells = [iv k.Sub, iv k.Low, iv k.High] := rfl
theorem ids_pos {a : TAccount} (h : checkA a = 0) {i : Int} (hi : i ∈ ids a.Subs) : 0 < i := by
  have h4 := (check_ok h).2.2.2.1
  simp only [numB, Bool.and_eq_true] at h4
  have := ascB_gt _ 0 h4.1 i hi
  omega

set_option maxHeartbeats 1000000 in
theorem check24_pf (a : TAccount) (l : List TKeep) (hl : a.Subs.length ≤ 100000) (he : a.Entries.length ≤ 100000) (hk : l.length ≤ 1000) : PFun Try.prog none none 48 [.agg a.cells, keepsL l] (· = iv (checkK a l)) := by
  refine pfun_intro Try.func48 rfl (by simp [Try.f48]) (by kernel_rfl) ?_
  intro E hP hr hs hW hN
  have ck := check23_pf a hl he
  rw [cA] at ck
  have ia : Imm (.agg [iv a.Credit, subsL a.Subs, entsL a.Entries]) := imm_acc a
  simp -dsimp -implicitDefEqProofs [-getElem?_pos, go_sem, hP, cA]
  refine callB_is (ck.lift _ _) hP en_30 (by simp [ia]) .sc ?_
  by_cases c1 : checkA a = 0
  rotate_left
  · have : checkK a l = checkA a := by rw [checkK, if_neg c1]
    simp -dsimp -implicitDefEqProofs [-getElem?_pos, go_sem, hP, c1, this]
  have tK : checkK a l = if keepsB (ids a.Subs) 0 l = true then 0 else 63 := by rw [checkK, if_pos c1]
  simp -dsimp -implicitDefEqProofs [-getElem?_pos, go_sem, hP, c1]
  obtain ⟨I, hI⟩ : ∃ I : Nat → St → Prop, I = fun m s => ∃ (k : Nat) (p : Int), k ≤ l.length ∧ m = l.length - k ∧ keepsB (ids a.Subs) 0 l = keepsB (ids a.Subs) p (l.drop k) ∧ (k = 0 → p = 0) ∧ (∀ j x, k = j + 1 → l[j]? = some x → p = x.Sub) ∧ s.t 1 = keepsL l ∧ s.t 2 = .ref 0 0 0 ∧ s.t 15 = keepsL l ∧ s.t 16 = iv l.length ∧ s.t 17 = iv k ∧ s.H[0]? = some (some ⟨28, 3, [a.cells]⟩) := ⟨_, rfl⟩
  refine aloop0 I (l.length) (by rw [hN]; rfl) ?_ ?_
  · rw [hI]
    exact ⟨0, 0, by omega, by omega, by simp, by simp, by omega, by simp -dsimp -implicitDefEqProofs [-getElem?_pos, go_sem], by simp -dsimp -implicitDefEqProofs [-getElem?_pos, go_sem], by simp -dsimp -implicitDefEqProofs [-getElem?_pos, go_sem], by simp -dsimp -implicitDefEqProofs [-getElem?_pos, go_sem], by simp -dsimp -implicitDefEqProofs [-getElem?_pos, go_sem], by simp -dsimp -implicitDefEqProofs [-getElem?_pos, go_sem, cA]⟩
  intro m s hs'
  rw [hI] at hs'
  obtain ⟨k, p, hk, hm, hks, hp0, hp1, t1, t2, t15, t16, t17, hA⟩ := hs'
  have lt0 := (List.getElem?_eq_some_iff.1 hA).1
  simp -dsimp -implicitDefEqProofs [-getElem?_pos, go_sem, hP, t16, t17]
  refine condP (fun h => ?_) (fun h => ?_)
  · have hk : k < l.length := by simpa using h
    obtain ⟨x, hx⟩ : ∃ x, l[k]? = some x := ⟨_, List.getElem?_eq_getElem hk⟩
    have wk := wrap_in ((k : Int) + 1) (by omega)
    have hd : l.drop k = x :: l.drop (k + 1) := by
      rw [List.getElem?_eq_getElem hk] at hx
      rw [List.drop_eq_getElem_cons hk, Option.some.inj hx]
    rw [hd, keepsB] at hks
    have fin : ∀ s' : St, keepB (ids a.Subs) p x = true → s'.t 1 = s.t 1 → s'.t 2 = s.t 2 → s'.t 15 = s.t 15 → s'.t 16 = s.t 16 → s'.t 17 = iv ((k : Int) + 1) → s'.H[0]? = s.H[0]? → ∃ n', n' < m ∧ I n' s' := fun s' hc e1 e2 e15 e16 e17 eH => by
      refine ⟨l.length - (k + 1), by omega, ?_⟩
      rw [hI]
      refine ⟨k + 1, x.Sub, by omega, rfl, ?_, by omega, fun j y hj hy => ?_, by rw [e1, t1], by rw [e2, t2], by rw [e15, t15], by rw [e16, t16], by rw [e17]; simp, by rw [eH, hA]⟩
      · rw [hks, hc]; simp
      · have : j = k := by omega
        subst this
        rw [hx] at hy
        rw [Option.some.inj hy]
    have bad : ¬ keepB (ids a.Subs) p x = true → checkK a l = 63 := fun h => by
      have h : keepB (ids a.Subs) p x = false := by simpa using h
      rw [tK, hks, h]
      simp
    rw [keepB_iff] at bad fin
    have bl := balance23_pf a x.Sub hl he
    rw [cA] at bl
    obtain ⟨b1, hb1⟩ : ∃ b, b = (balanceA a x.Sub).1 := ⟨_, rfl⟩
    obtain ⟨b2, hb2⟩ : ∃ b, b = (balanceA a x.Sub).2 := ⟨_, rfl⟩
    rw [← hb1, ← hb2] at bl
    simp -dsimp -implicitDefEqProofs [-getElem?_pos, go_sem, hP, t15, t17, hx, TKeep.cells, t2, hA, lt0, cA]
    refine callB_is (bl.lift _ _) hP en_36 (by simp [ia, imm_sc]) (imm_pair .sc .sc) ?_
    simp -dsimp -implicitDefEqProofs [-getElem?_pos, go_sem, hP]
    refine adrawB (fun _ => true) [] hP (by kernel_rfl) (by kernel_rfl) ?_
    by_cases c2 : x.Sub ∈ ids a.Subs
    rotate_left
    · have hb : b2 = false := by rw [hb2, balance_out c2]
      have := bad fun h => c2 h.1
      simp -dsimp -implicitDefEqProofs [-getElem?_pos, go_sem, hP, hb, this]
    have hb : b2 = true := by rw [hb2, balance_in c1 c2]
    by_cases c3 : x.Sub = 1
    · have d3 : decide (x.Sub = 1) = true := decide_eq_true c3
      have := bad fun h => h.2.1 c3
      simp -dsimp -implicitDefEqProofs [-getElem?_pos, go_sem, hP, hb, d3, this]
    have hpos := ids_pos c1 c2
    have rest : (k = 0 ∨ p < x.Sub) → (p < x.Sub) := fun h => h.elim (fun h => by rw [hp0 h]; exact hpos) id
    by_cases c4 : x.Low < 0
    · have := bad fun h => by have := h.2.2.2.1; omega
      rcases Nat.eq_zero_or_pos k with hk0 | hkp
      · have d0 : decide (k = 0) = true := decide_eq_true hk0
        have d1 : decide (0 < k) = false := decide_eq_false (by omega)
        simp -dsimp -implicitDefEqProofs [-getElem?_pos, go_sem, hP, hb, c3, t17, d0, d1, c4, this]
      · obtain ⟨j, rfl⟩ : ∃ j, k = j + 1 := ⟨k - 1, by omega⟩
        obtain ⟨y, hy⟩ : ∃ y, l[j]? = some y := ⟨_, List.getElem?_eq_getElem (by omega)⟩
        have d0 : decide (((j : Int) + 1) = 0) = false := decide_eq_false (by omega)
        have d1 : decide ((0 : Int) < (j : Int) + 1) = true := decide_eq_true (by omega)
        have wj := wrap_in ((j : Int) + 1 - 1) (by omega)
        rw [Int.add_sub_cancel] at wj
        by_cases c5 : x.Sub ≤ y.Sub
        · simp -dsimp -implicitDefEqProofs [-getElem?_pos, go_sem, hP, hb, c3, t17, d0, d1, Int.add_sub_cancel, wj, t1, hy, TKeep.cells, c5, this]
        · simp -dsimp -implicitDefEqProofs [-getElem?_pos, go_sem, hP, hb, c3, t17, d0, d1, Int.add_sub_cancel, wj, t1, hy, TKeep.cells, c5, c4, this]
    by_cases c6 : x.High < x.Low
    · have := bad fun h => by have := h.2.2.2.2.1; omega
      rcases Nat.eq_zero_or_pos k with hk0 | hkp
      · have d0 : decide (k = 0) = true := decide_eq_true hk0
        have d1 : decide (0 < k) = false := decide_eq_false (by omega)
        simp -dsimp -implicitDefEqProofs [-getElem?_pos, go_sem, hP, hb, c3, t17, d0, d1, c4, c6, this]
      · obtain ⟨j, rfl⟩ : ∃ j, k = j + 1 := ⟨k - 1, by omega⟩
        obtain ⟨y, hy⟩ : ∃ y, l[j]? = some y := ⟨_, List.getElem?_eq_getElem (by omega)⟩
        have d0 : decide (((j : Int) + 1) = 0) = false := decide_eq_false (by omega)
        have d1 : decide ((0 : Int) < (j : Int) + 1) = true := decide_eq_true (by omega)
        have wj := wrap_in ((j : Int) + 1 - 1) (by omega)
        rw [Int.add_sub_cancel] at wj
        by_cases c5 : x.Sub ≤ y.Sub
        · simp -dsimp -implicitDefEqProofs [-getElem?_pos, go_sem, hP, hb, c3, t17, d0, d1, Int.add_sub_cancel, wj, t1, hy, TKeep.cells, c5, this]
        · simp -dsimp -implicitDefEqProofs [-getElem?_pos, go_sem, hP, hb, c3, t17, d0, d1, Int.add_sub_cancel, wj, t1, hy, TKeep.cells, c5, c4, c6, this]
    by_cases c7 : 1000000000000 < x.High
    · have := bad fun h => by have := h.2.2.2.2.2; omega
      rcases Nat.eq_zero_or_pos k with hk0 | hkp
      · have d0 : decide (k = 0) = true := decide_eq_true hk0
        have d1 : decide (0 < k) = false := decide_eq_false (by omega)
        simp -dsimp -implicitDefEqProofs [-getElem?_pos, go_sem, hP, hb, c3, t17, d0, d1, c4, c6, c7, this]
      · obtain ⟨j, rfl⟩ : ∃ j, k = j + 1 := ⟨k - 1, by omega⟩
        obtain ⟨y, hy⟩ : ∃ y, l[j]? = some y := ⟨_, List.getElem?_eq_getElem (by omega)⟩
        have d0 : decide (((j : Int) + 1) = 0) = false := decide_eq_false (by omega)
        have d1 : decide ((0 : Int) < (j : Int) + 1) = true := decide_eq_true (by omega)
        have wj := wrap_in ((j : Int) + 1 - 1) (by omega)
        rw [Int.add_sub_cancel] at wj
        by_cases c5 : x.Sub ≤ y.Sub
        · simp -dsimp -implicitDefEqProofs [-getElem?_pos, go_sem, hP, hb, c3, t17, d0, d1, Int.add_sub_cancel, wj, t1, hy, TKeep.cells, c5, this]
        · simp -dsimp -implicitDefEqProofs [-getElem?_pos, go_sem, hP, hb, c3, t17, d0, d1, Int.add_sub_cancel, wj, t1, hy, TKeep.cells, c5, c4, c6, c7, this]
    rcases Nat.eq_zero_or_pos k with hk0 | hkp
    · have d0 : decide (k = 0) = true := decide_eq_true hk0
      have d1 : decide (0 < k) = false := decide_eq_false (by omega)
      have hp := rest (.inl hk0)
      simp -dsimp -implicitDefEqProofs [-getElem?_pos, go_sem, hP, hb, c3, t17, d0, d1, c4, c6, c7, wk]
      exact fin _ ⟨c2, c3, hp, by omega, by omega, by omega⟩ (by simp -dsimp -implicitDefEqProofs [-getElem?_pos, go_sem]) (by simp -dsimp -implicitDefEqProofs [-getElem?_pos, go_sem]) (by simp -dsimp -implicitDefEqProofs [-getElem?_pos, go_sem]) (by simp -dsimp -implicitDefEqProofs [-getElem?_pos, go_sem]) (by simp -dsimp -implicitDefEqProofs [-getElem?_pos, go_sem]) (by simp -dsimp -implicitDefEqProofs [-getElem?_pos, go_sem, lt0])
    · obtain ⟨j, rfl⟩ : ∃ j, k = j + 1 := ⟨k - 1, by omega⟩
      obtain ⟨y, hy⟩ : ∃ y, l[j]? = some y := ⟨_, List.getElem?_eq_getElem (by omega)⟩
      have d0 : decide (((j : Int) + 1) = 0) = false := decide_eq_false (by omega)
      have d1 : decide ((0 : Int) < (j : Int) + 1) = true := decide_eq_true (by omega)
      have wj := wrap_in ((j : Int) + 1 - 1) (by omega)
      rw [Int.add_sub_cancel] at wj
      have wk' := wrap_in ((j : Int) + 1 + 1) (by omega)
      have hpy := hp1 j y rfl hy
      by_cases c5 : x.Sub ≤ y.Sub
      · have := bad fun h => by have := h.2.2.1; omega
        simp -dsimp -implicitDefEqProofs [-getElem?_pos, go_sem, hP, hb, c3, t17, d0, d1, Int.add_sub_cancel, wj, t1, hy, TKeep.cells, c5, this]
      · simp -dsimp -implicitDefEqProofs [-getElem?_pos, go_sem, hP, hb, c3, t17, d0, d1, Int.add_sub_cancel, wj, t1, hy, TKeep.cells, c5, c4, c6, c7, wk']
        exact fin _ ⟨c2, c3, by omega, by omega, by omega, by omega⟩ (by simp -dsimp -implicitDefEqProofs [-getElem?_pos, go_sem]) (by simp -dsimp -implicitDefEqProofs [-getElem?_pos, go_sem]) (by simp -dsimp -implicitDefEqProofs [-getElem?_pos, go_sem]) (by simp -dsimp -implicitDefEqProofs [-getElem?_pos, go_sem]) (by simp -dsimp -implicitDefEqProofs [-getElem?_pos, go_sem]) (by simp -dsimp -implicitDefEqProofs [-getElem?_pos, go_sem, lt0])
  · have hk : k = l.length := by simp at h; omega
    subst hk
    rw [List.drop_length] at hks
    have : checkK a l = 0 := by rw [tK, hks]; rfl
    simp -dsimp -implicitDefEqProofs [-getElem?_pos, go_sem, hP, this]

set_option maxHeartbeats 1000000 in
theorem kept24_pf (a : TAccount) (l : List TKeep) (hl : a.Subs.length ≤ 100000) (he : a.Entries.length ≤ 100000) (hk : l.length ≤ 1000) : PFun Try.prog none none 50 [.agg a.cells, keepsL l] (· = bv (keptA a l)) := by
  refine pfun_intro Try.func50 rfl (by simp [Try.f50]) (by kernel_rfl) ?_
  intro E hP hr hs hW hN
  have ck := check24_pf a l hl he hk
  rw [cA] at ck
  have ia : Imm (.agg [iv a.Credit, subsL a.Subs, entsL a.Entries]) := imm_acc a
  simp -dsimp -implicitDefEqProofs [-getElem?_pos, go_sem, hP, cA]
  refine callB_is (ck.lift _ _) hP en_48 (by simp [ia, imm_keeps]) .sc ?_
  by_cases c1 : checkK a l = 0
  rotate_left
  · have : keptA a l = false := by rw [keptA, decide_eq_false c1]; rfl
    simp -dsimp -implicitDefEqProofs [-getElem?_pos, go_sem, hP, c1, this]
  have cc := (checkK_ok c1).1
  have tK : keptA a l = l.all fun k => decide (k.Low ≤ balI a.Subs k.Sub) && decide (balI a.Subs k.Sub ≤ k.High) := by rw [keptA, decide_eq_true c1]; rfl
  simp -dsimp -implicitDefEqProofs [-getElem?_pos, go_sem, hP, c1]
  obtain ⟨I, hI⟩ : ∃ I : Nat → St → Prop, I = fun m s => ∃ (k : Nat), k ≤ l.length ∧ m = l.length - k ∧ keptA a l = (l.drop k).all (fun k => decide (k.Low ≤ balI a.Subs k.Sub) && decide (balI a.Subs k.Sub ≤ k.High)) ∧ s.t 2 = .ref 0 0 0 ∧ s.t 13 = keepsL l ∧ s.t 14 = iv l.length ∧ s.t 15 = iv k ∧ s.H[0]? = some (some ⟨28, 3, [a.cells]⟩) := ⟨_, rfl⟩
  refine aloop0 I (l.length) (by rw [hN]; rfl) ?_ ?_
  · rw [hI]
    exact ⟨0, by omega, by omega, by simpa using tK, by simp -dsimp -implicitDefEqProofs [-getElem?_pos, go_sem], by simp -dsimp -implicitDefEqProofs [-getElem?_pos, go_sem], by simp -dsimp -implicitDefEqProofs [-getElem?_pos, go_sem], by simp -dsimp -implicitDefEqProofs [-getElem?_pos, go_sem], by simp -dsimp -implicitDefEqProofs [-getElem?_pos, go_sem, cA]⟩
  intro m s hs'
  rw [hI] at hs'
  obtain ⟨k, hk, hm, hks, t2, t13, t14, t15, hA⟩ := hs'
  have lt0 := (List.getElem?_eq_some_iff.1 hA).1
  simp -dsimp -implicitDefEqProofs [-getElem?_pos, go_sem, hP, t14, t15]
  refine condP (fun h => ?_) (fun h => ?_)
  · have hk : k < l.length := by simpa using h
    obtain ⟨x, hx⟩ : ∃ x, l[k]? = some x := ⟨_, List.getElem?_eq_getElem hk⟩
    have wk := wrap_in ((k : Int) + 1) (by omega)
    have hd : l.drop k = x :: l.drop (k + 1) := by
      rw [List.getElem?_eq_getElem hk] at hx
      rw [List.drop_eq_getElem_cons hk, Option.some.inj hx]
    rw [hd, List.all_cons] at hks
    have bl := balance23_pf a x.Sub hl he
    rw [balance_fst cc] at bl
    rw [cA] at bl
    obtain ⟨b2, hb2⟩ : ∃ b, b = (balanceA a x.Sub).2 := ⟨_, rfl⟩
    obtain ⟨b, hb⟩ : ∃ b, b = balI a.Subs x.Sub := ⟨_, rfl⟩
    rw [← hb2, ← hb] at bl
    rw [← hb] at hks
    simp -dsimp -implicitDefEqProofs [-getElem?_pos, go_sem, hP, t13, t15, hx, TKeep.cells, t2, hA, lt0, cA]
    refine callB_is (bl.lift _ _) hP en_36 (by simp [ia, imm_sc]) (imm_pair .sc .sc) ?_
    by_cases c2 : b < x.Low
    · have : keptA a l = false := by rw [hks, decide_eq_false (show ¬ x.Low ≤ b by omega)]; rfl
      simp -dsimp -implicitDefEqProofs [-getElem?_pos, go_sem, hP, c2, this]
    by_cases c3 : x.High < b
    · have : keptA a l = false := by rw [hks, decide_eq_true (show x.Low ≤ b by omega), decide_eq_false (show ¬ b ≤ x.High by omega)]; rfl
      simp -dsimp -implicitDefEqProofs [-getElem?_pos, go_sem, hP, c2, c3, this]
    rw [decide_eq_true (show x.Low ≤ b by omega), decide_eq_true (show b ≤ x.High by omega)] at hks
    simp -dsimp -implicitDefEqProofs [-getElem?_pos, go_sem, hP, c2, c3, t15, wk]
    refine ⟨l.length - (k + 1), by omega, ?_⟩
    rw [hI]
    exact ⟨k + 1, by omega, rfl, by simpa using hks, by simp -dsimp -implicitDefEqProofs [-getElem?_pos, go_sem, t2], by simp -dsimp -implicitDefEqProofs [-getElem?_pos, go_sem, t13], by simp -dsimp -implicitDefEqProofs [-getElem?_pos, go_sem, t14], by simp -dsimp -implicitDefEqProofs [-getElem?_pos, go_sem], by simp -dsimp -implicitDefEqProofs [-getElem?_pos, go_sem, lt0, hA]⟩
  · have hk : k = l.length := by simp at h; omega
    subst hk
    rw [List.drop_length] at hks
    have : keptA a l = true := hks
    simp -dsimp -implicitDefEqProofs [-getElem?_pos, go_sem, hP, this]

set_option maxHeartbeats 1000000 in
theorem short24_pf (a : TAccount) (l : List TKeep) (hl : a.Subs.length ≤ 100000) (he : a.Entries.length ≤ 100000) (hk : l.length ≤ 1000) : PFun Try.prog none none 51 [.agg a.cells, keepsL l] (· = iv (shortA a l)) := by
  refine pfun_intro Try.func51 rfl (by simp [Try.f51]) (by kernel_rfl) ?_
  intro E hP hr hs hW hN
  have ck := check24_pf a l hl he hk
  rw [cA] at ck
  have ia : Imm (.agg [iv a.Credit, subsL a.Subs, entsL a.Entries]) := imm_acc a
  simp -dsimp -implicitDefEqProofs [-getElem?_pos, go_sem, hP, cA]
  refine callB_is (ck.lift _ _) hP en_48 (by simp [ia, imm_keeps]) .sc ?_
  by_cases c1 : checkK a l = 0
  rotate_left
  · have : shortA a l = 0 := by rw [shortA, if_neg c1]
    simp -dsimp -implicitDefEqProofs [-getElem?_pos, go_sem, hP, c1, this]
  obtain ⟨cc, ck2⟩ := checkK_ok c1
  have km := keepsB_mem _ l 0 ck2
  have tK : shortA a l = shortL (balI a.Subs) l := by rw [shortA, if_pos c1]
  simp -dsimp -implicitDefEqProofs [-getElem?_pos, go_sem, hP, c1]
  obtain ⟨I, hI⟩ : ∃ I : Nat → St → Prop, I = fun m s => ∃ (k : Nat), k ≤ l.length ∧ m = l.length - k ∧ s.t 2 = .ref 0 0 0 ∧ s.t 5 = iv (shortL (balI a.Subs) (l.take k)) ∧ s.t 14 = keepsL l ∧ s.t 15 = iv l.length ∧ s.t 16 = iv k ∧ s.H[0]? = some (some ⟨28, 3, [a.cells]⟩) := ⟨_, rfl⟩
  refine aloop0 I (l.length) (by rw [hN]; rfl) ?_ ?_
  · rw [hI]
    exact ⟨0, by omega, by omega, by simp -dsimp -implicitDefEqProofs [-getElem?_pos, go_sem], by simp -dsimp -implicitDefEqProofs [-getElem?_pos, go_sem, shortL], by simp -dsimp -implicitDefEqProofs [-getElem?_pos, go_sem], by simp -dsimp -implicitDefEqProofs [-getElem?_pos, go_sem], by simp -dsimp -implicitDefEqProofs [-getElem?_pos, go_sem], by simp -dsimp -implicitDefEqProofs [-getElem?_pos, go_sem, cA]⟩
  intro m s hs'
  rw [hI] at hs'
  obtain ⟨k, hk, hm, t2, t5, t14, t15, t16, hA⟩ := hs'
  have lt0 := (List.getElem?_eq_some_iff.1 hA).1
  simp -dsimp -implicitDefEqProofs [-getElem?_pos, go_sem, hP, t15, t16]
  refine condP (fun h => ?_) (fun h => ?_)
  · have hk : k < l.length := by simpa using h
    obtain ⟨x, hx⟩ : ∃ x, l[k]? = some x := ⟨_, List.getElem?_eq_getElem hk⟩
    have wk := wrap_in ((k : Int) + 1) (by omega)
    have e1 : l.take (k + 1) = l.take k ++ [x] := by rw [List.take_add_one, hx]; rfl
    have bs := shortL_bound (balI a.Subs) (balI_bounds cc) (l.take (k + 1)) fun y hy => by have := km y (List.mem_of_mem_take hy); omega
    have blen : (l.take (k + 1)).length ≤ 1000 := by rw [List.length_take]; omega
    have es : shortL (balI a.Subs) (l.take (k + 1)) = shortL (balI a.Subs) (l.take k) + missK (balI a.Subs) x := by rw [e1, shortL_snoc]
    have hbb := balI_bounds cc x.Sub
    have hkx := km x (List.mem_of_getElem? hx)
    have bl := balance23_pf a x.Sub hl he
    rw [balance_fst cc] at bl
    rw [cA] at bl
    obtain ⟨b2, hb2⟩ : ∃ b, b = (balanceA a x.Sub).2 := ⟨_, rfl⟩
    unfold missK at es
    obtain ⟨b, hb⟩ : ∃ b, b = balI a.Subs x.Sub := ⟨_, rfl⟩
    rw [← hb2, ← hb] at bl
    rw [← hb] at es hbb
    have fin : ∀ s' : St, s'.t 2 = s.t 2 → s'.t 5 = iv (shortL (balI a.Subs) (l.take (k + 1))) → s'.t 14 = s.t 14 → s'.t 15 = s.t 15 → s'.t 16 = iv ((k : Int) + 1) → s'.H[0]? = s.H[0]? → ∃ n', n' < m ∧ I n' s' := fun s' e2 e5 e14 e15 e16 eH => by
      refine ⟨l.length - (k + 1), by omega, ?_⟩
      rw [hI]
      exact ⟨k + 1, by omega, rfl, by rw [e2, t2], e5, by rw [e14, t14], by rw [e15, t15], by rw [e16]; simp, by rw [eH, hA]⟩
    simp -dsimp -implicitDefEqProofs [-getElem?_pos, go_sem, hP, t14, t16, hx, TKeep.cells, t2, hA, lt0, cA]
    refine callB_is (bl.lift _ _) hP en_36 (by simp [ia, imm_sc]) (imm_pair .sc .sc) ?_
    by_cases c2 : b < x.Low
    · have w1 := wrap_in (x.Low - b) (by omega)
      have w2 := wrap_in (shortL (balI a.Subs) (l.take k) + (x.Low - b)) (by omega)
      simp -dsimp -implicitDefEqProofs [-getElem?_pos, go_sem, hP, c2, t5, w1, w2, t16, wk]
      exact fin _ (by simp -dsimp -implicitDefEqProofs [-getElem?_pos, go_sem]) (by simp -dsimp -implicitDefEqProofs [-getElem?_pos, go_sem]; omega) (by simp -dsimp -implicitDefEqProofs [-getElem?_pos, go_sem]) (by simp -dsimp -implicitDefEqProofs [-getElem?_pos, go_sem]) (by simp -dsimp -implicitDefEqProofs [-getElem?_pos, go_sem]) (by simp -dsimp -implicitDefEqProofs [-getElem?_pos, go_sem, lt0])
    · simp -dsimp -implicitDefEqProofs [-getElem?_pos, go_sem, hP, c2, t16, wk]
      exact fin _ (by simp -dsimp -implicitDefEqProofs [-getElem?_pos, go_sem]) (by simp -dsimp -implicitDefEqProofs [-getElem?_pos, go_sem, t5]; omega) (by simp -dsimp -implicitDefEqProofs [-getElem?_pos, go_sem]) (by simp -dsimp -implicitDefEqProofs [-getElem?_pos, go_sem]) (by simp -dsimp -implicitDefEqProofs [-getElem?_pos, go_sem]) (by simp -dsimp -implicitDefEqProofs [-getElem?_pos, go_sem, lt0])
  · have hk : k = l.length := by simp at h; omega
    subst hk
    rw [List.take_length] at t5
    simp -dsimp -implicitDefEqProofs [-getElem?_pos, go_sem, hP, t5, tK]
end Go.Proofs.Ytcfkdimndhapfaa
