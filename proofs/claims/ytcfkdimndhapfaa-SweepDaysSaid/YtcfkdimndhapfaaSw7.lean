/- Sweeps: the program's Check, Kept, Short. -/
import Derived.Test.YtcfkdimndhapfaaSw6
set_option linter.unusedSimpArgs false
set_option linter.unusedVariables false
namespace Go.Proofs.Ytcfkdimndhapfaa
open Go.PA
open Go.RowKit

theorem splace_pf (l : List TSub) (id : Int) (hl : l.length ≤ 100000) : PFun Try.prog none none 76 [subsL l, iv id] (· = iv (placeI l id)) := by
  refine pfun_intro Try.func76 rfl (by simp [Try.f76]) (by kernel_rfl) ?_
  intro E hP hr hs hW hN
  simp -dsimp -implicitDefEqProofs [-getElem?_pos, go_sem, hP]
  refine callB_m (by rw [hr, hs]; exact index_m_sub l (subsL l) _ 84 [.ref 0 0 0] (fun s => decide (s.ID = id)) (.inl rfl) (by omega) en_84 (fun a _ H' hk => isidS_m a H' 0 id (hk _ _ (by simp) (by simp)))) hP en_68 ?_
  rintro r H' ⟨rfl, hk⟩
  simp -dsimp -implicitDefEqProofs [-getElem?_pos, go_sem, hP]
  rfl

set_option maxHeartbeats 1000000 in
theorem scheck_pf (a : TAccount) (l : List TKeep) (hl : a.Subs.length ≤ 100000) (he : a.Entries.length ≤ 100000) (hk : l.length ≤ 1000) : PFun Try.prog none none 47 [.agg a.cells, keepsL l] (· = iv (checkK a l)) := by
  refine pfun_intro Try.func47 rfl (by simp [Try.f47]) (by kernel_rfl) ?_
  intro E hP hr hs hW hN
  have ck := check_pf a hl he
  rw [cA] at ck
  have ia : Imm (.agg [iv a.Credit, subsL a.Subs, entsL a.Entries]) := imm_acc a
  simp -dsimp -implicitDefEqProofs [-getElem?_pos, go_sem, hP, cA]
  refine callB_is (ck.lift _ _) hP en_17 (by simp [ia]) .sc ?_
  by_cases c1 : checkA a = 0
  rotate_left
  · have : checkK a l = checkA a := by rw [checkK, if_neg c1]
    simp -dsimp -implicitDefEqProofs [-getElem?_pos, go_sem, hP, c1, this]
  have tK : checkK a l = if keepsB (ids a.Subs) 0 l = true then 0 else 63 := by rw [checkK, if_pos c1]
  simp -dsimp -implicitDefEqProofs [-getElem?_pos, go_sem, hP, c1]
  obtain ⟨I, hI⟩ : ∃ I : Nat → St → Prop, I = fun m s => ∃ (k : Nat) (p : Int), k ≤ l.length ∧ m = l.length - k ∧ keepsB (ids a.Subs) 0 l = keepsB (ids a.Subs) p (l.drop k) ∧ (k = 0 → p = 0) ∧ (∀ j x, k = j + 1 → l[j]? = some x → p = x.Sub) ∧ s.t 1 = keepsL l ∧ s.t 2 = .ref 0 0 0 ∧ s.t 13 = keepsL l ∧ s.t 14 = iv l.length ∧ s.t 15 = iv k ∧ s.H[0]? = some (some ⟨28, 3, [a.cells]⟩) := ⟨_, rfl⟩
  refine aloop0 I (l.length) (by rw [hN]; rfl) ?_ ?_
  · rw [hI]
    exact ⟨0, 0, by omega, by omega, by simp, by simp, by omega, by simp -dsimp -implicitDefEqProofs [-getElem?_pos, go_sem], by simp -dsimp -implicitDefEqProofs [-getElem?_pos, go_sem], by simp -dsimp -implicitDefEqProofs [-getElem?_pos, go_sem], by simp -dsimp -implicitDefEqProofs [-getElem?_pos, go_sem], by simp -dsimp -implicitDefEqProofs [-getElem?_pos, go_sem], by simp -dsimp -implicitDefEqProofs [-getElem?_pos, go_sem, cA]⟩
  intro m s hs'
  rw [hI] at hs'
  obtain ⟨k, p, hk, hm, hks, hp0, hp1, t1, t2, t13, t14, t15, hA⟩ := hs'
  have lt0 := (List.getElem?_eq_some_iff.1 hA).1
  simp -dsimp -implicitDefEqProofs [-getElem?_pos, go_sem, hP, t14, t15]
  refine condP (fun h => ?_) (fun h => ?_)
  · have hk : k < l.length := by simpa using h
    obtain ⟨x, hx⟩ : ∃ x, l[k]? = some x := ⟨_, List.getElem?_eq_getElem hk⟩
    have wk := wrap_in ((k : Int) + 1) (by omega)
    have hd : l.drop k = x :: l.drop (k + 1) := by
      rw [List.getElem?_eq_getElem hk] at hx
      rw [List.drop_eq_getElem_cons hk, Option.some.inj hx]
    rw [hd, keepsB] at hks
    have fin : ∀ s' : St, keepB (ids a.Subs) p x = true → s'.t 1 = s.t 1 → s'.t 2 = s.t 2 → s'.t 13 = s.t 13 → s'.t 14 = s.t 14 → s'.t 15 = iv ((k : Int) + 1) → s'.H[0]? = s.H[0]? → ∃ n', n' < m ∧ I n' s' := fun s' hc e1 e2 e15 e16 e17 eH => by
      refine ⟨l.length - (k + 1), by omega, ?_⟩
      rw [hI]
      refine ⟨k + 1, x.Sub, by omega, rfl, ?_, by omega, fun j y hj hy => ?_, by rw [e1, t1], by rw [e2, t2], by rw [e15, t13], by rw [e16, t14], by rw [e17]; simp, by rw [eH, hA]⟩
      · rw [hks, hc]; simp
      · have : j = k := by omega
        subst this
        rw [hx] at hy
        rw [Option.some.inj hy]
    have bad : ¬ keepB (ids a.Subs) p x = true → checkK a l = 63 := fun h => by
      have h : keepB (ids a.Subs) p x = false := by simpa using h
      rw [tK, hks, h]
      simp
    rw [keepB_iff] at bad fin
    simp -dsimp -implicitDefEqProofs [-getElem?_pos, go_sem, hP, t13, t15, hx, TKeep.cells, t2, hA, lt0, cA]
    refine adrawB (fun _ => true) [] hP (by kernel_rfl) (by kernel_rfl) ?_
    by_cases c3 : x.Sub = 1
    · have d3 : decide (x.Sub = 1) = true := decide_eq_true c3
      have := bad fun h => h.2.1 c3
      simp -dsimp -implicitDefEqProofs [-getElem?_pos, go_sem, hP, d3, this]
    simp -dsimp -implicitDefEqProofs [-getElem?_pos, go_sem, hP, c3, t2, hA, lt0, cA]
    refine callB_pure (splace_pf a.Subs x.Sub hl) hP en_76 (args_imm (imm_subs _) (args_imm .sc (args_nil.2 trivial))) .sc ?_
    rcases placeI_spec a.Subs x.Sub with ⟨hp, c2⟩ | ⟨i, u, _, _, hp, c2⟩
    · have := bad fun h => c2 h.1
      simp -dsimp -implicitDefEqProofs [-getElem?_pos, go_sem, hP, hp, this]
    have dp : decide ((i : Int) < 0) = false := decide_eq_false (by omega)
    have hpos := ids_pos c1 c2
    by_cases c4 : x.Low < 0
    · have := bad fun h => by have := h.2.2.2.1; omega
      simp -dsimp -implicitDefEqProofs [-getElem?_pos, go_sem, hP, hp, dp, c4, this]
    by_cases c6 : x.High < x.Low
    · have := bad fun h => by have := h.2.2.2.2.1; omega
      simp -dsimp -implicitDefEqProofs [-getElem?_pos, go_sem, hP, hp, dp, c4, c6, this]
    by_cases c7 : 1000000000000 < x.High
    · have := bad fun h => by have := h.2.2.2.2.2; omega
      simp -dsimp -implicitDefEqProofs [-getElem?_pos, go_sem, hP, hp, dp, c4, c6, c7, this]
    rcases Nat.eq_zero_or_pos k with hk0 | hkp
    · have d0 : decide (k = 0) = true := decide_eq_true hk0
      have d1 : decide (0 < k) = false := decide_eq_false (by omega)
      have hpp : p < x.Sub := by rw [hp0 hk0]; exact hpos
      simp -dsimp -implicitDefEqProofs [-getElem?_pos, go_sem, hP, hp, dp, t15, d0, d1, c4, c6, c7, wk]
      exact fin _ ⟨c2, c3, hpp, by omega, by omega, by omega⟩ (by simp -dsimp -implicitDefEqProofs [-getElem?_pos, go_sem]) (by simp -dsimp -implicitDefEqProofs [-getElem?_pos, go_sem]) (by simp -dsimp -implicitDefEqProofs [-getElem?_pos, go_sem]) (by simp -dsimp -implicitDefEqProofs [-getElem?_pos, go_sem]) (by simp -dsimp -implicitDefEqProofs [-getElem?_pos, go_sem]) (by simp -dsimp -implicitDefEqProofs [-getElem?_pos, go_sem, lt0])
    · obtain ⟨j, rfl⟩ : ∃ j, k = j + 1 := ⟨k - 1, by omega⟩
      obtain ⟨y, hy⟩ : ∃ y, l[j]? = some y := ⟨_, List.getElem?_eq_getElem (by omega)⟩
      have d0 : decide (((j : Int) + 1) = 0) = false := decide_eq_false (by omega)
      have d1 : decide ((0 : Int) < (j : Int) + 1) = true := decide_eq_true (by omega)
      have wj := wrap_in ((j : Int) + 1 - 1) (by omega)
      rw [Int.add_sub_cancel] at wj
      have wk' := wrap_in ((j : Int) + 1 + 1) (by omega)
      have hpy := hp1 j y rfl hy
      by_cases c5 : x.Sub ≤ y.Sub
      · have := bad fun h => by have := h.2.2.1; omega
        simp -dsimp -implicitDefEqProofs [-getElem?_pos, go_sem, hP, hp, dp, t15, d0, d1, Int.add_sub_cancel, wj, t1, hy, TKeep.cells, c5, c4, c6, c7, this]
      · simp -dsimp -implicitDefEqProofs [-getElem?_pos, go_sem, hP, hp, dp, t15, d0, d1, Int.add_sub_cancel, wj, t1, hy, TKeep.cells, c5, c4, c6, c7, wk']
        exact fin _ ⟨c2, c3, by omega, by omega, by omega, by omega⟩ (by simp -dsimp -implicitDefEqProofs [-getElem?_pos, go_sem]) (by simp -dsimp -implicitDefEqProofs [-getElem?_pos, go_sem]) (by simp -dsimp -implicitDefEqProofs [-getElem?_pos, go_sem]) (by simp -dsimp -implicitDefEqProofs [-getElem?_pos, go_sem]) (by simp -dsimp -implicitDefEqProofs [-getElem?_pos, go_sem]) (by simp -dsimp -implicitDefEqProofs [-getElem?_pos, go_sem, lt0])
  · have hk : k = l.length := by simp at h; omega
    subst hk
    rw [List.drop_length] at hks
    have : checkK a l = 0 := by rw [tK, hks]; rfl
    simp -dsimp -implicitDefEqProofs [-getElem?_pos, go_sem, hP, this]

set_option maxHeartbeats 1000000 in
theorem sshort_pf (a : TAccount) (l : List TKeep) (hl : a.Subs.length ≤ 100000) (he : a.Entries.length ≤ 100000) (hk : l.length ≤ 1000) : PFun Try.prog none none 46 [.agg a.cells, keepsL l] (· = iv (shortA a l)) := by
  refine pfun_intro Try.func46 rfl (by simp [Try.f46]) (by kernel_rfl) ?_
  intro E hP hr hs hW hN
  have ck := scheck_pf a l hl he hk
  rw [cA] at ck
  have ia : Imm (.agg [iv a.Credit, subsL a.Subs, entsL a.Entries]) := imm_acc a
  simp -dsimp -implicitDefEqProofs [-getElem?_pos, go_sem, hP, cA]
  refine callB_is (ck.lift _ _) hP en_47 (by simp [ia, imm_keeps]) .sc ?_
  by_cases c1 : checkK a l = 0
  rotate_left
  · have : shortA a l = 0 := by rw [shortA, if_neg c1]
    simp -dsimp -implicitDefEqProofs [-getElem?_pos, go_sem, hP, c1, this]
  obtain ⟨cc, ck2⟩ := checkK_ok c1
  have km := keepsB_mem _ l 0 ck2
  have tK : shortA a l = shortL (balI a.Subs) l := by rw [shortA, if_pos c1]
  simp -dsimp -implicitDefEqProofs [-getElem?_pos, go_sem, hP, c1]
  obtain ⟨I, hI⟩ : ∃ I : Nat → St → Prop, I = fun m s => ∃ (k : Nat), k ≤ l.length ∧ m = l.length - k ∧ s.t 2 = .ref 0 0 0 ∧ s.t 5 = iv (shortL (balI a.Subs) (l.take k)) ∧ s.t 14 = keepsL l ∧ s.t 15 = iv l.length ∧ s.t 16 = iv k ∧ s.H[0]? = some (some ⟨28, 3, [a.cells]⟩) := ⟨_, rfl⟩
  refine aloop0 I (l.length) (by rw [hN]; rfl) ?_ ?_
  · rw [hI]
    exact ⟨0, by omega, by omega, by simp -dsimp -implicitDefEqProofs [-getElem?_pos, go_sem], by simp -dsimp -implicitDefEqProofs [-getElem?_pos, go_sem, shortL], by simp -dsimp -implicitDefEqProofs [-getElem?_pos, go_sem], by simp -dsimp -implicitDefEqProofs [-getElem?_pos, go_sem], by simp -dsimp -implicitDefEqProofs [-getElem?_pos, go_sem], by simp -dsimp -implicitDefEqProofs [-getElem?_pos, go_sem, cA]⟩
  intro m s hs'
  rw [hI] at hs'
  obtain ⟨k, hk, hm, t2, t5, t14, t15, t16, hA⟩ := hs'
  have lt0 := (List.getElem?_eq_some_iff.1 hA).1
  simp -dsimp -implicitDefEqProofs [-getElem?_pos, go_sem, hP, t15, t16]
  refine condP (fun h => ?_) (fun h => ?_)
  · have hk : k < l.length := by simpa using h
    obtain ⟨x, hx⟩ : ∃ x, l[k]? = some x := ⟨_, List.getElem?_eq_getElem hk⟩
    have wk := wrap_in ((k : Int) + 1) (by omega)
    have e1 := take_snoc hx
    have bs := shortL_bound (balI a.Subs) (balI_bounds cc) (l.take (k + 1)) fun y hy => by have := km y (List.mem_of_mem_take hy); omega
    have blen : (l.take (k + 1)).length ≤ 1000 := by rw [List.length_take]; omega
    have es : shortL (balI a.Subs) (l.take (k + 1)) = shortL (balI a.Subs) (l.take k) + missK (balI a.Subs) x := by rw [e1, shortL_snoc]
    have hbb := balI_bounds cc x.Sub
    have hkx := km x (List.mem_of_getElem? hx)
    have bl := balance_pf a x.Sub hl he
    rw [balance_fst cc] at bl
    rw [cA] at bl
    obtain ⟨b2, hb2⟩ : ∃ b, b = (balanceA a x.Sub).2 := ⟨_, rfl⟩
    unfold missK at es
    obtain ⟨b, hb⟩ : ∃ b, b = balI a.Subs x.Sub := ⟨_, rfl⟩
    rw [← hb2, ← hb] at bl
    rw [← hb] at es hbb
    have w1 := wrap_in (x.Low - b) (by omega)
    have w2 := wrap_in (shortL (balI a.Subs) (l.take k) + max (x.Low - b) 0) (by omega)
    simp -dsimp -implicitDefEqProofs [-getElem?_pos, go_sem, hP, t14, t16, hx, TKeep.cells, t2, hA, lt0, cA]
    refine callB_is (bl.lift _ _) hP en_35 (by simp [ia, imm_sc]) (imm_pair .sc .sc) ?_
    simp -dsimp -implicitDefEqProofs [-getElem?_pos, go_sem, hP, t5, w1, amax, amaxFrom, w2, t16, wk]
    refine ⟨l.length - (k + 1), by omega, ?_⟩
    rw [hI]
    exact ⟨k + 1, by omega, rfl, by simp -dsimp -implicitDefEqProofs [-getElem?_pos, go_sem, t2], by simp -dsimp -implicitDefEqProofs [-getElem?_pos, go_sem, es], by simp -dsimp -implicitDefEqProofs [-getElem?_pos, go_sem, t14], by simp -dsimp -implicitDefEqProofs [-getElem?_pos, go_sem, t15], by simp -dsimp -implicitDefEqProofs [-getElem?_pos, go_sem], by simp -dsimp -implicitDefEqProofs [-getElem?_pos, go_sem, lt0, hA]⟩
  · have hk : k = l.length := by simp at h; omega
    subst hk
    rw [List.take_length] at t5
    simp -dsimp -implicitDefEqProofs [-getElem?_pos, go_sem, hP, t5, tK]

theorem outside_m {row src : Option Nat} (a : TAccount) (hl : a.Subs.length ≤ 100000) (he : a.Entries.length ≤ 100000) (cc : checkA a = 0) (k : TKeep) (H : Heap) (b : Nat) (hb : H[b]? = some (some ⟨28, 3, [a.cells]⟩)) :
    MFun Try.prog row src 77 [.agg k.cells, .ref b 0 0] H (fun r H' => r = bv (!(decide (k.Low ≤ balI a.Subs k.Sub) && decide (balI a.Subs k.Sub ≤ k.High))) ∧ Kept [] H H') := by
  refine mfun_intro Try.func77 rfl (by simp [Try.f77]) (by kernel_rfl) (⟨_, H, rfl, kept_refl _ _⟩) ?_
  intro E hP hr hs hN
  have hlt := (List.getElem?_eq_some_iff.1 hb).1
  have ia : Imm (.agg [iv a.Credit, subsL a.Subs, entsL a.Entries]) := imm_acc a
  have bl := balance_pf a k.Sub hl he
  rw [balance_fst cc, cA] at bl
  obtain ⟨b2, hb2⟩ : ∃ b, b = (balanceA a k.Sub).2 := ⟨_, rfl⟩
  obtain ⟨bb, hbb⟩ : ∃ b, b = balI a.Subs k.Sub := ⟨_, rfl⟩
  rw [← hb2, ← hbb] at bl
  obtain ⟨w, hw⟩ : ∃ w, w = !(decide (k.Low ≤ bb) && decide (bb ≤ k.High)) := ⟨_, rfl⟩
  rw [← hbb, ← hw]
  simp -dsimp -implicitDefEqProofs [-getElem?_pos, go_sem, hP, TKeep.cells, hb, hlt, cA]
  refine callB_is (bl.lift _ _) hP en_35 (by simp [ia, imm_sc]) (imm_pair .sc .sc) ?_
  by_cases c1 : bb < k.Low
  · have : w = true := by rw [hw, decide_eq_false (show ¬ k.Low ≤ bb by omega)]; rfl
    simp -dsimp -implicitDefEqProofs [-getElem?_pos, go_sem, hP, c1, this]
    exact kept_push _ (kept_refl _ _)
  · have d1 := decide_eq_true (show k.Low ≤ bb by omega)
    by_cases c2 : k.High < bb
    · have : w = true := by rw [hw, d1, decide_eq_false (show ¬ bb ≤ k.High by omega)]; rfl
      simp -dsimp -implicitDefEqProofs [-getElem?_pos, go_sem, hP, c1, c2, this]
      exact kept_push _ (kept_refl _ _)
    · have : w = false := by rw [hw, d1, decide_eq_true (show bb ≤ k.High by omega)]; rfl
      simp -dsimp -implicitDefEqProofs [-getElem?_pos, go_sem, hP, c1, c2, this]
      exact kept_push _ (kept_refl _ _)

theorem contains_m {row src : Option Nat} (l : List TKeep) (x : AV) (H : Heap) (g : FuncId) (caps : List AV) (p : TKeep → Bool) (hx : SlIs H x 3 (encL TKeep.cells l)) (hl : l.length ≤ 1000000) (hen : enterable Try.prog g = true)
    (hg : ∀ a, a ∈ l → ∀ H', Kept [] H H' → MFun Try.prog row src g (.agg (TKeep.cells a) :: caps) H' (fun r H'' => r = bv (p a) ∧ Kept [] H' H'')) :
    MFun Try.prog row src 78 [x, .fn g caps] H (fun r H' => r = bv (l.any p) ∧ Kept [] H H') := by
  refine mfun_intro Try.func78 rfl (by simp [Try.f78]) (by kernel_rfl) ⟨_, H, rfl, kept_refl _ _⟩ ?_
  intro E hP hr hs hN
  obtain ⟨w, hw⟩ : ∃ w, w = l.any p := ⟨_, rfl⟩
  rw [← hw]
  simp -dsimp -implicitDefEqProofs [-getElem?_pos, go_sem, hP]
  refine callB_m (by rw [hr, hs]; exact index_m_keep l x H g caps p hx hl hen hg) hP en_85 ?_
  rintro r H' ⟨rfl, hk⟩
  rcases idxI_spec p l with ⟨h1, h2⟩ | ⟨i, a, h1, h2, h3, _⟩
  · have : w = false := by rw [hw]; exact List.any_eq_false.2 fun a ha => by simp [h2 a ha]
    simp -dsimp -implicitDefEqProofs [-getElem?_pos, go_sem, hP, h1, this]
    exact hk
  · have d : decide ((0 : Int) ≤ (i : Int)) = true := decide_eq_true (by omega)
    have : w = true := by rw [hw]; exact List.any_eq_true.2 ⟨a, List.mem_of_getElem? h1, h2⟩
    simp -dsimp -implicitDefEqProofs [-getElem?_pos, go_sem, hP, h3, d, this]
    exact hk

set_option maxHeartbeats 1000000 in
theorem skept_pf (a : TAccount) (l : List TKeep) (hl : a.Subs.length ≤ 100000) (he : a.Entries.length ≤ 100000) (hk : l.length ≤ 1000) : PFun Try.prog none none 49 [.agg a.cells, keepsL l] (· = bv (keptA a l)) := by
  refine pfun_intro Try.func49 rfl (by simp [Try.f49]) (by kernel_rfl) ?_
  intro E hP hr hs hW hN
  have ck := scheck_pf a l hl he hk
  rw [cA] at ck
  have ia : Imm (.agg [iv a.Credit, subsL a.Subs, entsL a.Entries]) := imm_acc a
  simp -dsimp -implicitDefEqProofs [-getElem?_pos, go_sem, hP, cA]
  refine callB_is (ck.lift _ _) hP en_47 (by simp [ia, imm_keeps]) .sc ?_
  by_cases c1 : checkK a l = 0
  rotate_left
  · have : keptA a l = false := by rw [keptA, decide_eq_false c1]; rfl
    simp -dsimp -implicitDefEqProofs [-getElem?_pos, go_sem, hP, c1, this]
  have cc := (checkK_ok c1).1
  have tK : keptA a l = !(l.any fun k => !(decide (k.Low ≤ balI a.Subs k.Sub) && decide (balI a.Subs k.Sub ≤ k.High))) := by
    rw [keptA, decide_eq_true c1, Bool.true_and, List.not_any_eq_all_not]
    simp
  simp -dsimp -implicitDefEqProofs [-getElem?_pos, go_sem, hP, c1]
  refine callB_m (by rw [hr, hs]; exact contains_m l (keepsL l) _ 77 [.ref 0 0 0] (fun k => !(decide (k.Low ≤ balI a.Subs k.Sub) && decide (balI a.Subs k.Sub ≤ k.High))) (.inl rfl) (by omega) en_77 (fun k _ H' hk => outside_m a hl he cc k H' 0 (hk _ _ (by simp) (by simp [cA])))) hP en_78 ?_
  rintro r H' ⟨rfl, hk⟩
  simp -dsimp -implicitDefEqProofs [-getElem?_pos, go_sem, hP, tK]
end Go.Proofs.Ytcfkdimndhapfaa
