/- Sweeps: the program's Plan and Sweep. -/
import Derived.Test.YtcfkdimndhapfaaSw7
set_option linter.unusedSimpArgs false
set_option linter.unusedVariables false
namespace Go.Proofs.Ytcfkdimndhapfaa
open Go.PA
open Go.RowKit

theorem pfun_list_nil {P : Program} {row src : Option Nat} {f : FuncId} {args : List AV} {k : Nat} {Q : AV → Prop} (h : ∀ A c, PFun P row src f (.sc (.slice A 0 c) :: args) Q) : PFun P row src f (.list k [] :: args) Q := by
  intro w ok vs h1 h2 h3 h4
  have h0 : 0 < vs.size := by rw [h3]; simp
  have hv := h4 0 vs[0] (.list k []) (Array.getElem?_eq_getElem h0) rfl
  have key : ∃ A c, vs[0] = .slice A 0 c := by
    generalize vs[0] = v at hv
    cases hv with
    | listNil => exact ⟨_, _, rfl⟩
    | list f hn _ _ _ _ _ _ => subst hn; exact ⟨_, _, rfl⟩
  obtain ⟨A, c, hA⟩ := key
  refine h A c w ok vs h1 h2 (by simpa using h3) fun i v a hv ha => ?_
  match i, hv, ha with
  | 0, hv, ha =>
    rw [Array.getElem?_eq_getElem h0, hA] at hv
    simp at hv ha
    subst hv; subst ha
    exact .sc
  | i + 1, hv, ha => exact h4 (i + 1) v a hv ha

theorem clone_pf_sub (l : List TSub) (hl : l.length ≤ 1000000) : PFun Try.prog none none 72 [.list 2 (encL TSub.cells l)] (· = .list 2 (encL TSub.cells l)) := by
  cases l with
  | nil =>
    refine pfun_list_nil fun A c => ?_
    refine pfun_intro Try.func72 rfl (by simp [Try.f72]) (by kernel_rfl) ?_
    intro E hP hr hs hW hN
    cases A with
    | none =>
      simp -dsimp -implicitDefEqProofs [-getElem?_pos, go_sem, hP]
      exact done_weak .nil (imm_list.2 (by simp)) (.nil _) rfl
    | some a =>
      simp -dsimp -implicitDefEqProofs [-getElem?_pos, go_sem, hP]
      refine done_weak (x := .list 2 []) ?_ (imm_list.2 (by simp)) ?_ rfl
      · simp -dsimp -implicitDefEqProofs [-getElem?_pos, go_sem]
      · simp -dsimp -implicitDefEqProofs [-getElem?_pos, go_sem]
        first | exact .refl _ | skip
  | cons a l =>
    refine pfun_intro Try.func72 rfl (by simp [Try.f72]) (by kernel_rfl) ?_
    intro E hP hr hs hW hN
    simp only [List.length_cons] at hl
    have e : encL TSub.cells (a :: l) = TSub.cells a :: encL TSub.cells l := rfl
    have im : Imm (.list 2 (TSub.cells a :: encL TSub.cells l)) := by rw [← e]; exact imm_encL _ TSub.imm _
    have et : (TSub.cells a :: encL TSub.cells l).take (l.length + 1) = TSub.cells a :: encL TSub.cells l := by
      rw [← e]
      exact encL_take TSub.cells (a :: l) _ (by simp)
    simp -dsimp -implicitDefEqProofs [-getElem?_pos, go_sem, hP, e]
    refine ⟨by omega, by omega, ?_⟩
    refine done_weak (x := .list 2 (TSub.cells a :: encL TSub.cells l)) ?_ im ?_ rfl
    · simp -dsimp -implicitDefEqProofs [-getElem?_pos, go_sem]
      first | exact im | (have h := imm_list.1 im; simp only [List.mem_cons, forall_eq_or_imp] at h; exact h)
    · simp -dsimp -implicitDefEqProofs [-getElem?_pos, go_sem]
      first | exact .refl _ | skip

theorem clone_pf_entry (l : List TEntry) (hl : l.length ≤ 1000000) : PFun Try.prog none none 60 [.list 6 (encL TEntry.cells l)] (· = .list 6 (encL TEntry.cells l)) := by
  cases l with
  | nil =>
    refine pfun_list_nil fun A c => ?_
    refine pfun_intro Try.func60 rfl (by simp [Try.f60]) (by kernel_rfl) ?_
    intro E hP hr hs hW hN
    cases A with
    | none =>
      simp -dsimp -implicitDefEqProofs [-getElem?_pos, go_sem, hP]
      exact done_weak .nil (imm_list.2 (by simp)) (.nil _) rfl
    | some a =>
      simp -dsimp -implicitDefEqProofs [-getElem?_pos, go_sem, hP]
      refine done_weak (x := .list 6 []) ?_ (imm_list.2 (by simp)) ?_ rfl
      · simp -dsimp -implicitDefEqProofs [-getElem?_pos, go_sem]
      · simp -dsimp -implicitDefEqProofs [-getElem?_pos, go_sem]
        first | exact .refl _ | skip
  | cons a l =>
    refine pfun_intro Try.func60 rfl (by simp [Try.f60]) (by kernel_rfl) ?_
    intro E hP hr hs hW hN
    simp only [List.length_cons] at hl
    have e : encL TEntry.cells (a :: l) = TEntry.cells a :: encL TEntry.cells l := rfl
    have im : Imm (.list 6 (TEntry.cells a :: encL TEntry.cells l)) := by rw [← e]; exact imm_encL _ TEntry.imm _
    have et : (TEntry.cells a :: encL TEntry.cells l).take (l.length + 1) = TEntry.cells a :: encL TEntry.cells l := by
      rw [← e]
      exact encL_take TEntry.cells (a :: l) _ (by simp)
    simp -dsimp -implicitDefEqProofs [-getElem?_pos, go_sem, hP, e]
    refine ⟨by omega, by omega, ?_⟩
    refine done_weak (x := .list 6 (TEntry.cells a :: encL TEntry.cells l)) ?_ im ?_ rfl
    · simp -dsimp -implicitDefEqProofs [-getElem?_pos, go_sem]
      first | exact im | (have h := imm_list.1 im; simp only [List.mem_cons, forall_eq_or_imp] at h; exact h)
    · simp -dsimp -implicitDefEqProofs [-getElem?_pos, go_sem]
      first | exact .refl _ | skip


set_option maxHeartbeats 4000000 in
theorem splan_pf (a : TAccount) (l : List TKeep) (day : Int) (hl : a.Subs.length ≤ 100000) (he : a.Entries.length ≤ 100000) (hk : l.length ≤ 1000) : PFun Try.prog none none 42 [.agg a.cells, keepsL l, iv day] (· = .tup [entsL (planA a l day).1, iv (planA a l day).2]) := by
  refine pfun_intro Try.func42 rfl (by simp [Try.f42]) (by kernel_rfl) ?_
  intro E hP hr hs hW hN
  have ck := scheck_pf a l hl he hk
  rw [cA] at ck
  have ia : Imm (.agg [iv a.Credit, subsL a.Subs, entsL a.Entries]) := imm_acc a
  simp -dsimp -implicitDefEqProofs [-getElem?_pos, go_sem, hP, cA]
  refine callB_is (ck.lift _ _) hP en_47 (by simp [ia, imm_keeps]) .sc ?_
  by_cases c1 : checkK a l = 0
  rotate_left
  · have : planA a l day = ([], checkK a l) := by rw [planA, if_neg c1]
    simp -dsimp -implicitDefEqProofs [-getElem?_pos, go_sem, hP, c1]
    refine done_nil2 6 ?_
    rw [this]
    simp [encL]
  obtain ⟨cc, ck2⟩ := checkK_ok c1
  have km := keepsB_mem _ l 0 ck2
  have knd := keepsB_nodup _ l 0 ck2
  obtain ⟨k1, k2, k3, k4, k5⟩ := check_ok cc
  obtain ⟨q1, q2, q3, q4⟩ := check_keeps cc
  obtain ⟨hnd, hz0, hhd⟩ := numB_facts k4
  obtain ⟨bal, hbal⟩ : ∃ bal, bal = balI a.Subs := ⟨_, rfl⟩
  have bb : ∀ i, -1000000000000 ≤ bal i ∧ bal i ≤ 1000000000000000 := hbal ▸ balI_bounds cc
  have early : ¬ amongB day (lastE a).Day 36000 = true → planA a l day = ([], 8) := fun h => by rw [planA, if_pos c1, if_neg h]
  have tP : amongB day (lastE a).Day 36000 = true → planA a l day = if 400 < a.Entries.length + (planL bal a.Entries.length day l).2.length then ([], 3) else ((planL bal a.Entries.length day l).2, 0) := fun h => by rw [planA, if_pos c1, if_pos h, hbal]
  obtain ⟨n, hn⟩ : ∃ n, n = a.Entries.length := ⟨_, rfl⟩
  have n400 : n ≤ 400 := by omega
  have m1 : (1 : Int) ∈ ids a.Subs := List.mem_of_mem_head? (by rw [hhd]; simp)
  obtain ⟨is, his⟩ : ∃ is, is = ids a.Subs := ⟨_, rfl⟩
  rw [← his] at km m1
  -- the two folds
  have Tb := fun (k : Nat) => take1_bound bal n day bb (l.take k) (bal 1, []) fun x hx => by have := km x (List.mem_of_mem_take hx); omega
  obtain ⟨T, hT⟩ : ∃ T : Nat → Int × List TEntry, T = fun k => (l.take k).foldl (take1 bal n day) (bal 1, []) := ⟨_, rfl⟩
  have T0 : T 0 = (bal 1, []) := by rw [hT]; rfl
  have Ts : ∀ k x, l[k]? = some x → T (k + 1) = take1 bal n day (T k) x := fun k x hx => by
    rw [hT]
    dsimp only
    rw [take_snoc hx, List.foldl_append]
    rfl
  have Tb : ∀ k, k ≤ l.length → (T k).2.length ≤ k := fun k hk => by
    have := Tb k
    have hlk : (l.take k).length = k := by rw [List.length_take]; omega
    rw [hT]
    rw [hlk] at this
    simp only [List.length_nil, Nat.zero_add] at this
    dsimp only
    omega
  obtain ⟨G, hG⟩ : ∃ G : Nat → Int × List TEntry, G = fun k => (l.take k).foldl (give1 bal n day) (T l.length) := ⟨_, rfl⟩
  have G0 : G 0 = T l.length := by rw [hG]; rfl
  have Gs : ∀ k x, l[k]? = some x → G (k + 1) = give1 bal n day (G k) x := fun k x hx => by
    rw [hG]
    dsimp only
    rw [take_snoc hx, List.foldl_append]
    rfl
  have Gb : ∀ k, k ≤ l.length → (G k).2.length ≤ 2000 := fun k hk => by
    have h1 := give1_bound bal n day (l.take k) (T l.length)
    have h2 := Tb l.length (Nat.le_refl _)
    have hlk : (l.take k).length = k := by rw [List.length_take]; omega
    rw [hlk] at h1
    rw [hG]
    dsimp only
    omega
  have GL : planL bal n day l = G l.length := by
    rw [hG, hT, planL]
    simp
  rw [← hn, GL] at tP
  clear hT hG GL
  by_cases d3 : day < (lastE a).Day
  · have := early fun h => by have := amongB_iff.1 h; omega
    rcases Nat.eq_zero_or_pos a.Entries.length with hn0 | hnp
    · have g0 : decide (0 < a.Entries.length) = false := decide_eq_false (by omega)
      rw [lastE_nil hn0] at d3
      have d3 : day < 0 := d3
      simp -dsimp -implicitDefEqProofs [-getElem?_pos, go_sem, hP, c1, g0, d3]
      refine done_nil2 6 ?_
      rw [this]
      simp [encL]
    · obtain ⟨j, hj⟩ : ∃ j, a.Entries.length = j + 1 := ⟨a.Entries.length - 1, by omega⟩
      obtain ⟨e, hee⟩ : ∃ e, a.Entries[j]? = some e := ⟨_, List.getElem?_eq_getElem (by omega)⟩
      have hle := lastE_get hj hee
      rw [hle] at d3
      have g0 : decide ((0 : Int) < (j : Int) + 1) = true := decide_eq_true (by omega)
      have wj := wrap_in ((j : Int) + 1 - 1) (by omega)
      rw [Int.add_sub_cancel] at wj
      simp -dsimp -implicitDefEqProofs [-getElem?_pos, go_sem, hP, c1, hj, g0, Int.add_sub_cancel, wj, hee, TEntry.cells, d3]
      refine done_nil2 6 ?_
      rw [this]
      simp [encL]
  by_cases d2 : 36000 < day
  · have := early fun h => by have := amongB_iff.1 h; omega
    rcases Nat.eq_zero_or_pos a.Entries.length with hn0 | hnp
    · have g0 : decide (0 < a.Entries.length) = false := decide_eq_false (by omega)
      rw [lastE_nil hn0] at d3
      have d3 : ¬ day < 0 := d3
      simp -dsimp -implicitDefEqProofs [-getElem?_pos, go_sem, hP, c1, g0, d3, d2]
      refine done_nil2 6 ?_
      rw [this]
      simp [encL]
    · obtain ⟨j, hj⟩ : ∃ j, a.Entries.length = j + 1 := ⟨a.Entries.length - 1, by omega⟩
      obtain ⟨e, hee⟩ : ∃ e, a.Entries[j]? = some e := ⟨_, List.getElem?_eq_getElem (by omega)⟩
      have hle := lastE_get hj hee
      rw [hle] at d3
      have g0 : decide ((0 : Int) < (j : Int) + 1) = true := decide_eq_true (by omega)
      have wj := wrap_in ((j : Int) + 1 - 1) (by omega)
      rw [Int.add_sub_cancel] at wj
      simp -dsimp -implicitDefEqProofs [-getElem?_pos, go_sem, hP, c1, hj, g0, Int.add_sub_cancel, wj, hee, TEntry.cells, d3, d2]
      refine done_nil2 6 ?_
      rw [this]
      simp [encL]
  have ham : amongB day (lastE a).Day 36000 = true := amongB_iff.2 (by omega)
  have tP := tP ham
  rcases Nat.eq_zero_or_pos a.Entries.length with hn0 | hnp
  have g0 : decide (0 < a.Entries.length) = false := decide_eq_false (by omega)
  have d3' : ¬ day < 0 := by rw [lastE_nil hn0] at d3; exact d3
  simp -dsimp -implicitDefEqProofs [-getElem?_pos, go_sem, hP, c1, g0, d3', d2]
  rotate_left
  obtain ⟨j, hj⟩ : ∃ j, a.Entries.length = j + 1 := ⟨a.Entries.length - 1, by omega⟩
  obtain ⟨e, hee⟩ : ∃ e, a.Entries[j]? = some e := ⟨_, List.getElem?_eq_getElem (by omega)⟩
  have hle := lastE_get hj hee
  have d3' : ¬ day < e.Day := by rw [hle] at d3; exact d3
  have g0 : decide ((0 : Int) < (j : Int) + 1) = true := decide_eq_true (by omega)
  have wj := wrap_in ((j : Int) + 1 - 1) (by omega)
  rw [Int.add_sub_cancel] at wj
  simp -dsimp -implicitDefEqProofs [-getElem?_pos, go_sem, hP, c1, hj, g0, Int.add_sub_cancel, wj, hee, TEntry.cells, d3', d2]
  all_goals
    refine adrawB (fun i => decide (i = 0)) [] hP (by kernel_rfl) (by kernel_rfl) ?_
    simp -dsimp -implicitDefEqProofs [-getElem?_pos, go_sem, hP]
    refine callB_m (by rw [hr, hs]; exact clone_m_sub a.Subs _ (by omega)) hP en_72 ?_
    rintro r H1 ⟨q, rfl, hq, hqo, hk1⟩
    simp -dsimp -implicitDefEqProofs [-getElem?_pos, go_sem, hP]
    have o0 := hk1 0 _ (by simp) rfl
    have hq1 : 1 ≤ q := by simpa using hq
    have lq := (List.getElem?_eq_some_iff.1 hqo).1
    refine ⟨fun i hi => ?_, fun i hi => ?_, ?_⟩
    · have : i = 0 := by simpa using hi
      subst this
      rw [o0]
      rfl
    · have : i = 0 := by simpa using hi
      subst this
      rw [List.getElem?_append_left (by omega)]
    obtain ⟨p, hp⟩ : ∃ p, p = H1.length := ⟨_, rfl⟩
    have hpq : p ≠ q := by omega
    have sw0 : Swp (H1 ++ [some ⟨99, 6, [[iv a.Credit, subsL a.Subs, entsL a.Entries, .sref q 0 a.Subs.length, .nil, iv day]]⟩]) 1 p q a a.Subs [] day := by
      refine ⟨hpq, by omega, hq1, ⟨.nil, ?_, .inl ⟨rfl, rfl⟩⟩, ?_⟩
      · rw [List.getElem?_append_right (by omega), hp]
        simp
      · rw [List.getElem?_append_left lq]
        exact hqo
    obtain ⟨I, hI⟩ : ∃ I : Nat → St → Prop, I = fun m s => ∃ (k : Nat) (st : List TSub × List TEntry), k ≤ l.length ∧ m = l.length - k ∧ PI1 bal is (l.take k) (T k) st ∧ Bnd (1000000000000000 + 1000000000000 * (k : Int)) is st.1 ∧ Swp s.H 1 p q a st.1 st.2 day ∧ s.t 1 = keepsL l ∧ s.t 3 = .ref 0 0 0 ∧ s.t 11 = .ref p 0 0 ∧ s.t 48 = keepsL l ∧ s.t 49 = iv l.length ∧ s.t 50 = iv k ∧ s.H[0]? = some (some ⟨28, 3, [a.cells]⟩) := ⟨_, rfl⟩
    refine aloop0 I (l.length) (by rw [hN]; rfl) ?_ ?_
    · rw [hI]
      refine ⟨0, (a.Subs, []), by omega, by omega, ⟨?_, his.symm, ?_, ?_, ?_⟩, ?_, by simp -dsimp -implicitDefEqProofs [-getElem?_pos, go_sem]; exact sw0, by simp -dsimp -implicitDefEqProofs [-getElem?_pos, go_sem], by simp -dsimp -implicitDefEqProofs [-getElem?_pos, go_sem], by simp -dsimp -implicitDefEqProofs [-getElem?_pos, go_sem, hp], by simp -dsimp -implicitDefEqProofs [-getElem?_pos, go_sem], by simp -dsimp -implicitDefEqProofs [-getElem?_pos, go_sem], by simp -dsimp -implicitDefEqProofs [-getElem?_pos, go_sem], ?_⟩
      · rw [T0]
      · rw [T0, hbal]
      · intro i _ _ _; rw [hbal]
      · simp
      · intro i _; have := bb i; rw [hbal] at this; dsimp only; omega
      · simp -dsimp -implicitDefEqProofs [-getElem?_pos, go_sem]
        rw [List.getElem?_append_left (by omega), cA]
        exact o0
    intro m s hs'
    rw [hI] at hs'
    obtain ⟨k, st, hk, hm, hpi, hbd, hsw, t1, t3, t11, t48, t49, t50, hA⟩ := hs'
    have lt0 := (List.getElem?_eq_some_iff.1 hA).1
    simp -dsimp -implicitDefEqProofs [-getElem?_pos, go_sem, hP, t49, t50]
    refine condP (fun h => ?_) (fun h => ?_)
    · have hk : k < l.length := by simpa using h
      obtain ⟨x, hx⟩ : ∃ x, l[k]? = some x := ⟨_, List.getElem?_eq_getElem hk⟩
      have wk := wrap_in ((k : Int) + 1) (by omega)
      have kx := km x (List.mem_of_getElem? hx)
      have pre1 : ∀ y, y ∈ l.take k → ¬ y.Sub = x.Sub := fun y hy e => by
        obtain ⟨i, hi⟩ := List.getElem?_of_mem hy
        have hik := (List.getElem?_eq_some_iff.1 hi).1
        rw [List.length_take] at hik
        rw [List.getElem?_take, if_pos (by omega)] at hi
        have g1 : (l.map (·.Sub))[i]? = some x.Sub := by rw [List.getElem?_map, hi]; simp [e]
        have g2 : (l.map (·.Sub))[k]? = some x.Sub := by rw [List.getElem?_map, hx]; rfl
        have := (List.getElem?_inj (List.getElem?_eq_some_iff.1 g1).1 knd).1 (g1.trans g2.symm)
        omega
      have hps := hpi.step (n := n) (day := day) m1 kx.1 kx.2.1 pre1 (fun y hy => by have := km y (List.mem_of_mem_take hy); exact ⟨this.1, this.2.1⟩)
      rw [← take_snoc hx, ← Ts k x hx] at hps
      have hbs := hbd.step1 (n := n) (day := day) hpi.ids (by omega) kx.1 kx.2.1 (by omega)
      have hll : st.1.length = a.Subs.length := by rw [← ids_len, hpi.ids, his, ids_len]
      have hel := Tb k (by omega)
      rw [← hpi.ents] at hel
      have nd : (ids st.1).Nodup := by rw [hpi.ids, his]; exact hnd
      have bx := hbd x.Sub kx.1
      have w1 := wrap_in (balI st.1 x.Sub - x.High) (by omega)
      obtain ⟨b, hb⟩ : ∃ b, b = balI st.1 x.Sub := ⟨_, rfl⟩
      have hsw1 := hsw.kept (kept_push (some ⟨69, 3, [[iv x.Sub, iv x.Low, iv x.High]]⟩) (kept_refl _ s.H))
      have bm := balance_m (row := none) (src := none) hsw1 (by omega) x.Sub (by rw [hpi.ids]; exact kx.1)
      rw [← hb] at w1 bm
      simp -dsimp -implicitDefEqProofs [-getElem?_pos, go_sem, hP, t48, t50, hx, TKeep.cells]
      refine adrawB (fun i => decide (i = s.H.length)) [11] hP (by kernel_rfl) (by kernel_rfl) ?_
      simp -dsimp -implicitDefEqProofs [-getElem?_pos, go_sem, hP, t11, restr_get]
      refine callB_m (by rw [hr, hs]; exact bm) hP en_74 ?_
      rintro r H2 ⟨rfl, hk2⟩
      have ok2 := hk2 s.H.length ⟨69, 3, [[iv x.Sub, iv x.Low, iv x.High]]⟩ (by simp) (by simp)
      have lk2 := (List.getElem?_eq_some_iff.1 ok2).1
      have hsw2 := hsw1.kept hk2
      have mv := move_m (row := none) (src := none) hsw2 (by omega) cc (by omega) (by omega) nd x.Sub 1 (min (b - x.High) 1000000000000) (by rw [hpi.ids]; exact kx.1) (by rw [hpi.ids]; exact m1) kx.2.1 (by omega) (fun u hu => by have := (hbd.mem hpi.ids nd) u hu; omega)
      simp -dsimp -implicitDefEqProofs [-getElem?_pos, go_sem, hP, ok2, lk2, restr_get, w1, amin, aminFrom]
      refine ⟨fun i hi => ?_, ?_⟩
      · have : i = s.H.length := by simpa using hi
        subst this
        rw [ok2]
        simp
      refine callB_m (by rw [hr, hs]; exact mv) hP en_73 ?_
      rintro r H3 ⟨rfl, hsw3, kb3⟩
      have A0 : H3[0]? = some (some ⟨28, 3, [a.cells]⟩) := kb3 0 _ (by omega) (hk2 0 _ (by simp) (by rw [List.getElem?_append_left lt0]; exact hA))
      simp -dsimp -implicitDefEqProofs [-getElem?_pos, go_sem, hP, t50, wk]
      refine ⟨l.length - (k + 1), by omega, ?_⟩
      rw [hI]
      refine ⟨k + 1, ps1 n day st x, by omega, rfl, hps, ?_, ?_, by simp -dsimp -implicitDefEqProofs [-getElem?_pos, go_sem, t1], by simp -dsimp -implicitDefEqProofs [-getElem?_pos, go_sem, t3], by simp -dsimp -implicitDefEqProofs [-getElem?_pos, go_sem, t11], by simp -dsimp -implicitDefEqProofs [-getElem?_pos, go_sem, t48], by simp -dsimp -implicitDefEqProofs [-getElem?_pos, go_sem, t49], by simp -dsimp -implicitDefEqProofs [-getElem?_pos, go_sem], A0⟩
      · have e : (1000000000000000 + 1000000000000 * ((k + 1 : Nat) : Int)) = 1000000000000000 + 1000000000000 * (k : Int) + 1000000000000 := by omega
        rw [e]
        exact hbs
      · rw [ps1, ← hb, hn]
        exact hsw3
    have hk : k = l.length := by simp at h; omega
    subst hk
    simp -dsimp -implicitDefEqProofs [-getElem?_pos, go_sem, hP, t1]
    have hall : l.take l.length = l := List.take_length
    rw [hall] at hpi
    obtain ⟨J, hJ⟩ : ∃ I : Nat → St → Prop, I = fun m s => ∃ (k : Nat) (st : List TSub × List TEntry), k ≤ l.length ∧ m = l.length - k ∧ PI2 bal is (l.drop k) (G k) st ∧ Bnd 2000000000000000 is st.1 ∧ Swp s.H 1 p q a st.1 st.2 day ∧ s.t 3 = .ref 0 0 0 ∧ s.t 11 = .ref p 0 0 ∧ s.t 67 = keepsL l ∧ s.t 68 = iv l.length ∧ s.t 69 = iv k ∧ s.H[0]? = some (some ⟨28, 3, [a.cells]⟩) := ⟨_, rfl⟩
    refine aloop0 J (l.length) (by rw [hN]; rfl) ?_ ?_
    · rw [hJ]
      refine ⟨0, st, by omega, by omega, ⟨?_, hpi.ids, ?_, ?_⟩, ?_, by simp -dsimp -implicitDefEqProofs [-getElem?_pos, go_sem]; exact hsw, by simp -dsimp -implicitDefEqProofs [-getElem?_pos, go_sem, t3], by simp -dsimp -implicitDefEqProofs [-getElem?_pos, go_sem, t11], by simp -dsimp -implicitDefEqProofs [-getElem?_pos, go_sem, t1], by simp -dsimp -implicitDefEqProofs [-getElem?_pos, go_sem, t1], by simp -dsimp -implicitDefEqProofs [-getElem?_pos, go_sem], by simp -dsimp -implicitDefEqProofs [-getElem?_pos, go_sem, hA]⟩
      · rw [G0]; exact hpi.ents
      · rw [G0]; exact hpi.main
      · intro y hy
        rw [List.drop_zero] at hy
        exact hpi.seen y hy
      · intro i hi
        have := hbd i hi
        omega
    clear t1 t3 t11 t48 t49 t50 hA lt0 hsw hbd hpi hm h
    intro m s hs'
    rw [hJ] at hs'
    obtain ⟨k, st, hk, hm, hpi, hbd, hsw, t3, t11, t67, t68, t69, hA⟩ := hs'
    have lt0 := (List.getElem?_eq_some_iff.1 hA).1
    simp -dsimp -implicitDefEqProofs [-getElem?_pos, go_sem, hP, t68, t69]
    refine condP (fun h => ?_) (fun h => ?_)
    · have hk : k < l.length := by simpa using h
      obtain ⟨x, hx⟩ : ∃ x, l[k]? = some x := ⟨_, List.getElem?_eq_getElem hk⟩
      have wk := wrap_in ((k : Int) + 1) (by omega)
      have kx := km x (List.mem_of_getElem? hx)
      have hd : l.drop k = x :: l.drop (k + 1) := by
        rw [List.getElem?_eq_getElem hk] at hx
        rw [List.drop_eq_getElem_cons hk, Option.some.inj hx]
      rw [hd] at hpi
      have suf1 : ∀ y, y ∈ l.drop (k + 1) → ¬ y.Sub = x.Sub := fun y hy e => by
        obtain ⟨i, hi⟩ := List.getElem?_of_mem hy
        rw [List.getElem?_drop] at hi
        have g1 : (l.map (·.Sub))[k + 1 + i]? = some x.Sub := by rw [List.getElem?_map, hi]; simp [e]
        have g2 : (l.map (·.Sub))[k]? = some x.Sub := by rw [List.getElem?_map, hx]; rfl
        have := (List.getElem?_inj (List.getElem?_eq_some_iff.1 g1).1 knd).1 (g1.trans g2.symm)
        omega
      have hps := hpi.step (n := n) (day := day) m1 kx.1 kx.2.1 kx.2.2.2.2.1 (fun y hy => by have := km y (List.mem_of_mem_drop hy); exact ⟨this.1, this.2.1, suf1 y hy⟩)
      rw [← Gs k x hx] at hps
      have hbs := hbd.step2 (n := n) (day := day) hpi.ids m1 (by omega) kx.1 kx.2.1 (by omega)
      have hll : st.1.length = a.Subs.length := by rw [← ids_len, hpi.ids, his, ids_len]
      have hel := Gb k (by omega)
      rw [← hpi.ents] at hel
      have nd : (ids st.1).Nodup := by rw [hpi.ids, his]; exact hnd
      have bx := hbd x.Sub kx.1
      have b1 := hbd 1 m1
      have w1 := wrap_in (x.Low - balI st.1 x.Sub) (by omega)
      obtain ⟨b, hb⟩ : ∃ b, b = balI st.1 x.Sub := ⟨_, rfl⟩
      obtain ⟨c, hc⟩ : ∃ c, c = balI st.1 1 := ⟨_, rfl⟩
      have hsw1 := hsw.kept (kept_push (some ⟨69, 3, [[iv x.Sub, iv x.Low, iv x.High]]⟩) (kept_refl _ s.H))
      have bm := balance_m (row := none) (src := none) hsw1 (by omega) x.Sub (by rw [hpi.ids]; exact kx.1)
      rw [← hb] at w1 bm bx
      rw [← hc] at b1
      simp -dsimp -implicitDefEqProofs [-getElem?_pos, go_sem, hP, t67, t69, hx, TKeep.cells]
      refine adrawB (fun i => decide (i = s.H.length)) [13] hP (by kernel_rfl) (by kernel_rfl) ?_
      simp -dsimp -implicitDefEqProofs [-getElem?_pos, go_sem, hP, t11, restr_get]
      refine callB_m (by rw [hr, hs]; exact bm) hP en_74 ?_
      rintro r H2 ⟨rfl, hk2⟩
      have ok2 := hk2 s.H.length ⟨69, 3, [[iv x.Sub, iv x.Low, iv x.High]]⟩ (by simp) (by simp)
      have lk2 := (List.getElem?_eq_some_iff.1 ok2).1
      have hsw2 := hsw1.kept hk2
      have bm2 := balance_m (row := none) (src := none) hsw2 (by omega) 1 (by rw [hpi.ids]; exact m1)
      rw [← hc] at bm2
      simp -dsimp -implicitDefEqProofs [-getElem?_pos, go_sem, hP, ok2, lk2, restr_get, w1, t11]
      refine ⟨fun i hi => ?_, ?_⟩
      · have : i = s.H.length := by simpa using hi
        subst this
        rw [ok2]
        simp
      refine callB_m (by rw [hr, hs]; exact bm2) hP en_74 ?_
      rintro r H3 ⟨rfl, hk3⟩
      have hsw3 := hsw2.kept hk3
      have ok3 := hk3 _ _ (by simp) ok2
      have lk3 := (List.getElem?_eq_some_iff.1 ok3).1
      have mv := move_m (row := none) (src := none) hsw3 (by omega) cc (by omega) (by omega) nd 1 x.Sub (min (x.Low - b) c) (by rw [hpi.ids]; exact m1) (by rw [hpi.ids]; exact kx.1) (fun e => kx.2.1 e.symm) (by omega) (fun u hu => by have := (hbd.mem hpi.ids nd) u hu; omega)
      simp -dsimp -implicitDefEqProofs [-getElem?_pos, go_sem, hP, w1, amin, aminFrom]
      refine ⟨fun i hi => ?_, ?_⟩
      · have : i = s.H.length := by simpa using hi
        subst this
        rw [ok3, ok2]
      refine callB_m (by rw [hr, hs]; exact mv) hP en_73 ?_
      rintro r H4 ⟨rfl, hsw4, kb4⟩
      have A0 : H4[0]? = some (some ⟨28, 3, [a.cells]⟩) := kb4 0 _ (by omega) (hk3 0 _ (by simp) (hk2 0 _ (by simp) (by rw [List.getElem?_append_left lt0]; exact hA)))
      simp -dsimp -implicitDefEqProofs [-getElem?_pos, go_sem, hP, t69, wk]
      refine ⟨l.length - (k + 1), by omega, ?_⟩
      rw [hJ]
      refine ⟨k + 1, ps2 n day st x, by omega, rfl, hps, hbs, ?_, by simp -dsimp -implicitDefEqProofs [-getElem?_pos, go_sem, t3], by simp -dsimp -implicitDefEqProofs [-getElem?_pos, go_sem, t11], by simp -dsimp -implicitDefEqProofs [-getElem?_pos, go_sem, t67], by simp -dsimp -implicitDefEqProofs [-getElem?_pos, go_sem, t68], by simp -dsimp -implicitDefEqProofs [-getElem?_pos, go_sem], A0⟩
      rw [ps2, ← hb, ← hc, hn]
      exact hsw4
    have hk : k = l.length := by simp at h; omega
    subst hk
    have gb := Gb l.length (Nat.le_refl _)
    rw [← hpi.ents] at gb tP
    have w5 := wrap_in ((a.Entries.length : Int) + st.2.length) (by omega)
    have w6 := wrap_in (a.Entries.length : Int) (by omega)
    obtain ⟨x, hx1, hx2⟩ := hsw.obj
    have ltp := hsw.ltp
    simp -dsimp -implicitDefEqProofs [-getElem?_pos, go_sem, hP]
    refine adrawB (fun _ => true) [] hP (by kernel_rfl) (by kernel_rfl) ?_
    rcases hx2 with ⟨rfl, hnil⟩ | ⟨r, r1, r2, r3, rfl, hro⟩
    · have tP2 : planA a l day = ([], 0) := by
        rw [tP, hnil]
        rw [if_neg (by simp; omega)]
      have d4 : decide ((400 : Int) < (a.Entries.length : Int)) = false := decide_eq_false (by omega)
      simp -dsimp -implicitDefEqProofs [-getElem?_pos, go_sem, hP, t3, hA, lt0, cA, t11, hx1, ltp, w6, d4]
      refine done_nil2 6 ?_
      rw [tP2]
      simp [encL]
    · have ltr := (List.getElem?_eq_some_iff.1 hro).1
      by_cases c4 : 400 < n + st.2.length
      · have d4 : decide ((400 : Int) < (a.Entries.length : Int) + st.2.length) = true := decide_eq_true (by omega)
        rw [if_pos c4] at tP
        simp -dsimp -implicitDefEqProofs [-getElem?_pos, go_sem, hP, t3, hA, lt0, cA, t11, hx1, ltp, hro, ltr, w5, d4]
        refine done_nil2 6 ?_
        rw [tP]
        simp [encL]
      · have d4 : decide ((400 : Int) < (a.Entries.length : Int) + st.2.length) = false := decide_eq_false (by omega)
        rw [if_neg c4] at tP
        simp -dsimp -implicitDefEqProofs [-getElem?_pos, go_sem, hP, t3, hA, lt0, cA, t11, hx1, ltp, hro, ltr, w5, d4]
        have e2 := encL_take TEntry.cells st.2 _ rfl
        refine done (x := .tup [entsL st.2, iv 0]) ?_ ?_ ?_
        · simp -dsimp -implicitDefEqProofs [-getElem?_pos, go_sem, hro, e2]
          exact imm_list.1 (imm_ents _)
        · rw [tP]
        · simp -dsimp -implicitDefEqProofs [-getElem?_pos, go_sem, hro, e2]
end Go.Proofs.Ytcfkdimndhapfaa
