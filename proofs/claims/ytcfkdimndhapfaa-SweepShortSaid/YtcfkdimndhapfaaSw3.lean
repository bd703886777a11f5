/- Sweeps: the reference's plan and sweep. -/
import Derived.Test.YtcfkdimndhapfaaSw2
set_option linter.unusedSimpArgs false
set_option linter.unusedVariables false
namespace Go.Proofs.Ytcfkdimndhapfaa
open Go.PA
open Go.RowKit

theorem take_snoc {α : Type} {l : List α} {k : Nat} {x : α} (h : l[k]? = some x) : l.take (k + 1) = l.take k ++ [x] := by rw [List.take_add_one, h]; rfl

set_option maxHeartbeats 2000000 in
theorem plan24_pf (a : TAccount) (l : List TKeep) (day : Int) (hl : a.Subs.length ≤ 100000) (he : a.Entries.length ≤ 100000) (hk : l.length ≤ 1000) : PFun Try.prog none none 52 [.agg a.cells, keepsL l, iv day] (· = .tup [entsL (planA a l day).1, iv (planA a l day).2]) := by
  refine pfun_intro Try.func52 rfl (by simp [Try.f52]) (by kernel_rfl) ?_
  intro E hP hr hs hW hN
  have ck := check24_pf a l hl he hk
  rw [cA] at ck
  have ia : Imm (.agg [iv a.Credit, subsL a.Subs, entsL a.Entries]) := imm_acc a
  simp -dsimp -implicitDefEqProofs [-getElem?_pos, go_sem, hP, cA]
  refine callB_is (ck.lift _ _) hP en_48 (by simp [ia, imm_keeps]) .sc ?_
  by_cases c1 : checkK a l = 0
  rotate_left
  · have : planA a l day = ([], checkK a l) := by rw [planA, if_neg c1]
    simp -dsimp -implicitDefEqProofs [-getElem?_pos, go_sem, hP, c1]
    refine done_nil2 6 ?_
    rw [this]
    simp [encL]
  obtain ⟨cc, ck2⟩ := checkK_ok c1
  have km := keepsB_mem _ l 0 ck2
  obtain ⟨k1, k2, k3, k4, k5⟩ := check_ok cc
  obtain ⟨q1, q2, q3, q4⟩ := check_keeps cc
  obtain ⟨bal, hbal⟩ : ∃ bal, bal = balI a.Subs := ⟨_, rfl⟩
  have bb : ∀ i, -1000000000000 ≤ bal i ∧ bal i ≤ 1000000000000000 := hbal ▸ balI_bounds cc
  have blc : ∀ id, PFun Try.prog none none 36 [.agg [iv a.Credit, subsL a.Subs, entsL a.Entries], iv id] (· = .tup [iv (bal id), bv (balanceA a id).2]) := fun id => by
    have := balance23_pf a id hl he
    rw [balance_fst cc, ← hbal, cA] at this
    exact this
  have early : ¬ amongB day (lastE a).Day 36000 = true → planA a l day = ([], 8) := fun h => by rw [planA, if_pos c1, if_neg h]
  have tP : amongB day (lastE a).Day 36000 = true → planA a l day = if 400 < a.Entries.length + (planL bal a.Entries.length day l).2.length then ([], 3) else ((planL bal a.Entries.length day l).2, 0) := fun h => by rw [planA, if_pos c1, if_pos h, hbal]
  obtain ⟨n, hn⟩ : ∃ n, n = a.Entries.length := ⟨_, rfl⟩
  have n400 : n ≤ 400 := by omega
  simp -dsimp -implicitDefEqProofs [-getElem?_pos, go_sem, hP, c1]
  by_cases d1 : day < 0
  · have := early fun h => by have := amongB_iff.1 h; omega
    simp -dsimp -implicitDefEqProofs [-getElem?_pos, go_sem, hP, d1]
    refine done_nil2 6 ?_
    rw [this]
    simp [encL]
  by_cases d2 : 36000 < day
  · have := early fun h => by have := amongB_iff.1 h; omega
    simp -dsimp -implicitDefEqProofs [-getElem?_pos, go_sem, hP, d1, d2]
    refine done_nil2 6 ?_
    rw [this]
    simp [encL]
  by_cases d3 : day < (lastE a).Day
  · have := early fun h => by have := amongB_iff.1 h; omega
    have hn0 : ¬ a.Entries.length = 0 := fun h => by
      rw [lastE_nil h] at d3
      exact d1 d3
    obtain ⟨j, hj⟩ : ∃ j, a.Entries.length = j + 1 := ⟨a.Entries.length - 1, by omega⟩
    obtain ⟨e, hee⟩ : ∃ e, a.Entries[j]? = some e := ⟨_, List.getElem?_eq_getElem (by omega)⟩
    have hle := lastE_get hj hee
    rw [hle] at d3
    have g0 : decide ((0 : Int) < (j : Int) + 1) = true := decide_eq_true (by omega)
    have wj := wrap_in ((j : Int) + 1 - 1) (by omega)
    rw [Int.add_sub_cancel] at wj
    simp -dsimp -implicitDefEqProofs [-getElem?_pos, go_sem, hP, d1, d2, hj, g0, Int.add_sub_cancel, wj, hee, TEntry.cells, d3]
    refine done_nil2 6 ?_
    rw [this]
    simp [encL]
  have ham : amongB day (lastE a).Day 36000 = true := amongB_iff.2 (by omega)
  have tP := tP ham
  have i6 : ∀ l : List TEntry, Imm (.list 6 (encL TEntry.cells l)) := imm_ents
  have Tb := fun (k : Nat) => take1_bound bal n day bb (l.take k) (bal 1, []) fun x hx => by have := km x (List.mem_of_mem_take hx); omega
  obtain ⟨T, hT⟩ : ∃ T : Nat → Int × List TEntry, T = fun k => (l.take k).foldl (take1 bal n day) (bal 1, []) := ⟨_, rfl⟩
  have T0 : T 0 = (bal 1, []) := by rw [hT]; rfl
  have Ts : ∀ k x, l[k]? = some x → T (k + 1) = take1 bal n day (T k) x := fun k x hx => by
    rw [hT]
    dsimp only
    rw [take_snoc hx, List.foldl_append]
    rfl
  have Tb : ∀ k, k ≤ l.length → -1000000000000 ≤ (T k).1 ∧ (T k).1 ≤ 1000000000000000 + 1000000000000 * (k : Int) ∧ (T k).2.length ≤ k := fun k hk => by
    have := Tb k
    have b1 := bb 1
    have hlk : (l.take k).length = k := by rw [List.length_take]; omega
    rw [hT]
    rw [hlk] at this
    simp only [List.length_nil, Nat.zero_add] at this
    dsimp only
    omega
  obtain ⟨G, hG⟩ : ∃ G : Nat → Int × List TEntry, G = fun k => (l.take k).foldl (give1 bal n day) (T l.length) := ⟨_, rfl⟩
  have G0 : G 0 = T l.length := by rw [hG]; rfl
  have Gs : ∀ k x, l[k]? = some x → G (k + 1) = give1 bal n day (G k) x := fun k x hx => by
    rw [hG]
    dsimp only
    rw [take_snoc hx, List.foldl_append]
    rfl
  have Gb : ∀ k, k ≤ l.length → -1000000000000 ≤ (G k).1 ∧ (G k).1 ≤ 1000000000000000 + 1000000000000 * 1000 ∧ (G k).2.length ≤ 2000 := fun k hk => by
    have h1 := give1_bound bal n day (l.take k) (T l.length)
    have h2 := Tb l.length (Nat.le_refl _)
    have hlk : (l.take k).length = k := by rw [List.length_take]; omega
    rw [hlk] at h1
    rw [hG]
    dsimp only
    obtain ⟨a1, a2, a3, a4, a5⟩ := h1
    refine ⟨?_, by omega, by omega⟩
    by_cases h0 : 0 ≤ (T l.length).1
    · have := a2 h0; omega
    · have := a3 (by omega); omega
  have GL : planL bal n day l = G l.length := by
    rw [hG, hT, planL]
    simp
  rw [← hn, GL] at tP
  clear hT hG GL
  rcases Nat.eq_zero_or_pos a.Entries.length with hn0 | hnp
  have g0 : decide (0 < a.Entries.length) = false := decide_eq_false (by omega)
  simp -dsimp -implicitDefEqProofs [-getElem?_pos, go_sem, hP, d1, d2, g0]
  rotate_left
  obtain ⟨j, hj⟩ : ∃ j, a.Entries.length = j + 1 := ⟨a.Entries.length - 1, by omega⟩
  obtain ⟨e, hee⟩ : ∃ e, a.Entries[j]? = some e := ⟨_, List.getElem?_eq_getElem (by omega)⟩
  have hle := lastE_get hj hee
  rw [hle] at d3
  have g0 : decide ((0 : Int) < (j : Int) + 1) = true := decide_eq_true (by omega)
  have wj := wrap_in ((j : Int) + 1 - 1) (by omega)
  rw [Int.add_sub_cancel] at wj
  simp -dsimp -implicitDefEqProofs [-getElem?_pos, go_sem, hP, d1, d2, hj, g0, Int.add_sub_cancel, wj, hee, TEntry.cells, d3]
  all_goals
    refine callB_is ((blc 1).lift _ _) hP en_36 (by simp [ia, imm_sc]) (imm_pair .sc .sc) ?_
    simp -dsimp -implicitDefEqProofs [-getElem?_pos, go_sem, hP]
    refine aloop_own 12 38 6 (by simp -dsimp -implicitDefEqProofs [-getElem?_pos, go_sem]) ?_
    obtain ⟨I, hI⟩ : ∃ I : Nat → St → Prop, I = fun m s => ∃ (k id : Nat), k ≤ l.length ∧ 1 ≤ id ∧ m = l.length - k ∧ s.t 1 = keepsL l ∧ s.t 2 = iv day ∧ s.t 3 = .ref 0 0 0 ∧ s.t 9 = iv n ∧ s.t 10 = iv (T k).1 ∧ s.t 12 = .sref id 0 (T k).2.length ∧ s.t 58 = keepsL l ∧ s.t 59 = iv l.length ∧ s.t 60 = iv k ∧ s.H[0]? = some (some ⟨28, 3, [a.cells]⟩) ∧ s.H[id]? = some (some ⟨38, 6, encL TEntry.cells (T k).2⟩) := ⟨_, rfl⟩
    refine aloop0 I (l.length) (by rw [hN]; rfl) ?_ ?_
    · rw [hI]
      exact ⟨0, 1, by omega, by omega, by omega, by simp -dsimp -implicitDefEqProofs [-getElem?_pos, go_sem], by simp -dsimp -implicitDefEqProofs [-getElem?_pos, go_sem], by simp -dsimp -implicitDefEqProofs [-getElem?_pos, go_sem], by simp -dsimp -implicitDefEqProofs [-getElem?_pos, go_sem] <;> omega, by simp -dsimp -implicitDefEqProofs [-getElem?_pos, go_sem, T0], by simp -dsimp -implicitDefEqProofs [-getElem?_pos, go_sem, T0], by simp -dsimp -implicitDefEqProofs [-getElem?_pos, go_sem], by simp -dsimp -implicitDefEqProofs [-getElem?_pos, go_sem], by simp -dsimp -implicitDefEqProofs [-getElem?_pos, go_sem], by simp -dsimp -implicitDefEqProofs [-getElem?_pos, go_sem, cA], by simp -dsimp -implicitDefEqProofs [-getElem?_pos, go_sem, T0]⟩
    intro m s hs'
    rw [hI] at hs'
    obtain ⟨k, id, hk, hid, hm, t1, t2, t3, t9, t10, t12, t58, t59, t60, hA, hO⟩ := hs'
    have lt0 := (List.getElem?_eq_some_iff.1 hA).1
    have ltO := (List.getElem?_eq_some_iff.1 hO).1
    simp -dsimp -implicitDefEqProofs [-getElem?_pos, go_sem, hP, t59, t60]
    refine condP (fun h => ?_) (fun h => ?_)
    · have hk : k < l.length := by simpa using h
      obtain ⟨x, hx⟩ : ∃ x, l[k]? = some x := ⟨_, List.getElem?_eq_getElem hk⟩
      have wk := wrap_in ((k : Int) + 1) (by omega)
      have ts := Ts k x hx
      have tb := Tb k (by omega)
      have kx := km x (List.mem_of_getElem? hx)
      have bx := bb x.Sub
      unfold take1 at ts
      obtain ⟨b2, hb2⟩ : ∃ b, b = (balanceA a x.Sub).2 := ⟨_, rfl⟩
      obtain ⟨b, hb⟩ : ∃ b, b = bal x.Sub := ⟨_, rfl⟩
      have bl := blc x.Sub
      rw [← hb2, ← hb] at bl
      rw [← hb] at ts bx
      have fin : ∀ (s' : St) (id' : Nat), 1 ≤ id' → s'.t 1 = s.t 1 → s'.t 2 = s.t 2 → s'.t 3 = s.t 3 → s'.t 9 = s.t 9 → s'.t 10 = iv (T (k + 1)).1 → s'.t 12 = .sref id' 0 (T (k + 1)).2.length → s'.t 58 = s.t 58 → s'.t 59 = s.t 59 → s'.t 60 = iv ((k : Int) + 1) → s'.H[0]? = s.H[0]? → s'.H[id']? = some (some ⟨38, 6, encL TEntry.cells (T (k + 1)).2⟩) → ∃ n', n' < m ∧ I n' s' := fun s' id' hid' e1 e2 e3 e9 e10 e12 e58 e59 e60 eH eO => by
        refine ⟨l.length - (k + 1), by omega, ?_⟩
        rw [hI]
        exact ⟨k + 1, id', by omega, hid', rfl, by rw [e1, t1], by rw [e2, t2], by rw [e3, t3], by rw [e9, t9], e10, e12, by rw [e58, t58], by rw [e59, t59], by rw [e60]; simp, by rw [eH, hA], eO⟩
      simp -dsimp -implicitDefEqProofs [-getElem?_pos, go_sem, hP, t58, t60, hx, TKeep.cells, t3, hA, lt0, cA]
      refine callB_is (bl.lift _ _) hP en_36 (by simp [ia, imm_sc]) (imm_pair .sc .sc) ?_
      by_cases c2 : x.High < b
      · rw [if_pos c2] at ts
        have w1 := wrap_in (b - x.High) (by omega)
        have w2 := wrap_in ((n : Int) + 1) (by omega)
        have w3 := wrap_in ((n : Int) + 1 + (T k).2.length) (by omega)
        have w4 := wrap_in ((T k).1 + min (b - x.High) 1000000000000) (by omega)
        simp -dsimp -implicitDefEqProofs [-getElem?_pos, go_sem, hP, c2, w1, amin, aminFrom, t9, t12, hO, ltO, t2, w2, w3, t10, w4, t60, wk]
        have es : encL TEntry.cells (T k).2 ++ [[iv ((n : Int) + 1 + (T k).2.length), iv day, iv x.Sub, iv 1, iv (min (b - x.High) 1000000000000), iv 0]] = encL TEntry.cells (T (k + 1)).2 := by
          rw [ts, ← encL_snoc]
          rfl
        have ne0 : ¬ id = 0 := by omega
        refine ⟨by omega, by omega, ?_⟩
        exact fin _ (s.H.length + 1) (by omega) (by simp -dsimp -implicitDefEqProofs [-getElem?_pos, go_sem]) (by simp -dsimp -implicitDefEqProofs [-getElem?_pos, go_sem]) (by simp -dsimp -implicitDefEqProofs [-getElem?_pos, go_sem]) (by simp -dsimp -implicitDefEqProofs [-getElem?_pos, go_sem]) (by simp -dsimp -implicitDefEqProofs [-getElem?_pos, go_sem, ts]) (by simp -dsimp -implicitDefEqProofs [-getElem?_pos, go_sem, ts]) (by simp -dsimp -implicitDefEqProofs [-getElem?_pos, go_sem]) (by simp -dsimp -implicitDefEqProofs [-getElem?_pos, go_sem]) (by simp -dsimp -implicitDefEqProofs [-getElem?_pos, go_sem]) (by simp -dsimp -implicitDefEqProofs [-getElem?_pos, go_sem, ne0, lt0]) (by simp -dsimp -implicitDefEqProofs [-getElem?_pos, go_sem, es])
      · rw [if_neg c2] at ts
        simp -dsimp -implicitDefEqProofs [-getElem?_pos, go_sem, hP, c2, t60, wk]
        exact fin _ id hid (by simp -dsimp -implicitDefEqProofs [-getElem?_pos, go_sem]) (by simp -dsimp -implicitDefEqProofs [-getElem?_pos, go_sem]) (by simp -dsimp -implicitDefEqProofs [-getElem?_pos, go_sem]) (by simp -dsimp -implicitDefEqProofs [-getElem?_pos, go_sem]) (by simp -dsimp -implicitDefEqProofs [-getElem?_pos, go_sem, t10, ts]) (by simp -dsimp -implicitDefEqProofs [-getElem?_pos, go_sem, t12, ts]) (by simp -dsimp -implicitDefEqProofs [-getElem?_pos, go_sem]) (by simp -dsimp -implicitDefEqProofs [-getElem?_pos, go_sem]) (by simp -dsimp -implicitDefEqProofs [-getElem?_pos, go_sem]) (by simp -dsimp -implicitDefEqProofs [-getElem?_pos, go_sem, lt0]) (by simp -dsimp -implicitDefEqProofs [-getElem?_pos, go_sem, ltO, hO, ts])
    have hk : k = l.length := by simp at h; omega
    subst hk
    simp -dsimp -implicitDefEqProofs [-getElem?_pos, go_sem, hP, t1]
    obtain ⟨J, hJ⟩ : ∃ I : Nat → St → Prop, I = fun m s => ∃ (k id : Nat), k ≤ l.length ∧ 1 ≤ id ∧ m = l.length - k ∧ s.t 2 = iv day ∧ s.t 3 = .ref 0 0 0 ∧ s.t 9 = iv n ∧ s.t 10 = iv (G k).1 ∧ s.t 12 = .sref id 0 (G k).2.length ∧ s.t 97 = keepsL l ∧ s.t 98 = iv l.length ∧ s.t 99 = iv k ∧ s.H[0]? = some (some ⟨28, 3, [a.cells]⟩) ∧ s.H[id]? = some (some ⟨38, 6, encL TEntry.cells (G k).2⟩) := ⟨_, rfl⟩
    refine aloop0 J (l.length) (by rw [hN]; rfl) ?_ ?_
    · rw [hJ]
      exact ⟨0, id, by omega, hid, by omega, by simp -dsimp -implicitDefEqProofs [-getElem?_pos, go_sem, t2], by simp -dsimp -implicitDefEqProofs [-getElem?_pos, go_sem, t3], by simp -dsimp -implicitDefEqProofs [-getElem?_pos, go_sem, t9], by simp -dsimp -implicitDefEqProofs [-getElem?_pos, go_sem, t10, G0], by simp -dsimp -implicitDefEqProofs [-getElem?_pos, go_sem, t12, G0], by simp -dsimp -implicitDefEqProofs [-getElem?_pos, go_sem, t1], by simp -dsimp -implicitDefEqProofs [-getElem?_pos, go_sem, t1], by simp -dsimp -implicitDefEqProofs [-getElem?_pos, go_sem], by simp -dsimp -implicitDefEqProofs [-getElem?_pos, go_sem, hA], by simp -dsimp -implicitDefEqProofs [-getElem?_pos, go_sem, hO, G0]⟩
    clear t1 t2 t3 t9 t10 t12 t58 t59 t60 hA hO lt0 ltO h hid hm
    intro m s hs'
    rw [hJ] at hs'
    obtain ⟨k, id, hk, hid, hm, t2, t3, t9, t10, t12, t97, t98, t99, hA, hO⟩ := hs'
    have lt0 := (List.getElem?_eq_some_iff.1 hA).1
    have ltO := (List.getElem?_eq_some_iff.1 hO).1
    simp -dsimp -implicitDefEqProofs [-getElem?_pos, go_sem, hP, t98, t99]
    refine condP (fun h => ?_) (fun h => ?_)
    · have hk : k < l.length := by simpa using h
      obtain ⟨x, hx⟩ : ∃ x, l[k]? = some x := ⟨_, List.getElem?_eq_getElem hk⟩
      have wk := wrap_in ((k : Int) + 1) (by omega)
      have ts := Gs k x hx
      have tb := Gb k (by omega)
      have kx := km x (List.mem_of_getElem? hx)
      have bx := bb x.Sub
      unfold give1 at ts
      obtain ⟨b2, hb2⟩ : ∃ b, b = (balanceA a x.Sub).2 := ⟨_, rfl⟩
      obtain ⟨b, hb⟩ : ∃ b, b = bal x.Sub := ⟨_, rfl⟩
      have bl := blc x.Sub
      rw [← hb2, ← hb] at bl
      rw [← hb] at ts bx
      have fin : ∀ (s' : St) (id' : Nat), 1 ≤ id' → s'.t 2 = s.t 2 → s'.t 3 = s.t 3 → s'.t 9 = s.t 9 → s'.t 10 = iv (G (k + 1)).1 → s'.t 12 = .sref id' 0 (G (k + 1)).2.length → s'.t 97 = s.t 97 → s'.t 98 = s.t 98 → s'.t 99 = iv ((k : Int) + 1) → s'.H[0]? = s.H[0]? → s'.H[id']? = some (some ⟨38, 6, encL TEntry.cells (G (k + 1)).2⟩) → ∃ n', n' < m ∧ J n' s' := fun s' id' hid' e2 e3 e9 e10 e12 e97 e98 e99 eH eO => by
        refine ⟨l.length - (k + 1), by omega, ?_⟩
        rw [hJ]
        exact ⟨k + 1, id', by omega, hid', rfl, by rw [e2, t2], by rw [e3, t3], by rw [e9, t9], e10, e12, by rw [e97, t97], by rw [e98, t98], by rw [e99]; simp, by rw [eH, hA], eO⟩
      have w1 := wrap_in (x.Low - b) (by omega)
      have w2 := wrap_in ((n : Int) + 1) (by omega)
      have w3 := wrap_in ((n : Int) + 1 + (G k).2.length) (by omega)
      have w4 := wrap_in ((G k).1 - min (x.Low - b) (G k).1) (by omega)
      simp -dsimp -implicitDefEqProofs [-getElem?_pos, go_sem, hP, t97, t99, hx, TKeep.cells, t3, hA, lt0, cA]
      refine callB_is (bl.lift _ _) hP en_36 (by simp [ia, imm_sc]) (imm_pair .sc .sc) ?_
      by_cases c2 : b < x.Low
      · by_cases c3 : 0 < min (x.Low - b) (G k).1
        · rw [if_pos ⟨c2, c3⟩] at ts
          have d3 : decide (0 < min (x.Low - b) (G k).1) = true := decide_eq_true c3
          obtain ⟨mn, hmn⟩ : ∃ mn, mn = min (x.Low - b) (G k).1 := ⟨_, rfl⟩
          rw [← hmn] at ts d3 w4 c3
          have es : encL TEntry.cells (G k).2 ++ [[iv ((n : Int) + 1 + (G k).2.length), iv day, iv 1, iv x.Sub, iv mn, iv 0]] = encL TEntry.cells (G (k + 1)).2 := by
            rw [ts, ← encL_snoc]
            rfl
          simp -dsimp -implicitDefEqProofs [-getElem?_pos, go_sem, hP, w1, amin, aminFrom, t10, ← hmn, c2, c3, t9, t12, hO, ltO, t2, w2, w3, w4, t99, wk]
          have ne0 : ¬ id = 0 := by omega
          refine ⟨by omega, by omega, ?_⟩
          exact fin _ (s.H.length + 1) (by omega) (by simp -dsimp -implicitDefEqProofs [-getElem?_pos, go_sem]) (by simp -dsimp -implicitDefEqProofs [-getElem?_pos, go_sem]) (by simp -dsimp -implicitDefEqProofs [-getElem?_pos, go_sem]) (by simp -dsimp -implicitDefEqProofs [-getElem?_pos, go_sem, ts]) (by simp -dsimp -implicitDefEqProofs [-getElem?_pos, go_sem, ts]) (by simp -dsimp -implicitDefEqProofs [-getElem?_pos, go_sem]) (by simp -dsimp -implicitDefEqProofs [-getElem?_pos, go_sem]) (by simp -dsimp -implicitDefEqProofs [-getElem?_pos, go_sem]) (by simp -dsimp -implicitDefEqProofs [-getElem?_pos, go_sem, ne0, lt0]) (by simp -dsimp -implicitDefEqProofs [-getElem?_pos, go_sem, es])
        · rw [if_neg (fun h => c3 h.2)] at ts
          obtain ⟨mn, hmn⟩ : ∃ mn, mn = min (x.Low - b) (G k).1 := ⟨_, rfl⟩
          rw [← hmn] at c3
          simp -dsimp -implicitDefEqProofs [-getElem?_pos, go_sem, hP, w1, amin, aminFrom, t10, ← hmn, c2, c3, t99, wk]
          exact fin _ id hid (by simp -dsimp -implicitDefEqProofs [-getElem?_pos, go_sem]) (by simp -dsimp -implicitDefEqProofs [-getElem?_pos, go_sem]) (by simp -dsimp -implicitDefEqProofs [-getElem?_pos, go_sem]) (by simp -dsimp -implicitDefEqProofs [-getElem?_pos, go_sem, t10, ts]) (by simp -dsimp -implicitDefEqProofs [-getElem?_pos, go_sem, t12, ts]) (by simp -dsimp -implicitDefEqProofs [-getElem?_pos, go_sem]) (by simp -dsimp -implicitDefEqProofs [-getElem?_pos, go_sem]) (by simp -dsimp -implicitDefEqProofs [-getElem?_pos, go_sem]) (by simp -dsimp -implicitDefEqProofs [-getElem?_pos, go_sem, lt0]) (by simp -dsimp -implicitDefEqProofs [-getElem?_pos, go_sem, ltO, hO, ts])
      · rw [if_neg (fun h => c2 h.1)] at ts
        simp -dsimp -implicitDefEqProofs [-getElem?_pos, go_sem, hP, w1, amin, aminFrom, t10, c2, t99, wk]
        exact fin _ id hid (by simp -dsimp -implicitDefEqProofs [-getElem?_pos, go_sem]) (by simp -dsimp -implicitDefEqProofs [-getElem?_pos, go_sem]) (by simp -dsimp -implicitDefEqProofs [-getElem?_pos, go_sem]) (by simp -dsimp -implicitDefEqProofs [-getElem?_pos, go_sem, t10, ts]) (by simp -dsimp -implicitDefEqProofs [-getElem?_pos, go_sem, t12, ts]) (by simp -dsimp -implicitDefEqProofs [-getElem?_pos, go_sem]) (by simp -dsimp -implicitDefEqProofs [-getElem?_pos, go_sem]) (by simp -dsimp -implicitDefEqProofs [-getElem?_pos, go_sem]) (by simp -dsimp -implicitDefEqProofs [-getElem?_pos, go_sem, lt0]) (by simp -dsimp -implicitDefEqProofs [-getElem?_pos, go_sem, ltO, hO, ts])
    have hk : k = l.length := by simp at h; omega
    subst hk
    have gb := Gb l.length (Nat.le_refl _)
    have w5 := wrap_in ((n : Int) + (G l.length).2.length) (by omega)
    by_cases c4 : 400 < n + (G l.length).2.length
    · have d4 : decide ((400 : Int) < (n : Int) + (G l.length).2.length) = true := decide_eq_true (by omega)
      rw [if_pos c4] at tP
      simp -dsimp -implicitDefEqProofs [-getElem?_pos, go_sem, hP, t9, t12, hO, ltO, w5, d4]
      refine done_nil2 6 ?_
      rw [tP]
      simp [encL]
    · have d4 : decide ((400 : Int) < (n : Int) + (G l.length).2.length) = false := decide_eq_false (by omega)
      rw [if_neg c4] at tP
      simp -dsimp -implicitDefEqProofs [-getElem?_pos, go_sem, hP, t9, t12, hO, ltO, w5, d4]
      have e2 := encL_take TEntry.cells (G l.length).2 _ rfl
      refine done (x := .tup [entsL (G l.length).2, iv 0]) ?_ ?_ ?_
      · simp -dsimp -implicitDefEqProofs [-getElem?_pos, go_sem, hO, e2]
        exact imm_list.1 (imm_ents _)
      · rw [tP]
      · simp -dsimp -implicitDefEqProofs [-getElem?_pos, go_sem, hO, e2]
end Go.Proofs.Ytcfkdimndhapfaa
