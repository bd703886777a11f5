/- Accounts: the rest of the program's functions. -/
import Derived.Test.YtcfkdimndhapfaaAcc7
set_option linter.unusedSimpArgs false
set_option linter.unusedVariables false
namespace Go.Proofs.Ytcfkdimndhapfaa
open Go.PA
open Go.RowKit

theorem total_pf (a : TAccount) (hl : a.Subs.length ≤ 100000) (he : a.Entries.length ≤ 100000) : PFun Try.prog none none 19 [.agg a.cells] (· = iv (totalA a)) := by
  refine pfun_intro Try.func19 rfl (by simp [Try.f19]) (by kernel_rfl) ?_
  intro E hP hr hs hW hN
  have ck := check_pf a hl he
  rw [cA] at ck
  have ia : Imm (.agg [iv a.Credit, subsL a.Subs, entsL a.Entries]) := imm_acc a
  simp -dsimp -implicitDefEqProofs [-getElem?_pos, go_sem, hP, cA]
  refine callB_is (ck.lift _ _) hP en_17 (by simp [ia]) .sc ?_
  by_cases c1 : checkA a = 0
  rotate_left
  · have : totalA a = 0 := by rw [totalA, if_neg c1]
    simp -dsimp -implicitDefEqProofs [-getElem?_pos, go_sem, hP, c1, this]
  have tA : totalA a = sumB a.Subs := by rw [totalA, if_pos c1]
  obtain ⟨k1, k2, k3, k4, k5⟩ := check_ok c1
  obtain ⟨q1, q2, q3, q4⟩ := check_keeps c1
  simp -dsimp -implicitDefEqProofs [-getElem?_pos, go_sem, hP, c1]
  obtain ⟨I, hI⟩ : ∃ I : Nat → St → Prop, I = fun m s => ∃ k : Nat, k ≤ a.Subs.length ∧ m = a.Subs.length - k ∧ s.t 3 = iv (sumB (a.Subs.take k)) ∧ s.t 10 = subsL a.Subs ∧ s.t 11 = iv a.Subs.length ∧ s.t 12 = iv k := ⟨_, rfl⟩
  refine aloop0 I (a.Subs.length) (by rw [hN]; rfl) ?_ ?_
  · rw [hI]
    exact ⟨0, by omega, by omega, by simp -dsimp -implicitDefEqProofs [-getElem?_pos, go_sem, sumB], by simp -dsimp -implicitDefEqProofs [-getElem?_pos, go_sem], by simp -dsimp -implicitDefEqProofs [-getElem?_pos, go_sem], by simp -dsimp -implicitDefEqProofs [-getElem?_pos, go_sem]⟩
  intro m s hs'
  rw [hI] at hs'
  obtain ⟨k, hk, hm, t3, t10, t11, t12⟩ := hs'
  simp -dsimp -implicitDefEqProofs [-getElem?_pos, go_sem, hP, t11, t12]
  refine condP (fun h => ?_) (fun h => ?_)
  · have hk : k < a.Subs.length := by simpa using h
    obtain ⟨x, hx⟩ : ∃ x, a.Subs[k]? = some x := ⟨_, List.getElem?_eq_getElem hk⟩
    have wk := wrap_in ((k : Int) + 1) (by omega)
    have e1 : a.Subs.take (k + 1) = a.Subs.take k ++ [x] := by rw [List.take_add_one, hx]; rfl
    have b1 := sumB_bound k3 _ (okAll_take q1 (k + 1))
    have b2 : (a.Subs.take (k + 1)).length ≤ 20 := by rw [List.length_take]; omega
    rw [e1, sumB_snoc, ← e1] at b1
    have ws := wrap_in (sumB (a.Subs.take k) + x.Balance) (by omega)
    simp -dsimp -implicitDefEqProofs [-getElem?_pos, go_sem, hP, t10, t12, hx, TSub.cells, t3, ws, wk]
    refine ⟨a.Subs.length - (k + 1), by omega, ?_⟩
    rw [hI]
    exact ⟨k + 1, by omega, rfl, by simp -dsimp -implicitDefEqProofs [-getElem?_pos, go_sem]; rw [e1, sumB_snoc], by simp -dsimp -implicitDefEqProofs [-getElem?_pos, go_sem, t10], by simp -dsimp -implicitDefEqProofs [-getElem?_pos, go_sem, t11], by simp -dsimp -implicitDefEqProofs [-getElem?_pos, go_sem]⟩
  · have hk : k = a.Subs.length := by simp at h; omega
    subst hk
    rw [List.take_length] at t3
    simp -dsimp -implicitDefEqProofs [-getElem?_pos, go_sem, hP, t3, tA]
set_option maxHeartbeats 1000000 in
theorem flow_pf (a : TAccount) (from_ to : Int) (hl : a.Subs.length ≤ 100000) (he : a.Entries.length ≤ 100000) : PFun Try.prog none none 24 [.agg a.cells, iv from_, iv to] (· = .tup [iv (flowA a from_ to).1, iv (flowA a from_ to).2]) := by
  refine pfun_intro Try.func24 rfl (by simp [Try.f24]) (by kernel_rfl) ?_
  intro E hP hr hs hW hN
  have ck := check_pf a hl he
  rw [cA] at ck
  have ia : Imm (.agg [iv a.Credit, subsL a.Subs, entsL a.Entries]) := imm_acc a
  simp -dsimp -implicitDefEqProofs [-getElem?_pos, go_sem, hP, cA]
  refine callB_is (ck.lift _ _) hP en_17 (by simp [ia]) .sc ?_
  by_cases c1 : checkA a = 0
  rotate_left
  · have : flowA a from_ to = (0, 0) := by rw [flowA, if_neg c1]
    simp -dsimp -implicitDefEqProofs [-getElem?_pos, go_sem, hP, c1]
    refine done_imm (imm_pair .sc .sc) ?_
    rw [this]
  have tA : flowA a from_ to = (sumE (inF from_ to) a.Entries, sumE (outF from_ to) a.Entries) := by rw [flowA, if_pos c1]
  obtain ⟨k1, k2, k3, k4, k5⟩ := check_ok c1
  simp -dsimp -implicitDefEqProofs [-getElem?_pos, go_sem, hP, c1]
  obtain ⟨I, hI⟩ : ∃ I : Nat → St → Prop, I = fun m s => ∃ k : Nat, k ≤ a.Entries.length ∧ m = a.Entries.length - k ∧ s.t 1 = iv from_ ∧ s.t 2 = iv to ∧ s.t 6 = iv (sumE (inF from_ to) (a.Entries.take k)) ∧ s.t 7 = iv (sumE (outF from_ to) (a.Entries.take k)) ∧ s.t 14 = entsL a.Entries ∧ s.t 15 = iv a.Entries.length ∧ s.t 16 = iv k := ⟨_, rfl⟩
  refine aloop0 I (a.Entries.length) (by rw [hN]; rfl) ?_ ?_
  · rw [hI]
    exact ⟨0, by omega, by omega, by simp -dsimp -implicitDefEqProofs [-getElem?_pos, go_sem], by simp -dsimp -implicitDefEqProofs [-getElem?_pos, go_sem], by simp -dsimp -implicitDefEqProofs [-getElem?_pos, go_sem, sumE], by simp -dsimp -implicitDefEqProofs [-getElem?_pos, go_sem, sumE], by simp -dsimp -implicitDefEqProofs [-getElem?_pos, go_sem], by simp -dsimp -implicitDefEqProofs [-getElem?_pos, go_sem], by simp -dsimp -implicitDefEqProofs [-getElem?_pos, go_sem]⟩
  intro m s hs'
  rw [hI] at hs'
  obtain ⟨k, hk, hm, t1, t2, t6, t7, t14, t15, t16⟩ := hs'
  simp -dsimp -implicitDefEqProofs [-getElem?_pos, go_sem, hP, t15, t16]
  refine condP (fun h => ?_) (fun h => ?_)
  · have hk : k < a.Entries.length := by simpa using h
    obtain ⟨e, hee⟩ : ∃ e, a.Entries[k]? = some e := ⟨_, List.getElem?_eq_getElem hk⟩
    have wk := wrap_in ((k : Int) + 1) (by omega)
    have e1 : a.Entries.take (k + 1) = a.Entries.take k ++ [e] := by rw [List.take_add_one, hee]; rfl
    have b2 : (a.Entries.take (k + 1)).length ≤ 400 := by rw [List.length_take]; omega
    have bi := sumE_bound (inF from_ to) 1000000000000 (a.Entries.take (k + 1)) fun x hx => inF_bound c1 _ _ x (List.mem_of_mem_take hx)
    have bo := sumE_bound (outF from_ to) 1000000000000 (a.Entries.take (k + 1)) fun x hx => outF_bound c1 _ _ x (List.mem_of_mem_take hx)
    have si : sumE (inF from_ to) (a.Entries.take (k + 1)) = sumE (inF from_ to) (a.Entries.take k) + inF from_ to e := by rw [e1, sumE_snoc]
    have so : sumE (outF from_ to) (a.Entries.take (k + 1)) = sumE (outF from_ to) (a.Entries.take k) + outF from_ to e := by rw [e1, sumE_snoc]
    have fin : ∀ s' : St, s'.t 6 = iv (sumE (inF from_ to) (a.Entries.take (k + 1))) → s'.t 7 = iv (sumE (outF from_ to) (a.Entries.take (k + 1))) → s'.t 1 = s.t 1 → s'.t 2 = s.t 2 → s'.t 14 = s.t 14 → s'.t 15 = s.t 15 → s'.t 16 = iv ((k : Int) + 1) → ∃ n', n' < m ∧ I n' s' := fun s' e6 e7 e1 e2 e14 e15 e16 => by
      refine ⟨a.Entries.length - (k + 1), by omega, ?_⟩
      rw [hI]
      exact ⟨k + 1, by omega, rfl, by rw [e1, t1], by rw [e2, t2], e6, e7, by rw [e14, t14], by rw [e15, t15], by rw [e16]; simp⟩
    simp -dsimp -implicitDefEqProofs [-getElem?_pos, go_sem, hP, t14, t16, hee, TEntry.cells, t1, t2]
    refine callB_pure (among_pf e.Day from_ to) hP en_63 (args_same (by simp -dsimp -implicitDefEqProofs [-getElem?_pos, go_sem])) .sc ?_
    by_cases d : amongB e.Day from_ to = true
    · by_cases f0 : e.From = 0
      · have g0 : decide (e.From = 0) = true := by simpa using f0
        have fi : inF from_ to e = e.Amount := by rw [inF, if_pos ⟨d, f0⟩]
        have wi := wrap_in (sumE (inF from_ to) (a.Entries.take k) + e.Amount) (by omega)
        have z0 : ¬ e.To = 0 := fun z0 => (check_mem c1 e (List.mem_of_getElem? hee)).2.2.2.2.1 (f0.trans z0.symm)
        have fo : outF from_ to e = 0 := by rw [outF, if_neg (fun h => z0 h.2)]
        simp -dsimp -implicitDefEqProofs [-getElem?_pos, go_sem, hP, d, g0, t6, t16, wi, wk]
        exact fin _ (by simp -dsimp -implicitDefEqProofs [-getElem?_pos, go_sem]; rw [si, fi]) (by simp -dsimp -implicitDefEqProofs [-getElem?_pos, go_sem, t7]; rw [so, fo]; simp) (by simp -dsimp -implicitDefEqProofs [-getElem?_pos, go_sem]) (by simp -dsimp -implicitDefEqProofs [-getElem?_pos, go_sem]) (by simp -dsimp -implicitDefEqProofs [-getElem?_pos, go_sem]) (by simp -dsimp -implicitDefEqProofs [-getElem?_pos, go_sem]) (by simp -dsimp -implicitDefEqProofs [-getElem?_pos, go_sem])
      · have fi : inF from_ to e = 0 := by rw [inF, if_neg (fun h => f0 h.2)]
        by_cases z0 : e.To = 0
        · have g0 : decide (e.To = 0) = true := by simpa using z0
          have fo : outF from_ to e = e.Amount := by rw [outF, if_pos ⟨d, z0⟩]
          have wo := wrap_in (sumE (outF from_ to) (a.Entries.take k) + e.Amount) (by omega)
          simp -dsimp -implicitDefEqProofs [-getElem?_pos, go_sem, hP, d, f0, g0, t7, t16, wo, wk]
          exact fin _ (by simp -dsimp -implicitDefEqProofs [-getElem?_pos, go_sem, t6]; rw [si, fi]; simp) (by simp -dsimp -implicitDefEqProofs [-getElem?_pos, go_sem]; rw [so, fo]) (by simp -dsimp -implicitDefEqProofs [-getElem?_pos, go_sem]) (by simp -dsimp -implicitDefEqProofs [-getElem?_pos, go_sem]) (by simp -dsimp -implicitDefEqProofs [-getElem?_pos, go_sem]) (by simp -dsimp -implicitDefEqProofs [-getElem?_pos, go_sem]) (by simp -dsimp -implicitDefEqProofs [-getElem?_pos, go_sem])
        · have fo : outF from_ to e = 0 := by rw [outF, if_neg (fun h => z0 h.2)]
          simp -dsimp -implicitDefEqProofs [-getElem?_pos, go_sem, hP, d, f0, z0, t16, wk]
          exact fin _ (by simp -dsimp -implicitDefEqProofs [-getElem?_pos, go_sem, t6]; rw [si, fi]; simp) (by simp -dsimp -implicitDefEqProofs [-getElem?_pos, go_sem, t7]; rw [so, fo]; simp) (by simp -dsimp -implicitDefEqProofs [-getElem?_pos, go_sem]) (by simp -dsimp -implicitDefEqProofs [-getElem?_pos, go_sem]) (by simp -dsimp -implicitDefEqProofs [-getElem?_pos, go_sem]) (by simp -dsimp -implicitDefEqProofs [-getElem?_pos, go_sem]) (by simp -dsimp -implicitDefEqProofs [-getElem?_pos, go_sem])
    · have fi : inF from_ to e = 0 := by rw [inF, if_neg (fun h => d h.1)]
      have fo : outF from_ to e = 0 := by rw [outF, if_neg (fun h => d h.1)]
      have d : amongB e.Day from_ to = false := by simpa using d
      simp -dsimp -implicitDefEqProofs [-getElem?_pos, go_sem, hP, d, t16, wk]
      exact fin _ (by simp -dsimp -implicitDefEqProofs [-getElem?_pos, go_sem, t6]; rw [si, fi]; simp) (by simp -dsimp -implicitDefEqProofs [-getElem?_pos, go_sem, t7]; rw [so, fo]; simp) (by simp -dsimp -implicitDefEqProofs [-getElem?_pos, go_sem]) (by simp -dsimp -implicitDefEqProofs [-getElem?_pos, go_sem]) (by simp -dsimp -implicitDefEqProofs [-getElem?_pos, go_sem]) (by simp -dsimp -implicitDefEqProofs [-getElem?_pos, go_sem]) (by simp -dsimp -implicitDefEqProofs [-getElem?_pos, go_sem])
  · have hk : k = a.Entries.length := by simp at h; omega
    subst hk
    rw [List.take_length] at t6 t7
    simp -dsimp -implicitDefEqProofs [-getElem?_pos, go_sem, hP, t6, t7]
    refine done_imm (imm_pair .sc .sc) ?_
    rw [tA]

set_option maxHeartbeats 1000000 in
theorem open_pf (l : List Int) (credit : Int) (hl : l.length ≤ 100000) : PFun Try.prog none none 27 [numsL l, iv credit] (· = .tup [.agg (openA l credit).1.cells, iv (openA l credit).2]) := by
  refine pfun_intro Try.func27 rfl (by simp [Try.f27]) (by kernel_rfl) ?_
  intro E hP hr hs hW hN
  simp -dsimp -implicitDefEqProofs [-getElem?_pos, go_sem, hP]
  refine callB_pure (valid_pf credit) hP en_53 (args_same (by simp -dsimp -implicitDefEqProofs [-getElem?_pos, go_sem])) .sc ?_
  by_cases c1 : vB credit = true
  rotate_left
  · have : openA l credit = (zeroA, 2) := by rw [openA, if_neg c1]
    simp -dsimp -implicitDefEqProofs [-getElem?_pos, go_sem, hP, c1]
    refine done_zeroA ?_
    rw [this]
  by_cases c2 : 20 < l.length
  · have d2 : decide ((20 : Int) < l.length) = true := decide_eq_true (by omega)
    have : openA l credit = (zeroA, 3) := by rw [openA, if_pos c1, if_pos c2]
    simp -dsimp -implicitDefEqProofs [-getElem?_pos, go_sem, hP, c1, d2]
    refine done_zeroA ?_
    rw [this]
  have d2 : decide ((20 : Int) < l.length) = false := decide_eq_false (by omega)
  simp -dsimp -implicitDefEqProofs [-getElem?_pos, go_sem, hP, c1, d2]
  refine callB_pure (numbered_pf l hl) hP en_54 (args_imm (imm_nums _) (args_nil.2 trivial)) .sc ?_
  by_cases c3 : numB l = true
  rotate_left
  · have : openA l credit = (zeroA, 60) := by rw [openA, if_pos c1, if_neg c2, if_neg c3]
    simp -dsimp -implicitDefEqProofs [-getElem?_pos, go_sem, hP, c3]
    refine done_zeroA ?_
    rw [this]
  simp -dsimp -implicitDefEqProofs [-getElem?_pos, go_sem, hP, c3]
  obtain ⟨I, hI⟩ : ∃ I : Nat → St → Prop, I = fun m s => ∃ (k : Nat) (x : AV), k ≤ l.length ∧ m = l.length - k ∧ s.t 4 = .ref 0 0 0 ∧ s.t 6 = .ref 1 0 0 ∧ s.t 26 = numsL l ∧ s.t 27 = iv l.length ∧ s.t 28 = iv k ∧ s.H[0]? = some (some ⟨28, 3, [[iv 0, .nil, .nil]]⟩) ∧ s.H[1]? = some (some ⟨28, 3, [[iv credit, x, .nil]]⟩) ∧ Grown 2 s.H x 31 2 (encL TSub.cells (newS (l.take k))) := ⟨_, rfl⟩
  refine aloop0 I (l.length) (by rw [hN]; rfl) ?_ ?_
  · rw [hI]
    exact ⟨0, .nil, by omega, by omega, by simp -dsimp -implicitDefEqProofs [-getElem?_pos, go_sem], by simp -dsimp -implicitDefEqProofs [-getElem?_pos, go_sem], by simp -dsimp -implicitDefEqProofs [-getElem?_pos, go_sem], by simp -dsimp -implicitDefEqProofs [-getElem?_pos, go_sem], by simp -dsimp -implicitDefEqProofs [-getElem?_pos, go_sem], by simp -dsimp -implicitDefEqProofs [-getElem?_pos, go_sem], by simp -dsimp -implicitDefEqProofs [-getElem?_pos, go_sem], .inl ⟨rfl, rfl⟩⟩
  intro m s hs'
  rw [hI] at hs'
  obtain ⟨k, x, hk, hm, t4, t6, t26, t27, t28, h0, h1, hg⟩ := hs'
  have lt0 := (List.getElem?_eq_some_iff.1 h0).1
  have lt1 := (List.getElem?_eq_some_iff.1 h1).1
  simp -dsimp -implicitDefEqProofs [-getElem?_pos, go_sem, hP, t27, t28]
  refine condP (fun h => ?_) (fun h => ?_)
  · have hk : k < l.length := by simpa using h
    obtain ⟨n, hn⟩ : ∃ n, l[k]? = some n := ⟨_, List.getElem?_eq_getElem hk⟩
    have wk := wrap_in ((k : Int) + 1) (by omega)
    have e1 : newS (l.take (k + 1)) = newS (l.take k) ++ [⟨n, 0⟩] := by rw [List.take_add_one, hn]; simp [newS]
    have nl : (newS (l.take k)).length = k := by rw [newS_len, List.length_take]; omega
    rcases hg with ⟨rfl, hg⟩ | ⟨id, h2, rfl, hg⟩
    · simp -dsimp -implicitDefEqProofs [-getElem?_pos, go_sem, hP, t26, t28, hn, encI, t6, h1, lt1, wk]
      refine ⟨l.length - (k + 1), by omega, ?_⟩
      rw [hI]
      refine ⟨k + 1, .sref s.H.length 0 1, by omega, rfl, by simp -dsimp -implicitDefEqProofs [-getElem?_pos, go_sem, t4], by simp -dsimp -implicitDefEqProofs [-getElem?_pos, go_sem, t6], by simp -dsimp -implicitDefEqProofs [-getElem?_pos, go_sem, t26], by simp -dsimp -implicitDefEqProofs [-getElem?_pos, go_sem, t27], by simp -dsimp -implicitDefEqProofs [-getElem?_pos, go_sem], by simp -dsimp -implicitDefEqProofs [-getElem?_pos, go_sem, lt0, h0], by simp -dsimp -implicitDefEqProofs [-getElem?_pos, go_sem, lt1], .inr ⟨s.H.length, by omega, ?_, ?_⟩⟩
      · rw [e1, ← encL_snoc, hg]; rfl
      · rw [e1, ← encL_snoc, hg]
        simp -dsimp -implicitDefEqProofs [-getElem?_pos, go_sem, TSub.cells]
    · have ne0 : ¬ id = 0 := by omega
      have ne1 : ¬ id = 1 := by omega
      have lti := (List.getElem?_eq_some_iff.1 hg).1
      simp -dsimp -implicitDefEqProofs [-getElem?_pos, go_sem, hP, t26, t28, hn, encI, t6, h1, lt1, hg, ne1, nl, wk]
      refine ⟨by omega, by omega, ?_⟩
      refine ⟨l.length - (k + 1), by omega, ?_⟩
      rw [hI]
      refine ⟨k + 1, .sref s.H.length 0 (k + 1), by omega, rfl, by simp -dsimp -implicitDefEqProofs [-getElem?_pos, go_sem, t4], by simp -dsimp -implicitDefEqProofs [-getElem?_pos, go_sem, t6], by simp -dsimp -implicitDefEqProofs [-getElem?_pos, go_sem, t26], by simp -dsimp -implicitDefEqProofs [-getElem?_pos, go_sem, t27], by simp -dsimp -implicitDefEqProofs [-getElem?_pos, go_sem], by simp -dsimp -implicitDefEqProofs [-getElem?_pos, go_sem, ne0, lt0, h0], by simp -dsimp -implicitDefEqProofs [-getElem?_pos, go_sem, ne1, lt1], .inr ⟨s.H.length, by omega, ?_, ?_⟩⟩
      · rw [encL_len, newS_len, List.length_take]
        congr 1
        omega
      · rw [e1, ← encL_snoc]
        simp -dsimp -implicitDefEqProofs [-getElem?_pos, go_sem, TSub.cells]
  · have hk : k = l.length := by simp at h; omega
    subst hk
    rw [List.take_length] at hg
    have : openA l credit = (newA l credit, 0) := by rw [openA, if_pos c1, if_neg c2, if_pos c3]
    have hc := hg.cellish
    simp -dsimp -implicitDefEqProofs [-getElem?_pos, go_sem, hP, t6, h1, lt1, t4, lt0, h0, hc]
    refine done_agg2 (cs' := (newA l credit).cells) (cw_sc ((hg.kept (X := [0]) (kept_set _ (by simp) (kept_refl _ _)) (by simp)).cw (imm_subs _) (cw_nil .nil))) ?_
    rw [this]
theorem next_pf (a : TAccount) (day from_ to amount ref : Int) (he : a.Entries.length ≤ 100000) : PFun Try.prog none none 20 [.agg a.cells, iv day, iv from_, iv to, iv amount, iv ref] (· = .agg (nextE a day from_ to amount ref).cells) := by
  refine pfun_intro Try.func20 rfl (by simp [Try.f20]) (by kernel_rfl) ?_
  intro E hP hr hs hW hN
  by_cases h0 : a.Entries.length = 0
  · have d0 : decide (0 < a.Entries.length) = false := decide_eq_false (by omega)
    have : nextE a day from_ to amount ref = ⟨1, day, from_, to, amount, ref⟩ := by rw [nextE, lastE_nil h0]; rfl
    simp -dsimp -implicitDefEqProofs [-getElem?_pos, go_sem, hP, cA, d0]
    refine done_imm (imm_ent ⟨1, day, from_, to, amount, ref⟩) ?_
    rw [this]
    rfl
  · obtain ⟨k, hk⟩ : ∃ k, a.Entries.length = k + 1 := ⟨a.Entries.length - 1, by omega⟩
    obtain ⟨e, hee⟩ : ∃ e, a.Entries[k]? = some e := ⟨_, List.getElem?_eq_getElem (by omega)⟩
    have d0 : decide ((0 : Int) < (k : Int) + 1) = true := decide_eq_true (by omega)
    have wk := wrap_in ((k : Int) + 1 - 1) (by omega)
    rw [Int.add_sub_cancel] at wk
    have : nextE a day from_ to amount ref = ⟨IntKind.i64.wrap (e.Number + 1), day, from_, to, amount, ref⟩ := by rw [nextE, lastE_get hk hee]
    simp -dsimp -implicitDefEqProofs [-getElem?_pos, go_sem, hP, cA, hk, d0, Int.add_sub_cancel, wk, hee, cE]
    refine done_imm (imm_ent ⟨IntKind.i64.wrap (e.Number + 1), day, from_, to, amount, ref⟩) ?_
    rw [this]
    rfl

theorem isidB_m {row src : Option Nat} (a : TSub) (H : Heap) (b : Nat) (id : Int) (hb : H[b]? = some (some ⟨3, 1, [[iv id]]⟩)) :
    MFun Try.prog row src 69 [.agg a.cells, .ref b 0 0] H (fun r H' => r = bv (decide (a.ID = id)) ∧ Kept [] H H') := by
  refine mfun_intro Try.func69 rfl (by simp [Try.f69]) (by kernel_rfl) (⟨_, H, rfl, kept_refl _ _⟩) ?_
  intro E hP hr hs hN
  have hlt := (List.getElem?_eq_some_iff.1 hb).1
  simp -dsimp -implicitDefEqProofs [-getElem?_pos, go_sem, hP, TSub.cells, hb, hlt]
  exact kept_push _ (kept_refl _ _)
theorem balance_pf (a : TAccount) (id : Int) (hl : a.Subs.length ≤ 100000) (he : a.Entries.length ≤ 100000) : PFun Try.prog none none 35 [.agg a.cells, iv id] (· = .tup [iv (balanceA a id).1, bv (balanceA a id).2]) := by
  refine pfun_intro Try.func35 rfl (by simp [Try.f35]) (by kernel_rfl) ?_
  intro E hP hr hs hW hN
  have ck := check_pf a hl he
  rw [cA] at ck
  have ia : Imm (.agg [iv a.Credit, subsL a.Subs, entsL a.Entries]) := imm_acc a
  simp -dsimp -implicitDefEqProofs [-getElem?_pos, go_sem, hP, cA]
  refine callB_m (by rw [hr, hs]; exact index_m_sub a.Subs (subsL a.Subs) _ 69 [.ref 1 0 0] (fun s => decide (s.ID = id)) (.inl rfl) (by omega) en_69 (fun a _ H' hk => isidB_m a H' 1 id (hk _ _ (by simp) (by simp)))) hP en_68 ?_
  rintro r H1 ⟨rfl, hk⟩
  have ob := hk 0 ⟨28, 3, [[iv a.Credit, subsL a.Subs, entsL a.Entries]]⟩ (by simp) (by simp)
  have lb := (List.getElem?_eq_some_iff.1 ob).1
  rcases find_place (l := a.Subs) (id := id) with ⟨h1, h2⟩ | ⟨i, s, h1, h2, h3⟩
  · have : balanceA a id = (0, false) := by
      rw [balanceA, h2]
      split <;> rfl
    have h1 : idxI (fun s : TSub => decide (s.ID = id)) a.Subs = -1 := h1
    simp -dsimp -implicitDefEqProofs [-getElem?_pos, go_sem, hP, h1]
    refine done_imm (imm_pair .sc .sc) ?_
    rw [this]
  · have h1 : idxI (fun s : TSub => decide (s.ID = id)) a.Subs = (i : Int) := h1
    have hi := (List.getElem?_eq_some_iff.1 h2).1
    have d1 : decide ((i : Int) < 0) = false := decide_eq_false (by omega)
    simp -dsimp -implicitDefEqProofs [-getElem?_pos, go_sem, hP, h1, d1, ob, lb]
    refine callB_is (ck.lift _ _) hP en_17 (by simp [ia]) .sc ?_
    by_cases c1 : checkA a = 0
    · have : balanceA a id = (s.Balance, true) := by rw [balanceA, if_pos c1, h3]
      simp -dsimp -implicitDefEqProofs [-getElem?_pos, go_sem, hP, h1, d1, c1, h2, TSub.cells, ob, lb]
      refine done_imm (imm_pair .sc .sc) ?_
      rw [this]
    · have : balanceA a id = (0, false) := by rw [balanceA, if_neg c1]
      simp -dsimp -implicitDefEqProofs [-getElem?_pos, go_sem, hP, h1, d1, c1]
      refine done_imm (imm_pair .sc .sc) ?_
      rw [this]

theorem early_m {row src : Option Nat} (e : TEntry) (H : Heap) (b : Nat) (day : Int) (hb : H[b]? = some (some ⟨3, 1, [[iv day]]⟩)) :
    MFun Try.prog row src 71 [.agg e.cells, .ref b 0 0] H (fun r H' => r = bv (early day e) ∧ Kept [] H H') := by
  refine mfun_intro Try.func71 rfl (by simp [Try.f71]) (by kernel_rfl) (⟨_, H, rfl, kept_refl _ _⟩) ?_
  intro E hP hr hs hN
  have hlt := (List.getElem?_eq_some_iff.1 hb).1
  simp -dsimp -implicitDefEqProofs [-getElem?_pos, go_sem, hP, TEntry.cells, hb, hlt, early]
  exact kept_push _ (kept_refl _ _)

theorem replay_prefix {credit : Int} {n d : Int} {l : List TSub} {es : List TEntry} {r : Int × Int × List TSub} (h : replayS credit n d l es = some r) (w : TEntry → Bool) : ∃ x, replayS credit n d l (es.takeWhile w) = some x := by
  rw [← List.takeWhile_append_dropWhile (p := w) (l := es), replayS_app] at h
  cases hx : replayS credit n d l (es.takeWhile w) with
  | none => rw [hx] at h; cases h
  | some x => exact ⟨x, rfl⟩
theorem until_replay {a : TAccount} (h : checkA a = 0) (day : Int) : ∃ x, replayW a (early day) = some x ∧ untilR a day = (x.2.2, 0) := by
  obtain ⟨_, _, _, _, h5⟩ := check_ok h
  obtain ⟨x, hx⟩ := replay_prefix h5 (early day)
  refine ⟨x, hx, ?_⟩
  rcases runE_replay a.Credit (a.Entries.takeWhile (early day)) zeroE (zeroS a.Subs) with ⟨r, hr, hrun⟩ | ⟨hr, _⟩
  · have : some r = some x := hr.symm.trans hx
    simp only [Option.some.injEq] at this
    subst this
    exact hrun
  · have : none = some x := hr.symm.trans hx
    cases this

set_option maxHeartbeats 1000000 in
theorem atp_pf (a : TAccount) (day : Int) (hl : a.Subs.length ≤ 100000) (he : a.Entries.length ≤ 100000) : PFun Try.prog none none 39 [.agg a.cells, iv day] (· = subsL (atA a day)) := by
  refine pfun_intro Try.func39 rfl (by simp [Try.f39]) (by kernel_rfl) ?_
  intro E hP hr hs hW hN
  have ck := check_pf a hl he
  rw [cA] at ck
  have ia : Imm (.agg [iv a.Credit, subsL a.Subs, entsL a.Entries]) := imm_acc a
  simp -dsimp -implicitDefEqProofs [-getElem?_pos, go_sem, hP, cA]
  refine callB_is (ck.lift _ _) hP en_17 (by simp [ia]) .sc ?_
  by_cases c1 : checkA a = 0
  rotate_left
  · have : atA a day = [] := by rw [atA, if_neg c1]
    simp -dsimp -implicitDefEqProofs [-getElem?_pos, go_sem, hP, c1]
    refine done_weak (.nil) (imm_subs []) (.nil 2) ?_
    rw [this]
  obtain ⟨x, hx, hu⟩ := until_replay c1 day
  have tA : atA a day = x.2.2 := by rw [atA, if_pos c1, hu]
  obtain ⟨k1, k2, k3, k4, k5⟩ := check_ok c1
  obtain ⟨hnd, hz0, hhd⟩ := numB_facts k4
  have hne : a.Subs ≠ [] := fun h => by rw [h] at hhd; simp [ids] at hhd
  simp -dsimp -implicitDefEqProofs [-getElem?_pos, go_sem, hP, c1]
  have rp := replay_m (row := none) (src := none) a [some ⟨28, 3, [[iv a.Credit, subsL a.Subs, entsL a.Entries]]⟩, some ⟨3, 1, [[iv day]]⟩] 71 [.ref 1 0 0] (early day) hl he hne k3 hnd hz0 en_71 (fun e _ H' hk => early_m e H' 1 day (hk _ _ (by simp) (by simp)))
  rw [cA] at rp
  refine callB_m (by rw [hr, hs]; exact rp) hP en_56 ?_
  rintro r H1 ⟨p, q, rfl, hp, hq, ht, hk⟩
  have t := ht x hx
  have t1 := t.obj
  have t2 := t.ltp
  have t3 := t.subs
  simp -dsimp -implicitDefEqProofs [-getElem?_pos, go_sem, hP, hx, t1, t2]
  refine done_weak (x := subsL x.2.2) ?_ (imm_subs _) ?_ ?_
  · simp only [view_sref, t3, viewS_some, List.drop_zero]
    rw [encL_take TSub.cells x.2.2 _ rfl]
    exact imm_subs _
  · simp only [view_sref, t3, viewS_some, List.drop_zero]
    rw [encL_take TSub.cells x.2.2 _ rfl]
    exact .refl _
  · rw [tA]

theorem agree_live {D : Nat → Bool} {X : List Nat} {H H' : Heap} (hk : Kept X H H') (hD : ∀ i, D i = true → i ∉ X ∧ ∃ o, H[i]? = some (some o)) : Agree D H H' := fun i hi => by
  obtain ⟨h1, o, ho⟩ := hD i hi
  rw [ho, hk i o h1 ho]

set_option maxHeartbeats 1000000 in
theorem post_pf (a : TAccount) (e : TEntry) (hl : a.Subs.length ≤ 100000) (he : a.Entries.length ≤ 100000) : PFun Try.prog none none 21 [.agg a.cells, .agg e.cells] (· = .tup [.agg (postA a e).1.cells, iv (postA a e).2]) := by
  refine pfun_intro Try.func21 rfl (by simp [Try.f21]) (by kernel_rfl) ?_
  intro E hP hr hs hW hN
  have ck := check_pf a hl he
  rw [cA] at ck
  have ia : Imm (.agg [iv a.Credit, subsL a.Subs, entsL a.Entries]) := imm_acc a
  have ie : Imm (.agg [iv e.Number, iv e.Day, iv e.From, iv e.To, iv e.Amount, iv e.Ref]) := imm_ent e
  simp -dsimp -implicitDefEqProofs [-getElem?_pos, go_sem, hP, cA, cE]
  refine callB_is (ck.lift _ _) hP en_17 (by simp [ia]) .sc ?_
  by_cases c1 : checkA a = 0
  rotate_left
  · have : postA a e = (zeroA, checkA a) := by rw [postA, if_neg c1]
    simp -dsimp -implicitDefEqProofs [-getElem?_pos, go_sem, hP, c1]
    refine done_zeroA ?_
    rw [this]
  obtain ⟨k1, k2, k3, k4, k5⟩ := check_ok c1
  by_cases c2 : a.Entries.length = 400
  · have : postA a e = (zeroA, 3) := by rw [postA, if_pos c1, if_pos c2]
    simp -dsimp -implicitDefEqProofs [-getElem?_pos, go_sem, hP, c1, c2]
    refine done_zeroA ?_
    rw [this]
  have d2 : decide ((a.Entries.length : Int) = 400) = false := decide_eq_false (by omega)
  obtain ⟨hnd, hz0, hhd⟩ := numB_facts k4
  obtain ⟨q1, q2, q3, q4⟩ := check_keeps c1
  have hne : a.Subs ≠ [] := fun h => by rw [h] at hhd; simp [ids] at hhd
  have hx : replayW a (fun _ => true) = some ((lastE a).Number, (lastE a).Day, a.Subs) := by rw [replayW, takeWhile_true]; exact k5
  have rp := fun (H : Heap) => replay_m (row := none) (src := none) a H 57 [] (fun _ => true) hl he hne k3 hnd hz0 en_57 (fun e _ H' _ => all_m e H')
  rw [cA] at rp
  simp -dsimp -implicitDefEqProofs [-getElem?_pos, go_sem, hP, c1, d2]
  refine callB_m (by rw [hr, hs]; exact rp _) hP en_56 ?_
  rintro r H1 ⟨p, q, rfl, hp, hq, ht, hk⟩
  have hp : 3 ≤ p := hp
  have hq : 3 ≤ q := hq
  have t := ht _ hx
  have ob0 := hk 0 ⟨28, 3, [[iv a.Credit, subsL a.Subs, entsL a.Entries]]⟩ (by simp) (by simp)
  have ob1 := hk 1 ⟨38, 6, [[iv e.Number, iv e.Day, iv e.From, iv e.To, iv e.Amount, iv e.Ref]]⟩ (by simp) (by simp)
  have ob2 := hk 2 ⟨28, 3, [[iv 0, .nil, .nil]]⟩ (by simp) (by simp)
  have l0 := (List.getElem?_eq_some_iff.1 ob0).1
  have l1 := (List.getElem?_eq_some_iff.1 ob1).1
  have l2 := (List.getElem?_eq_some_iff.1 ob2).1
  have tp := tpost_m (row := none) (src := none) t hl k3 hnd hz0 q1 (by dsimp only; omega) e
  rw [cE] at tp
  simp -dsimp -implicitDefEqProofs [-getElem?_pos, go_sem, hP, hx, ob1, l1]
  refine callB_m (by rw [hr, hs]; exact tp) hP en_59 ?_
  rintro r H2 ⟨rfl, ht2, hk2⟩
  have np : ∀ i, i < 3 → i ∉ [p, q] := fun i hi => by simp; omega
  have b0 := hk2 _ _ (np 0 (by omega)) ob0
  have b1 := hk2 _ _ (np 1 (by omega)) ob1
  have b2 := hk2 _ _ (np 2 (by omega)) ob2
  have m0 := (List.getElem?_eq_some_iff.1 b0).1
  have m1 := (List.getElem?_eq_some_iff.1 b1).1
  have m2 := (List.getElem?_eq_some_iff.1 b2).1
  by_cases c3 : (postS a.Credit (lastE a).Number (lastE a).Day a.Subs e).1 = 0
  rotate_left
  · have pA : postA a e = (zeroA, (postS a.Credit (lastE a).Number (lastE a).Day a.Subs e).1) := by rw [postA, if_pos c1, if_neg c2, if_neg c3]
    simp -dsimp -implicitDefEqProofs [-getElem?_pos, go_sem, hP, c3, b2, m2]
    refine done_zeroA ?_
    rw [pA]
  have pA : postA a e = (⟨a.Credit, (postS a.Credit (lastE a).Number (lastE a).Day a.Subs e).2, a.Entries ++ [e]⟩, 0) := by rw [postA, if_pos c1, if_neg c2, if_pos c3]
  have u := ht2 c3
  have u1 := u.obj
  have u2 := u.ltp
  have u3 := u.subs
  simp -dsimp -implicitDefEqProofs [-getElem?_pos, go_sem, hP, c3]
  refine adrawB (fun i => decide (i < 2) || decide (i = p)) [13] hP (by kernel_rfl) (by kernel_rfl) ?_
  simp -dsimp -implicitDefEqProofs [-getElem?_pos, go_sem, hP, b0, m0, u1, u2]
  refine callB_m (by rw [hr, hs]; exact clone_m_entry a.Entries H2 (by omega)) hP en_60 ?_
  rintro r H3 ⟨id, rfl, hid, ho3, hk3⟩
  have e1 := hk3 _ _ (by simp) b1
  have e2 := hk3 _ _ (by simp) b2
  have n1 := (List.getElem?_eq_some_iff.1 e1).1
  have n2 := (List.getElem?_eq_some_iff.1 e2).1
  have n3 := (List.getElem?_eq_some_iff.1 ho3).1
  have u' := u.kept hk3 (by simp) (by simp)
  have e3 := u'.subs
  have n4 := u'.ltq
  have ne2 : ¬ id = 2 := by omega
  have neq : ¬ id = q := by have := u.ltq; omega
  simp -dsimp -implicitDefEqProofs [-getElem?_pos, go_sem, hP, e1, n1, ho3, n3, e2, n2, ne2]
  have en : encL TEntry.cells a.Entries ++ [[iv e.Number, iv e.Day, iv e.From, iv e.To, iv e.Amount, iv e.Ref]] = encL TEntry.cells (a.Entries ++ [e]) := encL_snoc TEntry.cells a.Entries e
  have D : ∀ i, (decide (i < 2) || decide (i = p)) = true → i < H2.length ∧ i ≠ id := fun i hi => by
    simp only [Bool.or_eq_true, decide_eq_true_eq] at hi
    omega
  refine ⟨agree_live hk3 fun i hi => ⟨by simp, ?_⟩, by omega, by omega, fun i hi => ?_, ?_⟩
  · simp only [Bool.or_eq_true, decide_eq_true_eq] at hi
    rcases hi with hi | rfl
    · rcases i with _ | _ | i
      · exact ⟨_, b0⟩
      · exact ⟨_, b1⟩
      · omega
    · exact ⟨_, u1⟩
  · obtain ⟨h1, h2⟩ := D i hi
    have := (List.getElem?_eq_some_iff.1 ho3).1
    rw [List.getElem?_append_left (by simp; omega), List.getElem?_set_ne (Ne.symm h2)]
  refine done_agg2 (cs' := [iv a.Credit, subsL (postS a.Credit (lastE a).Number (lastE a).Day a.Subs e).2, entsL (a.Entries ++ [e])]) (cw_sc (cw_sref (ty := 31) ?_ (by rw [encL_len]) (imm_subs _) (cw_sref (ty := 38) ?_ (by simp [encL]) (imm_ents _) .nil))) ?_
  · rw [List.getElem?_append_left (by simp; omega), List.getElem?_set_ne (by omega), List.getElem?_set_ne neq]
    exact e3
  · rw [List.getElem?_append_right (by simp)]
    simp [en]
  · rw [pA]
    rfl

end Go.Proofs.Ytcfkdimndhapfaa
