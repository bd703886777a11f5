/- Several texts of this claim, joined: Law26a. -/
import Derived.Test.YtmpncdlhmknkoaaGreatPk8
set_option linter.unusedSimpArgs false
set_option linter.unusedVariables false
set_option linter.unusedSimpArgs false
set_option linter.unusedVariables false
namespace Go.Proofs.YtmpncdlhmknkoaaGreat
open Go.PA
open Go.RowKit
theorem entry_out {d : TDesk} {x : TItem} (io : IOk d x) {e : TEntry} (he : e ∈ d.Account.Entries) : (decide (e.Ref = x.Payment.Warrant) && decide (e.To = 0)) = outE x.Payment e ∧ (decide (e.Ref = x.Payment.Warrant) && decide (e.From = 0)) = inE x.Payment e ∧ (e.Ref = x.Payment.Warrant → e.Amount = x.Payment.Amount) := by
  by_cases h : e.Ref = x.Payment.Warrant
  · obtain ⟨h1, h2⟩ := io.all e he h
    have hs := io.pay.sub.1
    refine ⟨?_, ?_, fun _ => h1⟩
    · unfold outE
      rcases h2 with ⟨a, b⟩ | ⟨a, b⟩
      · simp [h, a, b]
      · have : ¬ e.To = 0 := by omega
        simp [h, this]
    · unfold inE
      rcases h2 with ⟨a, b⟩ | ⟨a, b⟩
      · have : ¬ e.From = 0 := by omega
        simp [h, this]
      · simp [h, a, b]
  · exact ⟨by simp [outE, h], by simp [inE, h], fun e => absurd e h⟩
set_option maxHeartbeats 8000000 in
theorem once26_pf (xs : List Int) (hx : Small xs) (hl : xs.length ≤ 9223372036854775807) : PFun Tryz.prog none none 3 [intsL xs] (· = bv true) := by
  refine pfun_introA Tryz.func3 rfl (by simp [Tryz.f3]) ?_
  intro E hP hr hs hW hN
  refine awp_cut (by rw [hN]; kernel_rfl) ?_
  simp [go_sem, hP]
  refine awp_cut (by rw [hN]; kernel_rfl) ?_
  simp [go_sem, hP]
  have hnew : POwn Tryz.prog E.row E.src 9 [intsL xs] 81 2 (· = [[intsL (xs.take 900), iv 0]]) := by rw [hr, hs]; exact new_pf xs hl
  refine callB_own hnew hP en_9 (args_same (by simp [go_sem, intsL])) (by simp [srefs_imm, go_sem, intsL]) ⟨_, rfl⟩ ?_
  rintro es rfl
  simp [go_sem, hP]
  refine awp_adopt 3 (ty := 81) (xs := xs.take 900) (at_ := 0) hr hs hW (by simp [go_sem]) (by simp [go_sem, intsL]) (by omega) (by simp; omega) (fun x hx' => hx x (List.mem_of_mem_take hx')) (by rw [hN]; kernel_rfl) ?_
  intro E' p hP' hr' hN' hW'
  rw [hP] at hP'
  rw [hN] at hN'
  clear hnew hP hr hs hW hN E
  rename Env => E
  rename E.P = _ => hP
  rename E.row = _ => hr
  rename E.N = _ => hN
  rename (∀ b, ¬ E.W b) => hW
  obtain ⟨src, hs⟩ : ∃ src, E.src = src := ⟨_, rfl⟩
  have up : ∀ {f : FuncId} {args : List AV} {Q : AV → Prop}, PFun Tryz.prog (some p) src f args Q → PFun Tryz.prog E.row E.src f args Q := fun h => hr ▸ hs ▸ h
  have saneB : ∀ {H : Heap} {C : AV → Heap → Prop} {b : Bx C}, C (bv true) H → CallB E 15 [] H C b := fun h => callB_pure sane26_pf hP en_15 (args_nil.2 trivial) .sc h
  simp -dsimp -implicitDefEqProofs [-getElem?_pos, go_sem, hP]
  refine callB_isQ (up (account0_pf p src 8 (by omega))) hP en_11 (by simp [go_sem]) acc0_ex ?_
  rintro r ⟨a, rfl, hga, hra⟩ _
  have fa := check_fit hga.ok
  have op := open26_pf a fa.1 fa.2
  have ia := imm_acc a
  have ho : (openD a).2 = 0 := by
    rw [openD, if_pos hga.ok, if_neg]
    intro e
    obtain ⟨x, hx, e⟩ := List.any_eq_true.1 e
    rw [refB, decide_eq_true (hra x hx)] at e
    cases e
  have h1 := (openD_ok ho).1
  rw [h1] at op
  simp only at op
  obtain ⟨d0, hd0⟩ : ∃ d0 : TDesk, d0 = ⟨a, zeroQ, []⟩ := ⟨_, rfl⟩
  have g0 : GenD 0 d0 30 := by
    rw [hd0]
    have := hga.day
    exact GenD.start hga hra (by rw [lastDay]; omega) (by omega)
  rw [← hd0] at op
  have id' := imm_desk d0
  rw [cDn] at op id'
  rw [cA] at op ia
  simp -dsimp -implicitDefEqProofs [-getElem?_pos, go_sem, hP, cA]
  refine callB_is (op.lift _ _) hP en_10 (by simpa using ia) (imm_pair id' .sc) ?_
  simp -dsimp -implicitDefEqProofs [-getElem?_pos, go_sem, hP]
  obtain ⟨I, hI⟩ : ∃ I : Nat → St → Prop, I = fun m s => ∃ (k : Nat) (d : TDesk) (day : Int), k ≤ 16 ∧ m = 16 - k ∧ GenD k d day ∧ s.t 3 = sp p ∧ s.t 4 = .ref 1 0 0 ∧ s.t 6 = iv day ∧ s.t 7 = iv k ∧ s.H[1]? = some (some (deskO d)) := ⟨_, rfl⟩
  refine aloop0 I (16) (by rw [hN]; rfl) ?_ ?_
  · rw [hI]
    exact ⟨0, d0, 30, by omega, by omega, g0, by simp -dsimp -implicitDefEqProofs [-getElem?_pos, go_sem], by simp -dsimp -implicitDefEqProofs [-getElem?_pos, go_sem], by simp -dsimp -implicitDefEqProofs [-getElem?_pos, go_sem], by simp -dsimp -implicitDefEqProofs [-getElem?_pos, go_sem], by simp -dsimp -implicitDefEqProofs [-getElem?_pos, go_sem]⟩
  clear g0 op id' ia h1 ho hga hra fa hd0
  intro m s hs'
  rw [hI] at hs'
  obtain ⟨k, d, day, hk, hm, hg, t3, t4, t6, t7, h1⟩ := hs'
  have lt1 := (List.getElem?_eq_some_iff.1 h1).1
  have id' := imm_desk d
  have wp := work_pf p src k (by omega) d day hg
  rw [cDn] at wp id'
  simp -dsimp -implicitDefEqProofs [-getElem?_pos, go_sem, hP, t7]
  refine condP (fun hh => ?_) (fun hh => ?_)
  rotate_left
  · simp -dsimp -implicitDefEqProofs [-getElem?_pos, go_sem, hP]
    refine saneB ?_
    simp -dsimp -implicitDefEqProofs [-getElem?_pos, go_sem, hP]
  have hk : k < 16 := by
    simp at hh
    omega
  have wk := wrap_in ((k : Int) + 1) (by omega)
  simp -dsimp -implicitDefEqProofs [-getElem?_pos, go_sem, hP, t3, t4, h1, lt1, t6]
  refine callB_isQ (up wp) hP en_12 (by simp [imm_sc]; exact id') (StepR_ex hg) ?_
  rintro r ⟨x, next, rfl, hst⟩ _
  have gx := hst.gen
  have ox := gx.ok
  have ck := dcheck_pf x ox.fit
  rw [checkD_iff.2 ox] at ck
  have ix := imm_desk x
  rw [cDn] at ck ix
  obtain ⟨n, hn⟩ : ∃ n, n = s.H.length := ⟨_, rfl⟩
  obtain ⟨l, hl'⟩ : ∃ l, l = x.Items := ⟨_, rfl⟩
  obtain ⟨es, hes⟩ : ∃ es, es = x.Account.Entries := ⟨_, rfl⟩
  have li : l.length ≤ 100000 := by rw [hl']; exact ox.fit.i
  have le : es.length ≤ 400 := by rw [hes]; exact (check_ok ox.a).2.1
  obtain ⟨H1, hH1⟩ : ∃ H1, H1 = s.H ++ [some (deskO x)] := ⟨_, rfl⟩
  have e1 : H1[1]? = some (some (deskO d)) := by rw [hH1, List.getElem?_append_left lt1, h1]
  have en : H1[n]? = some (some (deskO x)) := by rw [hH1, hn, List.getElem?_append_right (Nat.le_refl _), Nat.sub_self]; rfl
  have ltn := (List.getElem?_eq_some_iff.1 en).1
  have lt1' := (List.getElem?_eq_some_iff.1 e1).1
  have n1 : 1 < n := by rw [hn]; exact lt1
  simp -dsimp -implicitDefEqProofs [-getElem?_pos, go_sem, hP, cDn]
  rw [← hn, ← hH1]
  refine callB_is (ck.lift _ _) hP en_13 (by simpa using ix) .sc ?_
  simp -dsimp -implicitDefEqProofs [-getElem?_pos, go_sem, hP, en, ltn, ← hl']
  obtain ⟨J, hJ⟩ : ∃ I : Nat → St → Prop, I = fun m s => ∃ j : Nat, j ≤ l.length ∧ m = l.length - j ∧ s.t 3 = sp p ∧ s.t 4 = .ref 1 0 0 ∧ s.t 7 = iv k ∧ s.t 8 = .ref n 0 0 ∧ s.t 9 = iv next ∧ s.t 41 = itemsL l ∧ s.t 42 = iv l.length ∧ s.t 43 = iv j ∧ s.H[1]? = some (some (deskO d)) ∧ s.H[n]? = some (some (deskO x)) := ⟨_, rfl⟩
  refine aloop0 J (l.length) (by rw [hN]; rfl) ?_ ?_
  · rw [hJ]
    exact ⟨0, by omega, by omega, by simp -dsimp -implicitDefEqProofs [-getElem?_pos, go_sem, t3], by simp -dsimp -implicitDefEqProofs [-getElem?_pos, go_sem, t4], by simp -dsimp -implicitDefEqProofs [-getElem?_pos, go_sem, t7], by simp -dsimp -implicitDefEqProofs [-getElem?_pos, go_sem], by simp -dsimp -implicitDefEqProofs [-getElem?_pos, go_sem], by simp -dsimp -implicitDefEqProofs [-getElem?_pos, go_sem], by simp -dsimp -implicitDefEqProofs [-getElem?_pos, go_sem], by simp -dsimp -implicitDefEqProofs [-getElem?_pos, go_sem], by simp -dsimp -implicitDefEqProofs [-getElem?_pos, go_sem, e1], by simp -dsimp -implicitDefEqProofs [-getElem?_pos, go_sem, en]⟩
  clear t3 t4 t6 t7 h1 lt1 e1 en ltn lt1'
  intro m s hs'
  rw [hJ] at hs'
  obtain ⟨j, hj, hmj, t3, t4, t7, t8, t9, t41, t42, t43, h1, hxn⟩ := hs'
  subst hmj
  have lt1 := (List.getElem?_eq_some_iff.1 h1).1
  have ltn := (List.getElem?_eq_some_iff.1 hxn).1
  simp -dsimp -implicitDefEqProofs [-getElem?_pos, go_sem, hP, t42, t43]
  refine condP (fun hh => ?_) (fun hh => ?_)
  rotate_left
  · simp -dsimp -implicitDefEqProofs [-getElem?_pos, go_sem, hP, t8, hxn, ltn, t9, t4, h1, lt1, t7, wk]
    refine ⟨16 - (k + 1), by omega, ?_⟩
    rw [hI]
    exact ⟨k + 1, x, next, by omega, rfl, gx, by simp -dsimp -implicitDefEqProofs [-getElem?_pos, go_sem, t3], by simp -dsimp -implicitDefEqProofs [-getElem?_pos, go_sem, t4], by simp -dsimp -implicitDefEqProofs [-getElem?_pos, go_sem], by simp -dsimp -implicitDefEqProofs [-getElem?_pos, go_sem], by simp -dsimp -implicitDefEqProofs [-getElem?_pos, go_sem, lt1]⟩
  have hj : j < l.length := by simpa using hh
  obtain ⟨y, hy⟩ : ∃ y, l[j]? = some y := ⟨_, List.getElem?_eq_getElem hj⟩
  have wj := wrap_in ((j : Int) + 1) (by omega)
  have hyx : y ∈ x.Items := by rw [← hl']; exact List.mem_of_getElem? hy
  have io := ox.io hyx
  have hpa := (gx.pays y hyx).2
  have hpa1 := io.pay.amount.1
  obtain ⟨b, hb⟩ : ∃ b, b = s.H.length := ⟨_, rfl⟩
  obtain ⟨H2, hH2⟩ : ∃ H2, H2 = s.H ++ [some (itemO y), some (⟨44, 5, [[iv y.Payment.Warrant, iv y.Payment.Payee, iv y.Payment.Amount, iv y.Payment.Due, iv y.Payment.Sub]]⟩ : AObj)] := ⟨_, rfl⟩
  have l2 : H2.length = b + 2 := by rw [hH2, hb]; simp
  have u1 : H2[1]? = some (some (deskO d)) := by rw [hH2, List.getElem?_append_left lt1, h1]
  have un : H2[n]? = some (some (deskO x)) := by rw [hH2, List.getElem?_append_left ltn, hxn]
  have ub : H2[b]? = some (some (itemO y)) := by rw [hH2, hb, List.getElem?_append_right (Nat.le_refl _), Nat.sub_self]; rfl
  have up' : H2[b + 1]? = some (some ⟨44, 5, [[iv y.Payment.Warrant, iv y.Payment.Payee, iv y.Payment.Amount, iv y.Payment.Due, iv y.Payment.Sub]]⟩) := by rw [hH2, hb, List.getElem?_append_right (by omega), Nat.add_sub_cancel_left]; rfl
  have ltn2 : n < H2.length := by omega
  have nx : ∀ z : Heap, (s.H ++ z)[n]? = s.H[n]? := fun z => List.getElem?_append_left ltn
  simp -dsimp -implicitDefEqProofs [-getElem?_pos, go_sem, hP, t41, t43, hy, cIt, t8, nx, ltn, hxn, ← hes]
  rw [← hb, ← hH2]
  obtain ⟨A, hA⟩ : ∃ A, A = y.Payment.Amount := ⟨_, rfl⟩
  rw [← hA] at hpa hpa1
  have mul_in : ∀ c : Nat, c ≤ 400 → 0 ≤ (c : Int) * A ∧ (c : Int) * A ≤ 40000 := fun c hc => by
    have h1 : (c : Int) * A ≤ 400 * 100 := Int.mul_le_mul (by omega) hpa (by omega) (by omega)
    exact ⟨Int.mul_nonneg (by omega) (by omega), by omega⟩
  obtain ⟨L, hL⟩ : ∃ I : Nat → St → Prop, I = fun m s => ∃ (q co ci : Nat), q ≤ es.length ∧ m = es.length - q ∧ co ≤ q ∧ ci ≤ q ∧ co = (es.take q).countP (outE y.Payment) ∧ ci = (es.take q).countP (inE y.Payment) ∧ s.t 3 = sp p ∧ s.t 4 = .ref 1 0 0 ∧ s.t 7 = iv k ∧ s.t 8 = .ref n 0 0 ∧ s.t 9 = iv next ∧ s.t 11 = .ref b 0 0 ∧ s.t 12 = .ref (b + 1) 0 0 ∧ s.t 13 = iv ((co : Int) * A) ∧ s.t 14 = iv ((ci : Int) * A) ∧ s.t 41 = itemsL l ∧ s.t 42 = iv l.length ∧ s.t 43 = iv j ∧ s.t 51 = entsL es ∧ s.t 52 = iv es.length ∧ s.t 53 = iv q ∧ s.H[1]? = some (some (deskO d)) ∧ s.H[n]? = some (some (deskO x)) ∧ s.H[b]? = some (some (itemO y)) ∧ s.H[b + 1]? = some (some ⟨44, 5, [[iv y.Payment.Warrant, iv y.Payment.Payee, iv y.Payment.Amount, iv y.Payment.Due, iv y.Payment.Sub]]⟩) := ⟨_, rfl⟩
  refine aloop0 L (es.length) (by rw [hN]; rfl) ?_ ?_
  · rw [hL]
    exact ⟨0, 0, 0, by omega, by omega, by omega, by omega, by simp, by simp, by simp -dsimp -implicitDefEqProofs [-getElem?_pos, go_sem, t3], by simp -dsimp -implicitDefEqProofs [-getElem?_pos, go_sem, t4], by simp -dsimp -implicitDefEqProofs [-getElem?_pos, go_sem, t7], by simp -dsimp -implicitDefEqProofs [-getElem?_pos, go_sem, t8], by simp -dsimp -implicitDefEqProofs [-getElem?_pos, go_sem, t9], by simp -dsimp -implicitDefEqProofs [-getElem?_pos, go_sem, hb], by simp -dsimp -implicitDefEqProofs [-getElem?_pos, go_sem, hb], by simp -dsimp -implicitDefEqProofs [-getElem?_pos, go_sem], by simp -dsimp -implicitDefEqProofs [-getElem?_pos, go_sem], by simp -dsimp -implicitDefEqProofs [-getElem?_pos, go_sem, t41], by simp -dsimp -implicitDefEqProofs [-getElem?_pos, go_sem, t42], by simp -dsimp -implicitDefEqProofs [-getElem?_pos, go_sem, t43], by simp -dsimp -implicitDefEqProofs [-getElem?_pos, go_sem], by simp -dsimp -implicitDefEqProofs [-getElem?_pos, go_sem], by simp -dsimp -implicitDefEqProofs [-getElem?_pos, go_sem], by simp -dsimp -implicitDefEqProofs [-getElem?_pos, go_sem, u1], by simp -dsimp -implicitDefEqProofs [-getElem?_pos, go_sem, un], by simp -dsimp -implicitDefEqProofs [-getElem?_pos, go_sem, ub], by simp -dsimp -implicitDefEqProofs [-getElem?_pos, go_sem, up']⟩
  clear t3 t4 t7 t8 t9 t41 t42 t43 h1 hxn lt1 ltn u1 un ub up' nx
  intro m s hs'
  rw [hL] at hs'
  obtain ⟨q, co, ci, hq, hmq, lo, lc, hco, hci, t3, t4, t7, t8, t9, t11, t12, t13, t14, t41, t42, t43, t51, t52, t53, h1, hxn, hyb, hyp⟩ := hs'
  have lt1 := (List.getElem?_eq_some_iff.1 h1).1
  have ltn := (List.getElem?_eq_some_iff.1 hxn).1
  have ltb := (List.getElem?_eq_some_iff.1 hyb).1
  have ltp := (List.getElem?_eq_some_iff.1 hyp).1
  simp -dsimp -implicitDefEqProofs [-getElem?_pos, go_sem, hP, t52, t53]
  refine condP (fun hh => ?_) (fun hh => ?_)
  · have hq : q < es.length := by simpa using hh
    obtain ⟨e, hee⟩ : ∃ e, es[q]? = some e := ⟨_, List.getElem?_eq_getElem hq⟩
    have wq := wrap_in ((q : Int) + 1) (by omega)
    obtain ⟨eo, ei, ea⟩ := entry_out io (e := e) (by rw [← hes]; exact List.mem_of_getElem? hee)
    have so : (es.take (q + 1)).countP (outE y.Payment) = co + if outE y.Payment e = true then 1 else 0 := by rw [take_at hee, List.countP_append, List.countP_cons, List.countP_nil, Nat.zero_add, hco]
    have si : (es.take (q + 1)).countP (inE y.Payment) = ci + if inE y.Payment e = true then 1 else 0 := by rw [take_at hee, List.countP_append, List.countP_cons, List.countP_nil, Nat.zero_add, hci]
    have mo := mul_in co (by omega)
    have mi := mul_in ci (by omega)
    have wo := wrap_in ((co : Int) * A + A) (by omega)
    have wi := wrap_in ((ci : Int) * A + A) (by omega)
    have po : ((co : Int) + 1) * A = (co : Int) * A + A := by rw [Int.add_mul, Int.one_mul]
    have pi' : ((ci : Int) + 1) * A = (ci : Int) * A + A := by rw [Int.add_mul, Int.one_mul]
    have nx : ∀ (i : Nat) (z : Heap), i < s.H.length → (s.H ++ z)[i]? = s.H[i]? := fun i z h => List.getElem?_append_left h
    have fin : ∀ (s' : St) (co' ci' : Nat), co' ≤ q + 1 → ci' ≤ q + 1 → co' = (es.take (q + 1)).countP (outE y.Payment) → ci' = (es.take (q + 1)).countP (inE y.Payment) → s'.t 3 = sp p → s'.t 4 = .ref 1 0 0 → s'.t 7 = iv k → s'.t 8 = .ref n 0 0 → s'.t 9 = iv next → s'.t 11 = .ref b 0 0 → s'.t 12 = .ref (b + 1) 0 0 → s'.t 13 = iv ((co' : Int) * A) → s'.t 14 = iv ((ci' : Int) * A) → s'.t 41 = itemsL l → s'.t 42 = iv l.length → s'.t 43 = iv j → s'.t 51 = entsL es → s'.t 52 = iv es.length → s'.t 53 = iv (q + 1) → (∃ z, s'.H = s.H ++ z) → ∃ m', m' < m ∧ L m' s' := fun s' co' ci' b1 b2 b3 b4 a1 a2 a3 a4 a5 a6 a7 a8 a9 a10 a11 a12 a13 a14 a15 ⟨z, hz⟩ => by
      refine ⟨es.length - (q + 1), by omega, ?_⟩
      rw [hL]
      exact ⟨q + 1, co', ci', by omega, rfl, b1, b2, b3, b4, a1, a2, a3, a4, a5, a6, a7, a8, a9, a10, a11, a12, a13, a14, a15, by rw [hz, nx _ _ lt1]; exact h1, by rw [hz, nx _ _ ltn]; exact hxn, by rw [hz, nx _ _ ltb]; exact hyb, by rw [hz, nx _ _ ltp]; exact hyp⟩
    have hH3 : ∀ z, (s.H ++ z)[b + 1]? = some (some ⟨44, 5, [[iv y.Payment.Warrant, iv y.Payment.Payee, iv y.Payment.Amount, iv y.Payment.Due, iv y.Payment.Sub]]⟩) := fun z => by rw [nx _ _ ltp]; exact hyp
    by_cases c1 : e.Ref = y.Payment.Warrant
    rotate_left
    · have d1 := decide_eq_false c1
      rw [d1, Bool.false_and] at eo ei
      rw [← eo, if_neg (by simp)] at so
      rw [← ei, if_neg (by simp)] at si
      simp -dsimp -implicitDefEqProofs [-getElem?_pos, go_sem, hP, t51, t53, hee, cE, t12, hH3, ltp, hyp, c1, d1, wq]
      exact fin _ co ci (by omega) (by omega) (by omega) (by omega) (by simp -dsimp -implicitDefEqProofs [-getElem?_pos, go_sem, t3]) (by simp -dsimp -implicitDefEqProofs [-getElem?_pos, go_sem, t4]) (by simp -dsimp -implicitDefEqProofs [-getElem?_pos, go_sem, t7]) (by simp -dsimp -implicitDefEqProofs [-getElem?_pos, go_sem, t8]) (by simp -dsimp -implicitDefEqProofs [-getElem?_pos, go_sem, t9]) (by simp -dsimp -implicitDefEqProofs [-getElem?_pos, go_sem, t11]) (by simp -dsimp -implicitDefEqProofs [-getElem?_pos, go_sem, t12]) (by simp -dsimp -implicitDefEqProofs [-getElem?_pos, go_sem, t13]) (by simp -dsimp -implicitDefEqProofs [-getElem?_pos, go_sem, t14]) (by simp -dsimp -implicitDefEqProofs [-getElem?_pos, go_sem, t41]) (by simp -dsimp -implicitDefEqProofs [-getElem?_pos, go_sem, t42]) (by simp -dsimp -implicitDefEqProofs [-getElem?_pos, go_sem, t43]) (by simp -dsimp -implicitDefEqProofs [-getElem?_pos, go_sem, t51]) (by simp -dsimp -implicitDefEqProofs [-getElem?_pos, go_sem, t52]) (by simp -dsimp -implicitDefEqProofs [-getElem?_pos, go_sem]) ⟨_, rfl⟩
    have d1 := decide_eq_true c1
    rw [d1, Bool.true_and] at eo ei
    have eA : e.Amount = A := by rw [hA]; exact ea c1
    by_cases c2 : e.To = 0
    · have d2 := decide_eq_true c2
      rw [d2] at eo
      rw [← eo, if_pos rfl] at so
      by_cases c3 : e.From = 0
      · have d3 := decide_eq_true c3
        rw [d3] at ei
        rw [← ei, if_pos rfl] at si
        simp -dsimp -implicitDefEqProofs [-getElem?_pos, go_sem, hP, t51, t53, hee, cE, t12, hH3, ltp, hyp, c1, c2, c3, wq, t13, t14, eA, wo, wi]
        exact fin _ (co + 1) (ci + 1) (by omega) (by omega) (by omega) (by omega) (by simp -dsimp -implicitDefEqProofs [-getElem?_pos, go_sem, t3]) (by simp -dsimp -implicitDefEqProofs [-getElem?_pos, go_sem, t4]) (by simp -dsimp -implicitDefEqProofs [-getElem?_pos, go_sem, t7]) (by simp -dsimp -implicitDefEqProofs [-getElem?_pos, go_sem, t8]) (by simp -dsimp -implicitDefEqProofs [-getElem?_pos, go_sem, t9]) (by simp -dsimp -implicitDefEqProofs [-getElem?_pos, go_sem, t11]) (by simp -dsimp -implicitDefEqProofs [-getElem?_pos, go_sem, t12]) (by simp -dsimp -implicitDefEqProofs [-getElem?_pos, go_sem, po]) (by simp -dsimp -implicitDefEqProofs [-getElem?_pos, go_sem, pi']) (by simp -dsimp -implicitDefEqProofs [-getElem?_pos, go_sem, t41]) (by simp -dsimp -implicitDefEqProofs [-getElem?_pos, go_sem, t42]) (by simp -dsimp -implicitDefEqProofs [-getElem?_pos, go_sem, t43]) (by simp -dsimp -implicitDefEqProofs [-getElem?_pos, go_sem, t51]) (by simp -dsimp -implicitDefEqProofs [-getElem?_pos, go_sem, t52]) (by simp -dsimp -implicitDefEqProofs [-getElem?_pos, go_sem]) ⟨_, rfl⟩
      · have d3 := decide_eq_false c3
        rw [d3] at ei
        rw [← ei, if_neg (by simp)] at si
        simp -dsimp -implicitDefEqProofs [-getElem?_pos, go_sem, hP, t51, t53, hee, cE, t12, hH3, ltp, hyp, c1, c2, c3, d3, wq, t13, t14, eA, wo, wi]
        exact fin _ (co + 1) ci (by omega) (by omega) (by omega) (by omega) (by simp -dsimp -implicitDefEqProofs [-getElem?_pos, go_sem, t3]) (by simp -dsimp -implicitDefEqProofs [-getElem?_pos, go_sem, t4]) (by simp -dsimp -implicitDefEqProofs [-getElem?_pos, go_sem, t7]) (by simp -dsimp -implicitDefEqProofs [-getElem?_pos, go_sem, t8]) (by simp -dsimp -implicitDefEqProofs [-getElem?_pos, go_sem, t9]) (by simp -dsimp -implicitDefEqProofs [-getElem?_pos, go_sem, t11]) (by simp -dsimp -implicitDefEqProofs [-getElem?_pos, go_sem, t12]) (by simp -dsimp -implicitDefEqProofs [-getElem?_pos, go_sem, po]) (by simp -dsimp -implicitDefEqProofs [-getElem?_pos, go_sem, t14]) (by simp -dsimp -implicitDefEqProofs [-getElem?_pos, go_sem, t41]) (by simp -dsimp -implicitDefEqProofs [-getElem?_pos, go_sem, t42]) (by simp -dsimp -implicitDefEqProofs [-getElem?_pos, go_sem, t43]) (by simp -dsimp -implicitDefEqProofs [-getElem?_pos, go_sem, t51]) (by simp -dsimp -implicitDefEqProofs [-getElem?_pos, go_sem, t52]) (by simp -dsimp -implicitDefEqProofs [-getElem?_pos, go_sem]) ⟨_, rfl⟩
    · have d2 := decide_eq_false c2
      rw [d2] at eo
      rw [← eo, if_neg (by simp)] at so
      by_cases c3 : e.From = 0
      · have d3 := decide_eq_true c3
        rw [d3] at ei
        rw [← ei, if_pos rfl] at si
        simp -dsimp -implicitDefEqProofs [-getElem?_pos, go_sem, hP, t51, t53, hee, cE, t12, hH3, ltp, hyp, c1, c2, d2, c3, wq, t13, t14, eA, wo, wi]
        exact fin _ co (ci + 1) (by omega) (by omega) (by omega) (by omega) (by simp -dsimp -implicitDefEqProofs [-getElem?_pos, go_sem, t3]) (by simp -dsimp -implicitDefEqProofs [-getElem?_pos, go_sem, t4]) (by simp -dsimp -implicitDefEqProofs [-getElem?_pos, go_sem, t7]) (by simp -dsimp -implicitDefEqProofs [-getElem?_pos, go_sem, t8]) (by simp -dsimp -implicitDefEqProofs [-getElem?_pos, go_sem, t9]) (by simp -dsimp -implicitDefEqProofs [-getElem?_pos, go_sem, t11]) (by simp -dsimp -implicitDefEqProofs [-getElem?_pos, go_sem, t12]) (by simp -dsimp -implicitDefEqProofs [-getElem?_pos, go_sem, t13]) (by simp -dsimp -implicitDefEqProofs [-getElem?_pos, go_sem, pi']) (by simp -dsimp -implicitDefEqProofs [-getElem?_pos, go_sem, t41]) (by simp -dsimp -implicitDefEqProofs [-getElem?_pos, go_sem, t42]) (by simp -dsimp -implicitDefEqProofs [-getElem?_pos, go_sem, t43]) (by simp -dsimp -implicitDefEqProofs [-getElem?_pos, go_sem, t51]) (by simp -dsimp -implicitDefEqProofs [-getElem?_pos, go_sem, t52]) (by simp -dsimp -implicitDefEqProofs [-getElem?_pos, go_sem]) ⟨_, rfl⟩
      · have d3 := decide_eq_false c3
        rw [d3] at ei
        rw [← ei, if_neg (by simp)] at si
        simp -dsimp -implicitDefEqProofs [-getElem?_pos, go_sem, hP, t51, t53, hee, cE, t12, hH3, ltp, hyp, c1, c2, d2, c3, d3, wq, t13, t14, eA, wo, wi]
        exact fin _ co ci (by omega) (by omega) (by omega) (by omega) (by simp -dsimp -implicitDefEqProofs [-getElem?_pos, go_sem, t3]) (by simp -dsimp -implicitDefEqProofs [-getElem?_pos, go_sem, t4]) (by simp -dsimp -implicitDefEqProofs [-getElem?_pos, go_sem, t7]) (by simp -dsimp -implicitDefEqProofs [-getElem?_pos, go_sem, t8]) (by simp -dsimp -implicitDefEqProofs [-getElem?_pos, go_sem, t9]) (by simp -dsimp -implicitDefEqProofs [-getElem?_pos, go_sem, t11]) (by simp -dsimp -implicitDefEqProofs [-getElem?_pos, go_sem, t12]) (by simp -dsimp -implicitDefEqProofs [-getElem?_pos, go_sem, t13]) (by simp -dsimp -implicitDefEqProofs [-getElem?_pos, go_sem, t14]) (by simp -dsimp -implicitDefEqProofs [-getElem?_pos, go_sem, t41]) (by simp -dsimp -implicitDefEqProofs [-getElem?_pos, go_sem, t42]) (by simp -dsimp -implicitDefEqProofs [-getElem?_pos, go_sem, t43]) (by simp -dsimp -implicitDefEqProofs [-getElem?_pos, go_sem, t51]) (by simp -dsimp -implicitDefEqProofs [-getElem?_pos, go_sem, t52]) (by simp -dsimp -implicitDefEqProofs [-getElem?_pos, go_sem]) ⟨_, rfl⟩
  have hq : q = es.length := by simp at hh; omega
  subst hq
  rw [List.take_length] at hco hci
  have iou := io.outs
  have ioi := io.ins
  rw [← hes, ← hco] at iou
  rw [← hes, ← hci] at ioi
  have hv3 : stateD d y.Payment.Warrant = 3 → y.State = 3 := fun hv => by
    have hdc := checkD_iff.2 hg.ok
    by_cases hw : y.Payment.Warrant ∈ d.Items.map wrt
    · obtain ⟨z, hz, e⟩ := List.mem_map.1 hw
      have e : z.Payment.Warrant = y.Payment.Warrant := e
      obtain ⟨i, hi⟩ := List.getElem?_of_mem hz
      have := stateD_at hdc hi
      rw [e, hv] at this
      exact hst.stay z y hz hyx e this.symm
    · rw [stateD_none hdc hw] at hv
      cases hv
  have rs := rstate_pf d y.Payment.Warrant hg.ok.fit
  rw [cDn] at rs
  obtain ⟨v, hvd⟩ : ∃ v, v = stateD d y.Payment.Warrant := ⟨_, rfl⟩
  rw [← hvd] at rs hv3
  have mo := mul_in co (by omega)
  have mi := mul_in ci (by omega)
  have nxt : ∀ (s' : St), s'.t 3 = sp p → s'.t 4 = .ref 1 0 0 → s'.t 7 = iv k → s'.t 8 = .ref n 0 0 → s'.t 9 = iv next → s'.t 41 = itemsL l → s'.t 42 = iv l.length → s'.t 43 = iv (j + 1) → s'.H = s.H → ∃ n', n' < l.length - j ∧ J n' s' := fun s' a1 a2 a3 a4 a5 a6 a7 a8 a9 => by
    refine ⟨l.length - (j + 1), by omega, ?_⟩
    rw [hJ]
    exact ⟨j + 1, by omega, rfl, a1, a2, a3, a4, a5, a6, a7, a8, by rw [a9]; exact h1, by rw [a9]; exact hxn⟩
  have sub : (co : Int) * A - (ci : Int) * A = (goneN y : Int) * A := by
    rw [← Int.sub_mul]
    congr 1
    omega
  have An0 : ¬ A = 0 := by omega
  rcases (show y.State = 2 ∨ y.State = 3 ∨ (¬ y.State = 2 ∧ ¬ y.State = 3) by omega) with s2 | s3 | ⟨s2, s3⟩
  · rw [show goneN y = 1 by simp [goneN, goneB, s2]] at sub
    have sub : (co : Int) * A - (ci : Int) * A = A := by rw [sub]; simp
    have ws := wrap_in A (by omega)
    have v3 : decide (v = 3) = false := decide_eq_false fun e => by have := hv3 e; omega
    simp -dsimp -implicitDefEqProofs [-getElem?_pos, go_sem, hP, t11, hyb, ltb, s2, t13, t14, sub, ws, An0, t12, hyp, ltp, hA.symm, t4, h1, lt1]
    refine callB_is (rs.lift _ _) hP en_14 (by simpa [imm_sc] using id') .sc ?_
    simp -dsimp -implicitDefEqProofs [-getElem?_pos, go_sem, hP, v3, t11, hyb, ltb, t43, wj]
    exact nxt _ (by simp -dsimp -implicitDefEqProofs [-getElem?_pos, go_sem, t3]) (by simp -dsimp -implicitDefEqProofs [-getElem?_pos, go_sem, t4]) (by simp -dsimp -implicitDefEqProofs [-getElem?_pos, go_sem, t7]) (by simp -dsimp -implicitDefEqProofs [-getElem?_pos, go_sem, t8]) (by simp -dsimp -implicitDefEqProofs [-getElem?_pos, go_sem, t9]) (by simp -dsimp -implicitDefEqProofs [-getElem?_pos, go_sem, t41]) (by simp -dsimp -implicitDefEqProofs [-getElem?_pos, go_sem, t42]) (by simp -dsimp -implicitDefEqProofs [-getElem?_pos, go_sem]) rfl
  · rw [show goneN y = 1 by simp [goneN, goneB, s3]] at sub
    have sub : (co : Int) * A - (ci : Int) * A = A := by rw [sub]; simp
    have ws := wrap_in A (by omega)
    simp -dsimp -implicitDefEqProofs [-getElem?_pos, go_sem, hP, t11, hyb, ltb, s3, t13, t14, sub, ws, An0, t12, hyp, ltp, hA.symm, t4, h1, lt1]
    refine callB_is (rs.lift _ _) hP en_14 (by simpa [imm_sc] using id') .sc ?_
    by_cases hv : v = 3
    · simp -dsimp -implicitDefEqProofs [-getElem?_pos, go_sem, hP, hv, s3, t11, hyb, ltb, t43, wj]
      exact nxt _ (by simp -dsimp -implicitDefEqProofs [-getElem?_pos, go_sem, t3]) (by simp -dsimp -implicitDefEqProofs [-getElem?_pos, go_sem, t4]) (by simp -dsimp -implicitDefEqProofs [-getElem?_pos, go_sem, t7]) (by simp -dsimp -implicitDefEqProofs [-getElem?_pos, go_sem, t8]) (by simp -dsimp -implicitDefEqProofs [-getElem?_pos, go_sem, t9]) (by simp -dsimp -implicitDefEqProofs [-getElem?_pos, go_sem, t41]) (by simp -dsimp -implicitDefEqProofs [-getElem?_pos, go_sem, t42]) (by simp -dsimp -implicitDefEqProofs [-getElem?_pos, go_sem]) rfl
    · have v3 := decide_eq_false hv
      simp -dsimp -implicitDefEqProofs [-getElem?_pos, go_sem, hP, v3, t11, hyb, ltb, t43, wj]
      exact nxt _ (by simp -dsimp -implicitDefEqProofs [-getElem?_pos, go_sem, t3]) (by simp -dsimp -implicitDefEqProofs [-getElem?_pos, go_sem, t4]) (by simp -dsimp -implicitDefEqProofs [-getElem?_pos, go_sem, t7]) (by simp -dsimp -implicitDefEqProofs [-getElem?_pos, go_sem, t8]) (by simp -dsimp -implicitDefEqProofs [-getElem?_pos, go_sem, t9]) (by simp -dsimp -implicitDefEqProofs [-getElem?_pos, go_sem, t41]) (by simp -dsimp -implicitDefEqProofs [-getElem?_pos, go_sem, t42]) (by simp -dsimp -implicitDefEqProofs [-getElem?_pos, go_sem]) rfl
  · rw [show goneN y = 0 by simp [goneN, goneB, s2, s3]] at sub
    have sub : (co : Int) * A - (ci : Int) * A = 0 := by rw [sub]; simp
    have ws := wrap_in 0 (by omega)
    have d2 := decide_eq_false s2
    have d3 := decide_eq_false s3
    have v3 : decide (v = 3) = false := decide_eq_false fun e => by have := hv3 e; omega
    simp -dsimp -implicitDefEqProofs [-getElem?_pos, go_sem, hP, t11, hyb, ltb, s2, s3, d2, d3, t13, t14, sub, ws, t12, hyp, ltp, hA.symm, t4, h1, lt1]
    refine callB_is (rs.lift _ _) hP en_14 (by simpa [imm_sc] using id') .sc ?_
    simp -dsimp -implicitDefEqProofs [-getElem?_pos, go_sem, hP, v3, t11, hyb, ltb, t43, wj]
    exact nxt _ (by simp -dsimp -implicitDefEqProofs [-getElem?_pos, go_sem, t3]) (by simp -dsimp -implicitDefEqProofs [-getElem?_pos, go_sem, t4]) (by simp -dsimp -implicitDefEqProofs [-getElem?_pos, go_sem, t7]) (by simp -dsimp -implicitDefEqProofs [-getElem?_pos, go_sem, t8]) (by simp -dsimp -implicitDefEqProofs [-getElem?_pos, go_sem, t9]) (by simp -dsimp -implicitDefEqProofs [-getElem?_pos, go_sem, t41]) (by simp -dsimp -implicitDefEqProofs [-getElem?_pos, go_sem, t42]) (by simp -dsimp -implicitDefEqProofs [-getElem?_pos, go_sem]) rfl
end Go.Proofs.YtmpncdlhmknkoaaGreat
