/- AccountNumbers: the walk. -/
import Derived.Test.YtcfkdimndhapfaaLaw23a
set_option linter.unusedSimpArgs false
set_option linter.unusedVariables false
namespace Go.Proofs.Ytcfkdimndhapfaa
open Go.PA
open Go.RowKit

theorem gen_okSub {n : Nat} {a : TAccount} (h : GenAcc n a) : ∀ s, s ∈ a.Subs → okSub a.Credit s = true := List.all_eq_true.1 (check_keeps h.ok).1
theorem num_next {n : Nat} {a : TAccount} (h : GenAcc n a) (d f t y r : Int) : nextE a d f t y r = ⟨(a.Entries.length : Int) + 1, d, f, t, y, r⟩ := by
  have h1 := (check_keeps h.ok).2.1
  have h2 := (check_ok h.ok).2.1
  rw [nextE, h1, wrap_in _ (by omega)]
theorem num_post {a : TAccount} (h : GenAcc 10 a) {y : Int} (hy : 1 ≤ y ∧ y ≤ 99) : (postA a ⟨(a.Entries.length : Int) + 1, 30, 0, 2, y, 0⟩).2 = 0 := by
  obtain ⟨k1, k2, k3, k4, k5⟩ := check_ok h.ok
  obtain ⟨q1, q2, q3, q4⟩ := check_keeps h.ok
  have hl := h.len
  have hd := h.day
  have n0 : (0 : Int) ∉ ids a.Subs := by rw [h.ids]; decide
  have m2 : (2 : Int) ∈ ids a.Subs := by rw [h.ids]; decide
  have b1 : badNum (lastE a).Number ⟨(a.Entries.length : Int) + 1, 30, 0, 2, y, 0⟩ = false := by simp [badNum, q2]
  have b2 : badDay (lastE a).Day ⟨(a.Entries.length : Int) + 1, 30, 0, 2, y, 0⟩ = false := by simp [badDay, amongB]; omega
  have b3 : badAmt ⟨(a.Entries.length : Int) + 1, 30, 0, 2, y, 0⟩ = false := by simp [badAmt, vB, amongB]; omega
  have b4 : badSub a.Subs ⟨(a.Entries.length : Int) + 1, 30, 0, 2, y, 0⟩ = false := by
    have h1 : knownB a.Subs 0 = true := (knownB_iff _ _).2 (.inl rfl)
    have h2 : knownB a.Subs 2 = true := (knownB_iff _ _).2 (.inr m2)
    simp [badSub, h1, h2]
  have e1 : adj a.Subs 0 (-y) = a.Subs := adj_none n0
  have o1 : okAt a.Credit a.Subs 0 = true := okAt_none n0
  have o2 : okAt a.Credit (adj a.Subs 2 y) 2 = true := by
    refine List.all_eq_true.2 fun s hs => ?_
    obtain ⟨t, ht, rfl⟩ := List.mem_map.1 hs
    have ho := gen_okSub h t ht
    have hb := h.bal t ht
    by_cases e : t.ID = 2
    · simp only [okSub, e, if_true, Bool.and_eq_true, decide_eq_true_eq] at ho ⊢
      simp at ho ⊢
      omega
    · simp [e]
  have : postS a.Credit (lastE a).Number (lastE a).Day a.Subs ⟨(a.Entries.length : Int) + 1, 30, 0, 2, y, 0⟩ = (0, adj a.Subs 2 y) := by
    unfold postS
    simp only [b1, b2, b3, b4, e1, o1, o2, Bool.false_eq_true, if_false, Bool.true_eq_false]
  rw [postA, if_pos h.ok, if_neg (by omega), this]
  rfl
theorem num_twice {a : TAccount} {e : TEntry} (h : checkA a = 0) (hl : a.Entries.length < 400) (he : ¬ e.Number = (lastE a).Number + 1) : postA a e = (zeroA, 65) := by
  have : postS a.Credit (lastE a).Number (lastE a).Day a.Subs e = (65, a.Subs) := by rw [postS, if_pos (by simp [badNum, he])]
  rw [postA, if_pos h, if_neg (by omega), this]
  rfl
theorem num_early {a : TAccount} {e : TEntry} (h : checkA a = 0) (hl : a.Entries.length < 400) (hn : e.Number = (lastE a).Number + 1) (he : e.Day < (lastE a).Day) : postA a e = (zeroA, 8) := by
  have : postS a.Credit (lastE a).Number (lastE a).Day a.Subs e = (8, a.Subs) := by rw [postS, if_neg (by simp [badNum, hn]), if_pos (by simp [badDay, amongB]; omega)]
  rw [postA, if_pos h, if_neg (by omega), this]
  rfl
theorem gen_ex (n : Nat) : ∃ r, (∃ a : TAccount, r = AV.agg a.cells ∧ GenAcc n a) ∧ Imm r := ⟨_, ⟨newA [1, 2, 3, 7] 0, rfl, (GenAcc.open (by omega)).1.mono (by omega)⟩, imm_acc _⟩

set_option maxHeartbeats 1000000 in
theorem numbers_law_pf (xs : List Int) (hx : Small xs) (hl : xs.length ≤ 9223372036854775807) :
    PFun Try.prog none none 4 [intsL xs] (· = bv true) := by
  refine pfun_introA Try.func4 rfl (by simp [Try.f4]) ?_
  intro E hP hr hs hW hN
  refine awp_cut (by rw [hN]; kernel_rfl) ?_
  simp [go_sem, hP]
  refine awp_cut (by rw [hN]; kernel_rfl) ?_
  simp [go_sem, hP]
  have hnew : POwn Try.prog E.row E.src 13 [intsL xs] 76 2 (· = [[intsL (xs.take 900), iv 0]]) := by rw [hr, hs]; exact new_pf xs hl
  refine callB_own hnew hP en_13 (args_same (by simp [go_sem, intsL])) (by simp [srefs_imm, go_sem, intsL]) ⟨_, rfl⟩ ?_
  rintro es rfl
  simp [go_sem, hP]
  refine awp_adopt 3 (ty := 76) (xs := xs.take 900) (at_ := 0) hr hs hW (by simp [go_sem]) (by simp [go_sem, intsL]) (by omega) (by simp; omega) (fun x hx' => hx x (List.mem_of_mem_take hx')) (by rw [hN]; kernel_rfl) ?_
  intro E' p hP' hr' hN' hW'
  rw [hP] at hP'
  rw [hN] at hN'
  clear hnew hP hr hs hW hN E
  rename Env => E
  rename E.P = _ => hP
  rename E.row = _ => hr
  rename E.N = _ => hN
  rename (∀ b, ¬ E.W b) => hW
  obtain ⟨src, hs⟩ : ∃ src, E.src = src := ⟨_, rfl⟩
  have up : ∀ {f : FuncId} {args : List AV} {Q : AV → Prop}, PFun Try.prog (some p) src f args Q → PFun Try.prog E.row E.src f args Q := fun h => hr ▸ hs ▸ h

  simp -dsimp -implicitDefEqProofs [-getElem?_pos, go_sem, hP]
  refine callB_isQ (up (account_pf p src 10 (by omega))) hP en_14 (by simp [go_sem]) (gen_ex 10) ?_
  rintro r ⟨a, rfl, hg⟩ _
  obtain ⟨n1, n2⟩ := gen_nums hg (by omega)
  have ia : Imm (.agg [iv a.Credit, subsL a.Subs, entsL a.Entries]) := imm_acc a
  simp -dsimp -implicitDefEqProofs [-getElem?_pos, go_sem, hP, cA]
  refine adrawQ (fun i => decide (i = 1)) [6] [2, 4] hP (by kernel_rfl) (by kernel_rfl) ?_
  simp -dsimp -implicitDefEqProofs [-getElem?_pos, go_sem, hP]
  refine callQ_isQ (up (N_pf p src 99 (by omega))) hP en_15 (by simp [go_sem]) ⟨iv 0, ⟨0, rfl, by simp, by simp⟩, .sc⟩ ?_
  rintro r ⟨y, rfl, _, hy⟩ _
  have hy := hy (by omega)
  have wy := wrap_in (1 + y) (by omega)
  obtain ⟨e, he⟩ : ∃ e : TEntry, e = ⟨(a.Entries.length : Int) + 1, 30, 0, 2, 1 + y, 0⟩ := ⟨_, rfl⟩
  have nx := next_pf a 30 0 2 (1 + y) 0 n2
  rw [num_next hg, ← he] at nx
  have hp := num_post hg (y := 1 + y) (by omega)
  rw [← he] at hp
  have po := post_pf a e n1 n2
  obtain ⟨b, hb⟩ : ∃ b, b = (postA a e).1 := ⟨_, rfl⟩
  rw [← hb, hp] at po
  have hen : e.Number = (a.Entries.length : Int) + 1 := by rw [he]
  have hed : e.Day = 30 := by rw [he]
  have bok : checkA b = 0 := hb ▸ post_check hp
  have bl : lastE b = e := hb ▸ lastE_post hp
  have be : b.Entries = a.Entries ++ [e] := hb ▸ post_ents hp
  have bi : ids b.Subs = ids a.Subs := hb ▸ post_ids hp
  have bsl : b.Subs.length = 4 := by rw [← ids_len, bi, hg.ids]; rfl
  have hal := hg.len
  have bel : b.Entries.length = a.Entries.length + 1 := by rw [be]; simp
  have p2 := post_pf b e (by omega) (by omega)
  have p3 := post_pf b ⟨e.Number + 1, 29, 0, 2, 1, 0⟩ (by omega) (by omega)
  rw [num_twice bok (by omega) (by rw [bl]; omega)] at p2
  rw [num_early bok (by omega) (by rw [bl]) (by rw [bl, hed]; dsimp only; omega)] at p3
  have eq := listEq_pf_ents23 a.Entries a.Entries n2 n2
  have etk : (encL TEntry.cells b.Entries).take a.Entries.length = encL TEntry.cells a.Entries := by
    rw [be, ← encL_app]
    exact List.take_left' (encL_len ..)
  have iz : Imm (.agg zeroA.cells) := imm_acc zeroA
  have ib : Imm (.agg [iv b.Credit, subsL b.Subs, entsL b.Entries]) := imm_acc b
  have ie : Imm (.agg [iv e.Number, iv e.Day, iv e.From, iv e.To, iv e.Amount, iv e.Ref]) := imm_ent e
  have i3 : Imm (.agg [iv (e.Number + 1), iv 29, iv 0, iv 2, iv 1, iv 0]) := imm_ent ⟨e.Number + 1, 29, 0, 2, 1, 0⟩
  rw [cA] at iz nx po p2 p3
  rw [cE] at nx po p2 p3
  rw [cA] at po p2 p3
  have w1 := wrap_in (e.Number + 1) (by omega)
  have w2 := wrap_in ((a.Entries.length : Int) + 1) (by omega)
  clear hb he
  simp -dsimp -implicitDefEqProofs [-getElem?_pos, go_sem, hP, wy]
  refine callQ_is (nx.lift _ _) hP en_20 (by simp [ia, imm_sc]) ie ?_
  simp -dsimp -implicitDefEqProofs [-getElem?_pos, go_sem, hP]
  refine ⟨agree_2', ?_⟩
  refine callB_is (po.lift _ _) hP en_21 (by simp [ia, ie]) (imm_pair ib .sc) ?_
  simp -dsimp -implicitDefEqProofs [-getElem?_pos, go_sem, hP]
  refine callB_is (p2.lift _ _) hP en_21 (by simp [ib, ie]) (imm_pair iz .sc) ?_
  simp -dsimp -implicitDefEqProofs [-getElem?_pos, go_sem, hP, w1]
  refine callB_is (p3.lift _ _) hP en_21 (by simp [ib, i3]) (imm_pair iz .sc) ?_
  simp -dsimp -implicitDefEqProofs [-getElem?_pos, go_sem, hP, w2, bel]
  refine adrawB (fun _ => true) [] hP (by kernel_rfl) (by kernel_rfl) ?_
  have c1 : (0 : Int) ≤ (a.Entries.length : Int) ∧ (a.Entries.length : Int) ≤ (a.Entries.length : Int) + 1 := by omega
  have dn : decide (e.Number = (a.Entries.length : Int) + 1) = true := decide_eq_true hen
  simp -dsimp -implicitDefEqProofs [-getElem?_pos, go_sem, hP, w2, dn, bel, asliceOp, bound, aslice, c1, etk]
  refine callB_pure eq hP en_22 (args_imm (imm_ents _) (args_imm (imm_ents _) (args_nil.2 trivial))) .sc ?_
  simp -dsimp -implicitDefEqProofs [-getElem?_pos, go_sem, hP]
  refine callB_pure sane23_pf hP en_18 (args_nil.2 trivial) .sc ?_
  simp -dsimp -implicitDefEqProofs [-getElem?_pos, go_sem, hP]
end Go.Proofs.Ytcfkdimndhapfaa
