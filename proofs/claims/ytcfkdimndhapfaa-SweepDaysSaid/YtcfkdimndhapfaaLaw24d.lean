/- SweepDays: the walk. -/
import Derived.Test.YtcfkdimndhapfaaSwGen
set_option linter.unusedSimpArgs false
set_option linter.unusedVariables false
namespace Go.Proofs.Ytcfkdimndhapfaa
open Go.PA
open Go.RowKit

theorem four_subs {l : List TSub} (h : ids l = [1, 2, 3, 7]) : ∃ a b c d : Int, l = [⟨1, a⟩, ⟨2, b⟩, ⟨3, c⟩, ⟨7, d⟩] := by
  match l, h with
  | [⟨i, a⟩, ⟨j, b⟩, ⟨k, c⟩, ⟨m, d⟩], h =>
    simp [ids] at h
    obtain ⟨rfl, rfl, rfl, rfl⟩ := h
    exact ⟨a, b, c, d, rfl⟩
theorem four_bal {a : TAccount} (h : checkA a = 0) (hi : ids a.Subs = [1, 2, 3, 7]) (hc : a.Credit ≤ 100) {t : Int} (ht : totalA a = t) (ht0 : t ≤ 100000) : ∀ i, balI a.Subs i ≤ 200000 := fun i => by
  obtain ⟨x, y, z, w, hl⟩ := four_subs hi
  have ho := (check_keeps h).1
  have cr := (check_ok h).2.2.1
  rw [totalA, if_pos h, hl] at ht
  rw [hl] at ho ⊢
  simp [okAll, okSub] at ho
  simp [sumB] at ht
  unfold balI
  simp only [List.find?_cons, List.find?_nil]
  by_cases h1 : (1 : Int) = i
  · simp [h1]; omega
  · by_cases h2 : (2 : Int) = i
    · simp [h1, h2]; omega
    · by_cases h3 : (3 : Int) = i
      · simp [h1, h2, h3]; omega
      · by_cases h4 : (7 : Int) = i
        · simp [h1, h2, h3, h4]; omega
        · simp [h1, h2, h3, h4]
theorem post_in {b : TAccount} (hb : checkA b = 0) (hlen : b.Entries.length < 400) {day t amt : Int} (hd : (lastE b).Day ≤ day ∧ day ≤ 36000) (ha : 0 < amt ∧ amt ≤ 1000000000000) (ht : t ∈ ids b.Subs) (hmt : balI b.Subs t + amt ≤ 1000000000000000) :
    (postA b ⟨(b.Entries.length : Int) + 1, day, 0, t, amt, 0⟩).2 = 0 := by
  obtain ⟨k1, k2, k3, k4, k5⟩ := check_ok hb
  obtain ⟨q1, q2, q3, q4⟩ := check_keeps hb
  obtain ⟨hn, h0, _⟩ := numB_facts k4
  have ht0 : ¬ 0 = t := fun e => h0 (e ▸ ht)
  have b1 : badNum (lastE b).Number ⟨(b.Entries.length : Int) + 1, day, 0, t, amt, 0⟩ = false := by simp [badNum, q2]
  have b2 : badDay (lastE b).Day ⟨(b.Entries.length : Int) + 1, day, 0, t, amt, 0⟩ = false := by simp [badDay, amongB]; omega
  have b3 : badAmt ⟨(b.Entries.length : Int) + 1, day, 0, t, amt, 0⟩ = false := by simp [badAmt, vB, amongB]; omega
  have b4 : badSub b.Subs ⟨(b.Entries.length : Int) + 1, day, 0, t, amt, 0⟩ = false := by
    have h1 : knownB b.Subs 0 = true := (knownB_iff _ _).2 (.inl rfl)
    have h2 : knownB b.Subs t = true := (knownB_iff _ _).2 (.inr ht)
    simp [badSub, h1, h2, ht0]
  have e1 : adj b.Subs 0 (-amt) = b.Subs := adj_none h0
  have o1 : okAt b.Credit b.Subs 0 = true := okAt_none h0
  have o2 : okAt b.Credit (adj b.Subs t amt) t = true := by
    refine List.all_eq_true.2 fun s hs => ?_
    obtain ⟨u, hu, rfl⟩ := List.mem_map.1 hs
    have ho := List.all_eq_true.1 q1 u hu
    have hbu := balI_mem hn hu
    by_cases e : u.ID = t
    · rw [e] at hbu
      simp only [if_pos e]
      simp only [okSub, e, Bool.and_eq_true, decide_eq_true_eq, decide_true, Bool.not_true, Bool.false_or] at ho ⊢
      omega
    · simp [e]
  have : postS b.Credit (lastE b).Number (lastE b).Day b.Subs ⟨(b.Entries.length : Int) + 1, day, 0, t, amt, 0⟩ = (0, adj b.Subs t amt) := by
    unfold postS
    simp only [b1, b2, b3, b4, e1, o1, o2, Bool.false_eq_true, if_false, Bool.true_eq_false]
  rw [postA, if_pos hb, if_neg (by omega), this]
  rfl

/-- The account between the days. -/
structure GD (a : TAccount) (k : Nat) (tot : Int) : Prop where
  ok : checkA a = 0
  ids : ids a.Subs = [1, 2, 3, 7]
  cred : a.Credit ≤ 100
  len : a.Entries.length ≤ 4 + 7 * k
  day : (lastE a).Day ≤ 30 + (k : Int)
  sum : totalA a = tot
  small : -1000 ≤ tot ∧ tot ≤ 8000 + 400 * (k : Int)

set_option maxHeartbeats 1000000 in
theorem sdays_law_pf (xs : List Int) (hx : Small xs) (hl : xs.length ≤ 9223372036854775807) :
    PFun Try.prog none none 9 [intsL xs] (· = bv true) := by
  refine pfun_introA Try.func9 rfl (by simp [Try.f9]) ?_
  intro E hP hr hs hW hN
  refine awp_cut (by rw [hN]; kernel_rfl) ?_
  simp [go_sem, hP]
  refine awp_cut (by rw [hN]; kernel_rfl) ?_
  simp [go_sem, hP]
  have hnew : POwn Try.prog E.row E.src 13 [intsL xs] 76 2 (· = [[intsL (xs.take 900), iv 0]]) := by rw [hr, hs]; exact new_pf xs hl
  refine callB_own hnew hP en_13 (args_same (by simp [go_sem, intsL])) (by simp [srefs_imm, go_sem, intsL]) ⟨_, rfl⟩ ?_
  rintro es rfl
  simp [go_sem, hP]
  refine awp_adopt 3 (ty := 76) (xs := xs.take 900) (at_ := 0) hr hs hW (by simp [go_sem]) (by simp [go_sem, intsL]) (by omega) (by simp; omega) (fun x hx' => hx x (List.mem_of_mem_take hx')) (by rw [hN]; kernel_rfl) ?_
  intro E' p hP' hr' hN' hW'
  rw [hP] at hP'
  rw [hN] at hN'
  clear hnew hP hr hs hW hN E
  rename Env => E
  rename E.P = _ => hP
  rename E.row = _ => hr
  rename E.N = _ => hN
  rename (∀ b, ¬ E.W b) => hW
  obtain ⟨src, hs⟩ : ∃ src, E.src = src := ⟨_, rfl⟩
  have up : ∀ {f : FuncId} {args : List AV} {Q : AV → Prop}, PFun Try.prog (some p) src f args Q → PFun Try.prog E.row E.src f args Q := fun h => hr ▸ hs ▸ h

  simp -dsimp -implicitDefEqProofs [-getElem?_pos, go_sem, hP]
  refine callB_isQ (up (account_pf p src 4 (by omega))) hP en_14 (by simp [go_sem]) (gen_ex 4) ?_
  rintro r ⟨a0, rfl, hg⟩ _
  simp -dsimp -implicitDefEqProofs [-getElem?_pos, go_sem, hP]
  refine callB_isQ (up (keeps_pf p src)) hP en_41 (by simp [go_sem]) genk_ex ?_
  rintro r ⟨l, rfl, hk⟩ _
  have hll := hk.len
  obtain ⟨n1, n2⟩ := gen_nums hg (by omega)
  have ta := total23_pf a0 n1 n2
  have gd0 : GD a0 0 (totalA a0) := by
    refine ⟨hg.ok, hg.ids, hg.cred, by have := hg.len; omega, by have := hg.day; omega, rfl, ?_⟩
    obtain ⟨x, y, z, w, hl⟩ := four_subs hg.ids
    have ho := (check_keeps hg.ok).1
    have hb := hg.bal
    have cr := hg.cred
    rw [totalA, if_pos hg.ok, hl]
    rw [hl] at ho hb
    simp [okAll, okSub] at ho
    simp [sumB] at hb ⊢
    omega
  obtain ⟨tot0, ht0⟩ : ∃ t, t = totalA a0 := ⟨_, rfl⟩
  rw [← ht0] at ta gd0
  rw [cA] at ta
  have ia0 : Imm (.agg [iv a0.Credit, subsL a0.Subs, entsL a0.Entries]) := imm_acc a0
  simp -dsimp -implicitDefEqProofs [-getElem?_pos, go_sem, hP, cA]
  refine callB_is (ta.lift _ _) hP en_31 (by simp [ia0]) .sc ?_
  simp -dsimp -implicitDefEqProofs [-getElem?_pos, go_sem, hP]
  obtain ⟨I, hI⟩ : ∃ I : Nat → St → Prop, I = fun m s => ∃ (k : Nat) (a : TAccount) (tot : Int), k ≤ 6 ∧ m = 6 - k ∧ GD a k tot ∧ s.t 3 = sp p ∧ s.t 4 = .ref 1 0 0 ∧ s.t 5 = keepsL l ∧ s.t 6 = iv tot ∧ s.t 7 = iv (30 + (k : Int)) ∧ s.H[1]? = some (some ⟨28, 3, [a.cells]⟩) := ⟨_, rfl⟩
  refine aloop0 I (6) (by rw [hN]; rfl) ?_ ?_
  · rw [hI]
    exact ⟨0, a0, tot0, by omega, by omega, gd0, by simp -dsimp -implicitDefEqProofs [-getElem?_pos, go_sem], by simp -dsimp -implicitDefEqProofs [-getElem?_pos, go_sem], by simp -dsimp -implicitDefEqProofs [-getElem?_pos, go_sem], by simp -dsimp -implicitDefEqProofs [-getElem?_pos, go_sem], by simp -dsimp -implicitDefEqProofs [-getElem?_pos, go_sem], by simp -dsimp -implicitDefEqProofs [-getElem?_pos, go_sem, cA]⟩
  clear gd0 ta ia0 ht0 hg
  intro m s hs'
  rw [hI] at hs'
  obtain ⟨k, a, tot, hk6, hm, gd, t3, t4, t5, t6, t7, h1⟩ := hs'
  have lt1 := (List.getElem?_eq_some_iff.1 h1).1
  simp -dsimp -implicitDefEqProofs [-getElem?_pos, go_sem, hP, t7]
  refine condP (fun h => ?_) (fun h => ?_)
  · have hk6 : k < 6 := by simp at h; omega
    have wk := wrap_in (30 + (k : Int) + 1) (by omega)
    have ia : Imm (.agg [iv a.Credit, subsL a.Subs, entsL a.Entries]) := imm_acc a
    have asl : a.Subs.length = 4 := by rw [← ids_len, gd.ids]; rfl
    have ael := gd.len
    simp -dsimp -implicitDefEqProofs [-getElem?_pos, go_sem, hP, t3]
    refine callB_flat (up (pick_pf p src [5, 60, 400] (by simp))) hP en_16 (by simp [go_sem, intsL]) ⟨iv 5, 5, rfl, by simp⟩ (by rintro r ⟨m, rfl, _⟩; exact .sc) ?_
    rintro r ⟨n, rfl, hn⟩
    have hn : 5 ≤ n ∧ n ≤ 400 := by simp at hn; omega
    simp -dsimp -implicitDefEqProofs [-getElem?_pos, go_sem, hP]
    refine adrawQ (fun i => decide (i = 1)) [13] [5, 7, 8] hP (by kernel_rfl) (by kernel_rfl) ?_
    simp -dsimp -implicitDefEqProofs [-getElem?_pos, go_sem, hP, t3, t4, h1, lt1, cA, t7]
    refine callQ_isQ (up (pick_pf p src [1, 2, 3, 7] (by simp))) hP en_16 (by simp [go_sem, intsL]) ⟨iv 1, ⟨1, rfl, by simp⟩, .sc⟩ ?_
    rintro r ⟨t, rfl, ht⟩ _
    have htm : t ∈ ids a.Subs := by rw [gd.ids]; exact ht
    have bt := four_bal gd.ok gd.ids gd.cred gd.sum (by have := gd.small; omega) t
    have qn := (check_keeps gd.ok).2.1
    have nx := next23_pf a (30 + (k : Int)) 0 t n 0 (by omega)
    have en : nextE a (30 + (k : Int)) 0 t n 0 = ⟨(a.Entries.length : Int) + 1, 30 + (k : Int), 0, t, n, 0⟩ := by rw [nextE, qn, wrap_in _ (by omega)]
    have hp := post_in gd.ok (by omega) (day := 30 + (k : Int)) (t := t) (amt := n) ⟨gd.day, by omega⟩ (by omega) htm (by omega)
    rw [en] at nx
    obtain ⟨e, he⟩ : ∃ e : TEntry, e = ⟨(a.Entries.length : Int) + 1, 30 + (k : Int), 0, t, n, 0⟩ := ⟨_, rfl⟩
    rw [← he] at nx hp
    have po := post23_pf a e (by omega) (by omega)
    obtain ⟨b, hb⟩ : ∃ b, b = (postA a e).1 := ⟨_, rfl⟩
    rw [← hb, hp] at po
    have bok : checkA b = 0 := hb ▸ post_check hp
    have bids : ids b.Subs = [1, 2, 3, 7] := by rw [hb, post_ids hp]; exact gd.ids
    have bcr : b.Credit ≤ 100 := by rw [hb, post_credit hp]; exact gd.cred
    have bent : b.Entries = a.Entries ++ [e] := hb ▸ post_ents hp
    have blen : b.Entries.length ≤ 4 + 7 * k + 1 := by rw [bent]; simp; omega
    have blast : (lastE b).Day = 30 + (k : Int) := by rw [hb, lastE_post hp, he]
    have btot : totalA b = tot + n := by
      have h1 := gd.sum
      rw [total_sum gd.ok] at h1
      have tne : ¬ t = 0 := by rintro rfl; simp at ht
      rw [total_sum bok, bent, sumE_snoc, h1, ioE, he]
      simp [tne]
    have bsl : b.Subs.length = 4 := by rw [← ids_len, bids]; rfl
    have hsm := gd.small
    have H : SwH b l (30 + (k : Int)) := ⟨bok, by rw [bids]; exact hk.ok, fun i => by have := four_bal bok bids bcr btot (by omega) i; omega, by omega, by omega, by omega, by omega⟩
    obtain ⟨c, hc, _, _, hsw⟩ := sweep_all H
    have sw := ssweep_pf b l (30 + (k : Int)) (by omega) (by omega) (by omega)
    rw [hsw] at sw
    have csl : c.Subs.length = 4 := by rw [← ids_len, hc.be.ids, bids]; rfl
    have cel : c.Entries.length ≤ 4 + 7 * (k + 1) := by
      have h1 := hc.len
      rw [hc.be.ents]
      simp
      omega
    have ct : totalA c = tot + n := (hc.be.total bok).trans btot
    have cok := hc.be.ok
    have gdc : GD c (k + 1) (tot + n) := ⟨cok, hc.be.ids.trans bids, by rw [hc.be.credit]; exact bcr, cel, by have := hc.be.dayb; omega, ct, by omega⟩
    have tc := total23_pf c (by omega) (by omega)
    have kc := check23_pf c (by omega) (by omega)
    rw [ct] at tc
    rw [cok] at kc
    have ib : Imm (.agg [iv b.Credit, subsL b.Subs, entsL b.Entries]) := imm_acc b
    have ic : Imm (.agg [iv c.Credit, subsL c.Subs, entsL c.Entries]) := imm_acc c
    have ie : Imm (.agg [iv e.Number, iv e.Day, iv e.From, iv e.To, iv e.Amount, iv e.Ref]) := imm_ent e
    have wt := wrap_in (tot + n) (by omega)
    rw [cA] at nx po sw tc kc
    rw [cE] at nx po
    rw [cA] at po sw
    clear he hb hsw hc
    simp -dsimp -implicitDefEqProofs [-getElem?_pos, go_sem, hP]
    refine callQ_is (nx.lift _ _) hP en_32 (by simp [ia, imm_sc]) ie ?_
    simp -dsimp -implicitDefEqProofs [-getElem?_pos, go_sem, hP]
    refine callQ_is (po.lift _ _) hP en_34 (by simp [ia, ie]) (imm_pair ib .sc) ?_
    simp -dsimp -implicitDefEqProofs [-getElem?_pos, go_sem, hP, t6, wt]
    refine ⟨agree_one lt1, ?_⟩
    simp -dsimp -implicitDefEqProofs [-getElem?_pos, go_sem, hP, t6, wt, t5, t7]
    refine callB_is (sw.lift _ _) hP en_45 (by simp [ib, imm_keeps, imm_sc]) (imm_pair ic .sc) ?_
    simp -dsimp -implicitDefEqProofs [-getElem?_pos, go_sem, hP, t4, h1, lt1, cA]
    refine callB_is (tc.lift _ _) hP en_31 (by simp [ic]) .sc ?_
    simp -dsimp -implicitDefEqProofs [-getElem?_pos, go_sem, hP, t4, lt1]
    refine callB_is (kc.lift _ _) hP en_30 (by simp [ic]) .sc ?_
    simp -dsimp -implicitDefEqProofs [-getElem?_pos, go_sem, hP, t7, wk]
    refine ⟨6 - (k + 1), by omega, ?_⟩
    rw [hI]
    refine ⟨k + 1, c, tot + n, by omega, rfl, gdc, by simp -dsimp -implicitDefEqProofs [-getElem?_pos, go_sem, t3], by simp -dsimp -implicitDefEqProofs [-getElem?_pos, go_sem, t4], by simp -dsimp -implicitDefEqProofs [-getElem?_pos, go_sem, t5], by simp -dsimp -implicitDefEqProofs [-getElem?_pos, go_sem], ?_, by simp -dsimp -implicitDefEqProofs [-getElem?_pos, go_sem, lt1, cA]⟩
    simp -dsimp -implicitDefEqProofs [-getElem?_pos, go_sem]
    omega
  · simp -dsimp -implicitDefEqProofs [-getElem?_pos, go_sem, hP]
    refine callB_pure sane24_pf hP en_44 (args_nil.2 trivial) .sc ?_
    simp -dsimp -implicitDefEqProofs [-getElem?_pos, go_sem, hP]
end Go.Proofs.Ytcfkdimndhapfaa
