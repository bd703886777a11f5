/- LedgerTurns: the walk. -/
import Derived.Test.YtellcfkpfccgaaaLedNet
set_option linter.unusedSimpArgs false
set_option linter.unusedVariables false
namespace Go.Proofs.Ytellcfkpfccgaaa
open Go.PA
open Go.RowKit

theorem lastD_le {l : List TPosting} {d : Int} (h : ∀ p, p ∈ l → p.Day ≤ d) (hd : 0 ≤ d) : lastD l ≤ d := by
  unfold lastD
  cases hl : l.getLast? with
  | none => exact hd
  | some p => exact h p (List.mem_of_getLast? hl)
theorem lastD_snoc (l : List TPosting) (p : TPosting) : lastD (l ++ [p]) = p.Day := by simp [lastD]
theorem turn_ok {p : TPosting} (h : PostOk p) {number day : Int} (h1 : 1 ≤ number ∧ number ≤ 1000000) (h2 : 0 ≤ day ∧ day ≤ 36000) : PostOk (turnP p number day) :=
  ⟨h1, h2, h.ent, h.cre, h.deb, fun e => h.ne e.symm, h.amt, h.par, h.pne, h.ref⟩
theorem turn_twice (p : TPosting) (a b : Int) : turnP (turnP p a b) p.Number p.Day = p := by cases p; rfl
theorem addP_turn (q : Int → Bool) (p : TPosting) (number day : Int) : addP q (turnP p number day) = -addP q p := by
  unfold addP turnP
  dsimp only
  omega
theorem bal_turn {l : List TPosting} {p : TPosting} {e day n d : Int} (h1 : 0 ≤ p.Day ∧ p.Day ≤ day) (h2 : 0 ≤ d ∧ d ≤ day) (q : Int → Bool) : netP q (ofB e 0 day) (l ++ [p] ++ [turnP p n d]) = netP q (ofB e 0 day) l := by
  rw [netP_snoc, netP_snoc, addP_turn]
  have : ofB e 0 day (turnP p n d) = ofB e 0 day p := by
    unfold ofB
    have e1 : (turnP p n d).Entity = p.Entity := rfl
    have e2 : (turnP p n d).Day = d := rfl
    rw [e1, e2, decide_eq_true h1.1, decide_eq_true h1.2, decide_eq_true h2.1, decide_eq_true h2.2]
  rw [this]
  split <;> omega

set_option maxHeartbeats 2000000 in
theorem turns_law_pf (xs : List Int) (hx : Small xs) (hl : xs.length ≤ 9223372036854775807) :
    PFun Try.prog none none 4 [intsL xs] (· = bv true) := by
  refine pfun_introA Try.func4 rfl (by simp [Try.f4]) ?_
  intro E hP hr hs hW hN
  refine awp_cut (by rw [hN]; kernel_rfl) ?_
  simp [go_sem, hP]
  refine awp_cut (by rw [hN]; kernel_rfl) ?_
  simp [go_sem, hP]
  have hnew : POwn Try.prog E.row E.src 15 [intsL xs] 112 2 (· = [[intsL (xs.take 900), iv 0]]) := by rw [hr, hs]; exact new_pf xs hl
  refine callB_own hnew hP en_15 (args_same (by simp [go_sem, intsL])) (by simp [srefs_imm, go_sem, intsL]) ⟨_, rfl⟩ ?_
  rintro es rfl
  simp [go_sem, hP]
  refine awp_adopt 3 (ty := 112) (xs := xs.take 900) (at_ := 0) hr hs hW (by simp [go_sem]) (by simp [go_sem, intsL]) (by omega) (by simp; omega) (fun x hx' => hx x (List.mem_of_mem_take hx')) (by rw [hN]; kernel_rfl) ?_
  intro E' p hP' hr' hN' hW'
  rw [hP] at hP'
  rw [hN] at hN'
  clear hnew hP hr hs hW hN E
  rename Env => E
  rename E.P = _ => hP
  rename E.row = _ => hr
  rename E.N = _ => hN
  rename (∀ b, ¬ E.W b) => hW
  obtain ⟨src, hs⟩ : ∃ src, E.src = src := ⟨_, rfl⟩
  have up : ∀ {f : FuncId} {args : List AV} {Q : AV → Prop}, PFun Try.prog (some p) src f args Q → PFun Try.prog E.row E.src f args Q := fun h => hr ▸ hs ▸ h

  simp -dsimp -implicitDefEqProofs [-getElem?_pos, go_sem, hP]
  refine callB_isQ (up (gledger_pf p src 8 2 800 (by omega) (by omega) (by omega))) hP en_16 (by simp [go_sem]) (genl_ex 8 2 800) ?_
  rintro r ⟨l, rfl, hg⟩ _
  have il : Imm (postsL l) := imm_posts l
  have hok := hg.ok
  have hls := hg.len
  have wl := wrap_in ((l.length : Int) + 1) (by omega)
  simp -dsimp -implicitDefEqProofs [-getElem?_pos, go_sem, hP, cL, wl]
  refine callB_isQ (up (gposting_pf p src ((l.length : Int) + 1) 810 2 (by omega))) hP en_19 (by simp [go_sem]) (genp_ex _ _ _ (by omega)) ?_
  rintro r ⟨q, rfl, hq⟩ _
  have qok := hq.ok (by omega) (by omega) (by omega)
  have ld : lastD l ≤ 800 := lastD_le (fun p hp => (hg.all p hp).2.1) (by omega)
  have pg := postL_good hok qok hq.num (by rw [hq.day]; omega) (by omega)
  have p1 := lpost_pf ⟨l⟩ q (by dsimp only; omega)
  simp only [pg] at p1
  obtain ⟨l2, hl2⟩ : ∃ l2, l2 = l ++ [q] := ⟨_, rfl⟩
  have ok2 : checkL l2 = 0 := by
    have := (postL_ok (show (postL l q).2 = 0 by rw [pg])).2.2.2.2.2.2
    rw [hl2]; exact this
  have len2 : l2.length = l.length + 1 := by rw [hl2]; simp
  obtain ⟨t, ht⟩ : ∃ t, t = turnP q ((l.length : Int) + 1 + 1) 820 := ⟨_, rfl⟩
  have tok : PostOk t := ht ▸ turn_ok qok (by omega) (by omega)
  have tn : t.Number = (l2.length : Int) + 1 := by rw [ht, len2]; show (l.length : Int) + 1 + 1 = _; omega
  have pg2 := postL_good ok2 tok tn (by rw [hl2, lastD_snoc, hq.day, ht]; show (810 : Int) ≤ 820; omega) (by omega)
  have p2 := lpost_pf ⟨l2⟩ t (by dsimp only; omega)
  simp only [pg2] at p2
  obtain ⟨l3, hl3⟩ : ∃ l3, l3 = l2 ++ [t] := ⟨_, rfl⟩
  have ok3 : checkL l3 = 0 := by
    have := (postL_ok (show (postL l2 t).2 = 0 by rw [pg2])).2.2.2.2.2.2
    rw [hl3]; exact this
  have len3 : l3.length = l2.length + 1 := by rw [hl3]; simp
  rw [← hl2] at p1
  rw [← hl3] at p2
  have bals : ∀ k : Int, balancesL l3 k 820 = balancesL l k 820 := fun k => by
    rw [balancesL, if_pos ok3, balancesL, if_pos hok]
    have : bal (ofB k 0 820) l3 = bal (ofB k 0 820) l := by
      funext a
      rw [hl3, hl2, ht]
      exact bal_turn (by rw [hq.day]; omega) (by omega) _
    rw [this]
  have i2 : Imm (postsL l2) := imm_posts l2
  have i3 : Imm (postsL l3) := imm_posts l3
  have wq := wrap_in ((l.length : Int) + 1 + 1) (by omega)
  have tu := turn_pf q ((l.length : Int) + 1 + 1) 820
  rw [← ht] at tu
  have t1 := turn_pf q 5 9
  have t2 := turn_pf (turnP q 5 9) q.Number q.Day
  rw [turn_twice] at t2
  obtain ⟨v, hv⟩ : ∃ v, v = turnP q 5 9 := ⟨_, rfl⟩
  rw [← hv] at t1 t2
  rw [cL, cL] at p1 p2
  rw [cP] at p1 p2 tu t1 t2
  rw [cP] at tu t1 t2
  have iq : Imm (.agg [iv q.Number, iv q.Day, iv q.Entity, iv q.Debit, iv q.Credit, iv q.Amount, iv q.Partner, iv q.Ref]) := imm_post q
  have it : Imm (.agg [iv t.Number, iv t.Day, iv t.Entity, iv t.Debit, iv t.Credit, iv t.Amount, iv t.Partner, iv t.Ref]) := imm_post t
  have ivv : Imm (.agg [iv v.Number, iv v.Day, iv v.Entity, iv v.Debit, iv v.Credit, iv v.Amount, iv v.Partner, iv v.Ref]) := imm_post v
  have qn := hq.num
  clear hl2 hl3 ht hv pg pg2
  simp -dsimp -implicitDefEqProofs [-getElem?_pos, go_sem, hP, cP]
  refine callB_is (p1.lift _ _) hP en_20 (by simp [il, iq, imm_agg]) (imm_pair (by simpa [imm_agg] using i2) .sc) ?_
  simp -dsimp -implicitDefEqProofs [-getElem?_pos, go_sem, hP]
  refine adrawQ (fun i => decide (i < 4)) [11] [5, 6] hP (by kernel_rfl) (by kernel_rfl) ?_
  have wqn : IntKind.i64.wrap (q.Number + 1) = (l.length : Int) + 1 + 1 := by rw [qn]; exact wq
  simp -dsimp -implicitDefEqProofs [-getElem?_pos, go_sem, hP, restr_get, wqn]
  refine callQ_is (tu.lift _ _) hP en_22 (by simp [iq, imm_sc]) it ?_
  simp -dsimp -implicitDefEqProofs [-getElem?_pos, go_sem, hP]
  refine callQ_is (p2.lift _ _) hP en_20 (by simp [i2, it, imm_agg]) (imm_pair (by simpa [imm_agg] using i3) .sc) ?_
  simp -dsimp -implicitDefEqProofs [-getElem?_pos, go_sem, hP]
  refine ⟨fun i hi => List.getElem?_append_left (l₁ := [none, some _, some _, some _]) (by simpa using hi), ?_⟩
  refine adrawQ (fun _ => true) [] [8, 13] hP (by kernel_rfl) (by kernel_rfl) ?_
  simp -dsimp -implicitDefEqProofs [-getElem?_pos, go_sem, hP]
  refine callQ_is (t1.lift _ _) hP en_22 (by simp [iq, imm_sc]) ivv ?_
  simp -dsimp -implicitDefEqProofs [-getElem?_pos, go_sem, hP]
  refine callQ_is (t2.lift _ _) hP en_22 (by simp [ivv, imm_sc]) iq ?_
  simp -dsimp -implicitDefEqProofs [-getElem?_pos, go_sem, hP]
  obtain ⟨I, hI⟩ : ∃ I : Nat → St → Prop, I = fun m s => ∃ k : Nat, k ≤ 3 ∧ m = 3 - k ∧ s.t 4 = .ref 1 0 0 ∧ s.t 8 = .ref 4 0 0 ∧ s.t 10 = iv k ∧ s.H[1]? = some (some ⟨28, 1, [[postsL l]]⟩) ∧ s.H[4]? = some (some ⟨28, 1, [[postsL l3]]⟩) := ⟨_, rfl⟩
  refine aloop0 I (3) (by rw [hN]; rfl) ?_ ?_
  · rw [hI]
    exact ⟨0, by omega, by omega, by simp -dsimp -implicitDefEqProofs [-getElem?_pos, go_sem], by simp -dsimp -implicitDefEqProofs [-getElem?_pos, go_sem], by simp -dsimp -implicitDefEqProofs [-getElem?_pos, go_sem], by simp -dsimp -implicitDefEqProofs [-getElem?_pos, go_sem], by simp -dsimp -implicitDefEqProofs [-getElem?_pos, go_sem]⟩
  intro m s hs'
  rw [hI] at hs'
  obtain ⟨k, hk, hm, t4, t8, t10, h1, h4⟩ := hs'
  have lt1 := (List.getElem?_eq_some_iff.1 h1).1
  have lt4 := (List.getElem?_eq_some_iff.1 h4).1
  simp -dsimp -implicitDefEqProofs [-getElem?_pos, go_sem, hP, t10]
  refine condP (fun h => ?_) (fun h => ?_)
  rotate_left
  · simp -dsimp -implicitDefEqProofs [-getElem?_pos, go_sem, hP]
    refine callB_pure sane40_pf hP en_21 (args_same (by simp -dsimp -implicitDefEqProofs [-getElem?_pos, go_sem])) .sc ?_
    simp -dsimp -implicitDefEqProofs [-getElem?_pos, go_sem, hP]
  have hk2 : k ≤ 2 := by simp at h; omega
  have wk := wrap_in ((k : Int) + 1) (by omega)
  have b1 := balances_pf ⟨l3⟩ k 820 (by dsimp only; omega)
  have b2 := balances_pf ⟨l⟩ k 820 (by dsimp only; omega)
  simp only [bals] at b1
  rw [cL] at b1 b2
  have hbl : (balancesL l k 820).length ≤ 600 := by
    rw [balancesL, if_pos hok]
    exact listG_len _ _ _
  simp only at b2
  generalize balancesL l k 820 = B at b1 b2 hbl
  have ib : Imm (balsL B) := imm_bals B
  have eq := listEq_pf_bals40 B B (by omega) (by omega)
  rw [decide_eq_true rfl] at eq
  simp -dsimp -implicitDefEqProofs [-getElem?_pos, go_sem, hP]
  refine adrawQ (fun _ => true) [] [2, 5, 6] hP (by kernel_rfl) (by kernel_rfl) ?_
  simp -dsimp -implicitDefEqProofs [-getElem?_pos, go_sem, hP, t8, t10, h4, lt4]
  refine callQ_is (b1.lift _ _) hP en_17 (by simp [i3, imm_agg, imm_sc]) ib ?_
  simp -dsimp -implicitDefEqProofs [-getElem?_pos, go_sem, hP, t4, t10, h1, lt1]
  refine callQ_is (b2.lift _ _) hP en_17 (by simp [il, imm_agg, imm_sc]) ib ?_
  simp -dsimp -implicitDefEqProofs [-getElem?_pos, go_sem, hP]
  refine callQ_is (eq.lift _ _) hP en_23 (by simp [ib]) .sc ?_
  simp -dsimp -implicitDefEqProofs [-getElem?_pos, go_sem, hP, t10, wk]
  refine ⟨3 - (k + 1), by omega, ?_⟩
  rw [hI]
  exact ⟨k + 1, by omega, rfl, by simp -dsimp -implicitDefEqProofs [-getElem?_pos, go_sem, t4], by simp -dsimp -implicitDefEqProofs [-getElem?_pos, go_sem, t8], by simp -dsimp -implicitDefEqProofs [-getElem?_pos, go_sem], by simp -dsimp -implicitDefEqProofs [-getElem?_pos, go_sem, h1], by simp -dsimp -implicitDefEqProofs [-getElem?_pos, go_sem, h4]⟩
end Go.Proofs.Ytellcfkpfccgaaa
