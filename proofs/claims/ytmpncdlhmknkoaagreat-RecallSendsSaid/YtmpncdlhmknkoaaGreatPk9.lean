/- Several texts of this claim, joined: RecSane RecSnd Law26b. -/
import Derived.Test.YtmpncdlhmknkoaaGreatPk8
set_option linter.unusedSimpArgs false
set_option linter.unusedVariables false
namespace Go.Proofs.YtmpncdlhmknkoaaGreat
open Go.PA
open Go.RowKit
def fA0 : TAccount := newA [1] 0
def fE : TEntry := ⟨1, 0, 0, 1, 100, 0⟩
def fA : TAccount := ⟨0, [⟨1, 100⟩], [fE]⟩
theorem f_open : openA [1] 0 = (fA0, 0) := by kernel_rfl
theorem f_next : nextE fA0 0 0 1 100 0 = fE := by kernel_rfl
theorem f_post : postA fA0 fE = (fA, 0) := by kernel_rfl
theorem funds_pf : PFun Tryz.prog none none 25 [] (· = .agg fA.cells) := by
  refine pfun_intro Tryz.func25 rfl (by simp [Tryz.f25]) (by kernel_rfl) ?_
  intro E hP hr hs hW hN
  have op := open23_pf [1] 0 (by simp)
  rw [f_open] at op
  have nx := next23_pf fA0 0 0 1 100 0 (by simp [fA0, newA])
  rw [f_next] at nx
  have po := post23_pf fA0 fE (by simp [fA0, newA, newS]) (by simp [fA0, newA])
  rw [f_post] at po
  have i0 := imm_acc fA0
  have i1 := imm_acc fA
  have ie := imm_ent fE
  simp only [cA] at op nx po i0 i1
  have op : PFun Tryz.prog none none 48 [.list 1 [[iv 1]], iv 0] (· = .tup [.agg [iv fA0.Credit, subsL fA0.Subs, entsL fA0.Entries], iv 0]) := op
  simp -dsimp -implicitDefEqProofs [-getElem?_pos, go_sem, hP]
  refine callB_is (op.lift _ _) hP en_48 (by simp [imm_sc, imm_list]) (imm_pair i0 .sc) ?_
  simp -dsimp -implicitDefEqProofs [-getElem?_pos, go_sem, hP]
  refine adrawQ (fun i => decide (i < 2)) [7] [2, 3] hP (by kernel_rfl) (by kernel_rfl) ?_
  simp -dsimp -implicitDefEqProofs [-getElem?_pos, go_sem, hP]
  refine callQ_is (nx.lift _ _) hP en_51 (by simpa [imm_sc] using i0) ie ?_
  simp -dsimp -implicitDefEqProofs [-getElem?_pos, go_sem, hP]
  refine callQ_is (po.lift _ _) hP en_50 (by simpa using ⟨i0, ie⟩) (imm_pair i1 .sc) ?_
  simp -dsimp -implicitDefEqProofs [-getElem?_pos, go_sem, hP]
  exact done_imm i1 rfl
def sPay : TPayment := ⟨5, 1, 60, 0, 1⟩
def sD0 : TDesk := (openD fA).1
def sD1 : TDesk := (orderD sD0 sPay).1
def sD2 : TDesk := (sendD sD1 0).1
def sD3 : TDesk := (returnD sD2 5 1).1
def sD4 : TDesk := (againD sD3 5 1).1
def sD5 : TDesk := (sendD sD4 2).1
theorem s_0 : (openD fA).2 = 0 := by kernel_rfl
theorem s_1 : (orderD sD0 sPay).2 = 0 := by kernel_rfl
theorem s_2 : (sendD sD1 0).2.2 = 0 := by kernel_rfl
theorem s_3 : (returnD sD2 5 1).2 = 0 := by kernel_rfl
theorem s_4 : (againD sD3 5 1).2 = 0 := by kernel_rfl
theorem s_5 : (sendD sD4 2).2.2 = 0 := by kernel_rfl
theorem s_len : sD5.Items.length = 1 := by kernel_rfl
theorem s_att : (sD5.Items[0]?).map (·.Attempts) = some 2 := by kernel_rfl
theorem s_ents : sD5.Account.Entries.length = 4 := by kernel_rfl
theorem s_state : stateD sD5 5 = 2 := by kernel_rfl
theorem s_ok0 : DOk sD0 := by
  have h := openD_ok s_0
  rw [sD0, h.1]
  exact h.2.2.2
theorem s_ok1 : DOk sD1 := (orderD_ok (x := sD1) (p := sPay) (d := sD0) (Prod.ext rfl s_1)).2.2.2.2
theorem send_DOk {d : TDesk} {day : Int} (h : (sendD d day).2.2 = 0) : DOk (sendD d day).1 := by
  obtain ⟨_, _, _, _, ps, a, _, _, _, _, _, _, _, _, h⟩ := sendD_ok (x := (sendD d day).1) (b := (sendD d day).2.1) (d := d) (day := day) (Prod.ext rfl (Prod.ext rfl h))
  exact h
theorem s_ok2 : DOk sD2 := send_DOk s_2
theorem s_ok3 : DOk sD3 := (returnD_ok (x := sD3) (d := sD2) (w := 5) (day := 1) (Prod.ext rfl s_3)).2.2
theorem s_ok4 : DOk sD4 := (againD_ok (x := sD4) (d := sD3) (w := 5) (due := 1) (Prod.ext rfl s_4)).2.2
theorem s_ok5 : DOk sD5 := send_DOk s_5
set_option maxHeartbeats 1000000 in
theorem sane26_pf : PFun Tryz.prog none none 15 [] (· = bv true) := by
  refine pfun_intro Tryz.func15 rfl (by simp [Tryz.f15]) (by kernel_rfl) ?_
  intro E hP hr hs hW hN
  have fu := funds_pf
  have op := ropen_pf fA (by simp [fA]) (by simp [fA])
  have o1 := rorder_pf sD0 sPay s_ok0.fit
  have o2 := rsend_pf sD1 0 s_ok1.fit
  have o3 := rreturn_pf sD2 5 1 s_ok2.fit
  have o4 := ragain_pf sD3 5 1 s_ok3.fit
  have o5 := rsend_pf sD4 2 s_ok4.fit
  have o6 := rstate_pf sD5 5 s_ok5.fit
  rw [s_0, ← sD0] at op
  rw [s_1, ← sD1] at o1
  rw [s_2, ← sD2] at o2
  rw [s_3, ← sD3] at o3
  rw [s_4, ← sD4] at o4
  rw [s_5, ← sD5] at o5
  rw [s_state] at o6
  have ifa := imm_acc fA
  have i0 := imm_desk sD0
  have i1 := imm_desk sD1
  have i2 := imm_desk sD2
  have i3 := imm_desk sD3
  have i4 := imm_desk sD4
  have i5 := imm_desk sD5
  have ip := imm_pay sPay
  have eP : sPay.cells = [iv 5, iv 1, iv 60, iv 0, iv 1] := rfl
  have ib2 := imm_bat (sendD sD1 0).2.1
  have ib5 := imm_bat (sendD sD4 2).2.1
  obtain ⟨b2, hb2⟩ : ∃ b, b = (sendD sD1 0).2.1 := ⟨_, rfl⟩
  obtain ⟨b5, hb5⟩ : ∃ b, b = (sendD sD4 2).2.1 := ⟨_, rfl⟩
  rw [← hb2] at o2 ib2
  rw [← hb5] at o5 ib5
  have sl := s_len
  have se := s_ents
  obtain ⟨x, hx, hxa⟩ : ∃ x, sD5.Items[0]? = some x ∧ x.Attempts = 2 := by
    have := s_att
    cases h : sD5.Items[0]? with
    | none => rw [h] at this; cases this
    | some x => rw [h] at this; exact ⟨x, rfl, Option.some.inj this⟩
  generalize sD0 = D0 at *
  generalize sD1 = D1 at *
  generalize sD2 = D2 at *
  generalize sD3 = D3 at *
  generalize sD4 = D4 at *
  generalize sD5 = D5 at *
  simp only [cA, cDn, cBt, eP] at fu op o1 o2 o3 o4 o5 o6 ifa i0 i1 i2 i3 i4 i5 ip ib2 ib5
  simp -dsimp -implicitDefEqProofs [-getElem?_pos, go_sem, hP]
  refine callB_is (fu.lift _ _) hP en_25 (by simp) ifa ?_
  simp -dsimp -implicitDefEqProofs [-getElem?_pos, go_sem, hP]
  refine callB_is (op.lift _ _) hP en_24 (by simpa using ifa) (imm_pair i0 .sc) ?_
  simp -dsimp -implicitDefEqProofs [-getElem?_pos, go_sem, hP]
  refine callB_is (o1.lift _ _) hP en_27 (by simpa using ⟨i0, ip⟩) (imm_pair i1 .sc) ?_
  simp -dsimp -implicitDefEqProofs [-getElem?_pos, go_sem, hP]
  refine callB_is (o2.lift _ _) hP en_19 (by simpa [imm_sc] using i1) (imm_trip i2 ib2 .sc) ?_
  simp -dsimp -implicitDefEqProofs [-getElem?_pos, go_sem, hP]
  refine callB_is (o3.lift _ _) hP en_28 (by simpa [imm_sc] using i2) (imm_pair i3 .sc) ?_
  simp -dsimp -implicitDefEqProofs [-getElem?_pos, go_sem, hP]
  refine callB_is (o4.lift _ _) hP en_29 (by simpa [imm_sc] using i3) (imm_pair i4 .sc) ?_
  simp -dsimp -implicitDefEqProofs [-getElem?_pos, go_sem, hP]
  refine callB_is (o5.lift _ _) hP en_19 (by simpa [imm_sc] using i4) (imm_trip i5 ib5 .sc) ?_
  simp -dsimp -implicitDefEqProofs [-getElem?_pos, go_sem, hP, sl, se, hx, cIt, hxa]
  refine callB_is (o6.lift _ _) hP en_14 (by simpa [imm_sc] using i5) .sc ?_
  simp -dsimp -implicitDefEqProofs [-getElem?_pos, go_sem, hP]
open Go.PA
open Go.RowKit
def limC (c sub : Int) : Int := if sub = 1 then c else 0
theorem bal_net {a : TAccount} (h : checkA a = 0) {id : Int} (hi : id ∈ ids a.Subs) : balanceA a id = (netE id a.Entries, true) := by
  obtain ⟨_, _, _, h4, _⟩ := check_ok h
  rw [balanceA, if_pos h]
  have hs := check_net h
  generalize ids a.Subs = l at hi hs
  rw [hs]
  clear hs h4
  induction l with
  | nil => cases hi
  | cons i l ih =>
    rw [List.map_cons, List.find?_cons]
    by_cases c : i = id
    · subst c; simp
    · simp only [c, decide_false]
      exact ih ((List.mem_cons.1 hi).resolve_left fun e => c e.symm)
theorem bal_bound {a : TAccount} (h : checkA a = 0) (id : Int) : -1000000000000 ≤ (balanceA a id).1 ∧ (balanceA a id).1 ≤ 1000000000000000 := by
  have hc := (check_ok h).2.2.1
  have ho := (check_keeps h).1
  rw [balanceA, if_pos h]
  split
  · rename_i s hs
    exact okSub_bounds hc (List.all_eq_true.1 ho s (List.mem_of_find?_eq_some hs))
  · simp
theorem post_out {a : TAccount} (h : checkA a = 0) (hl : a.Entries.length < 400) (h0 : (0 : Int) ∉ ids a.Subs) {day sub amt w : Int} (hd : (lastE a).Day ≤ day ∧ day ≤ 36000) (hs : sub ∈ ids a.Subs) (hn : 1 ≤ sub) (ha : 1 ≤ amt ∧ amt ≤ 1000000000000) (hw : 0 ≤ w ∧ w ≤ 1000000) (hb : amt ≤ netE sub a.Entries + limC a.Credit sub) : (postA a (nextE a day sub 0 amt w)).2 = 0 := by
  obtain ⟨k1, k2, k3, k4⟩ := check_keeps h
  have hr := wrap_in ((lastE a).Number + 1) (by omega)
  have e1 : badNum (lastE a).Number (nextE a day sub 0 amt w) = false := by simp [badNum, nextE, hr]
  have e2 : badDay (lastE a).Day (nextE a day sub 0 amt w) = false := by
    rw [badDay, Bool.not_eq_false', amongB_iff]
    exact hd
  have e3 : badAmt (nextE a day sub 0 amt w) = false := by
    have a1 : vB (nextE a day sub 0 amt w).Amount = true := amongB_iff.2 ⟨by simp only [nextE]; omega, ha.2⟩
    have a2 : amongB (nextE a day sub 0 amt w).Ref 0 1000000 = true := amongB_iff.2 hw
    have a3 : decide (0 < (nextE a day sub 0 amt w).Amount) = true := decide_eq_true (by simp only [nextE]; omega)
    rw [badAmt, a1, a2, a3]
    rfl
  have e4 : badSub a.Subs (nextE a day sub 0 amt w) = false := by
    have a1 : knownB a.Subs (nextE a day sub 0 amt w).From = true := (knownB_iff _ _).2 (.inr hs)
    have a2 : knownB a.Subs (nextE a day sub 0 amt w).To = true := (knownB_iff _ _).2 (.inl rfl)
    have a3 : decide ((nextE a day sub 0 amt w).From = (nextE a day sub 0 amt w).To) = false := decide_eq_false (by simp only [nextE]; omega)
    rw [badSub, a1, a2, a3]
    rfl
  have e6 : okAt a.Credit (adj (adj a.Subs (nextE a day sub 0 amt w).From (-(nextE a day sub 0 amt w).Amount)) (nextE a day sub 0 amt w).To (nextE a day sub 0 amt w).Amount) (nextE a day sub 0 amt w).To = true := okAt_none (by rw [adj_ids, adj_ids]; exact h0)
  have e5 : okAt a.Credit (adj a.Subs (nextE a day sub 0 amt w).From (-(nextE a day sub 0 amt w).Amount)) (nextE a day sub 0 amt w).From = true := by
    refine List.all_eq_true.2 fun s hs => ?_
    obtain ⟨t, ht, rfl⟩ := List.mem_map.1 hs
    have b1 := List.all_eq_true.1 k1 t ht
    have hA : (nextE a day sub 0 amt w).Amount = amt := rfl
    have hF : (nextE a day sub 0 amt w).From = sub := rfl
    rw [hA, hF]
    have hn := ht
    rw [check_net h] at hn
    obtain ⟨i, _, hi⟩ := List.mem_map.1 hn
    have hB : t.Balance = netE t.ID a.Entries := by rw [← hi]
    simp only [okSub, Bool.and_eq_true, decide_eq_true_eq] at b1
    by_cases c : t.ID = sub
    · rw [if_pos c]
      rw [← c] at hb
      simp only [okSub, Bool.or_eq_true, Bool.and_eq_true, decide_eq_true_eq]
      refine .inr ?_
      unfold limC at hb
      split at b1 <;> rename_i c1
      · rw [if_pos c1] at hb ⊢; omega
      · rw [if_neg c1] at hb ⊢; omega
    · rw [if_neg c]
      simp [c]
  have e : (postS a.Credit (lastE a).Number (lastE a).Day a.Subs (nextE a day sub 0 amt w)).1 = 0 := by
    rw [postS, if_neg (by rw [e1]; simp), if_neg (by rw [e2]; simp), if_neg (by rw [e3]; simp), if_neg (by rw [e4]; simp), if_neg (by rw [e5]; simp), if_neg (by rw [e6]; simp)]
  rw [postA, if_pos h, if_neg (by omega), if_pos e]
theorem postS_ne3 (credit n d : Int) (l : List TSub) (e : TEntry) : (postS credit n d l e).1 ≠ 3 := by
  unfold postS
  repeat' split
  all_goals simp
theorem post_ne3 {a : TAccount} (h : checkA a = 0) (hl : a.Entries.length < 400) (e : TEntry) : (postA a e).2 ≠ 3 := by
  rw [postA, if_pos h, if_neg (by omega)]
  split
  · simp
  · exact postS_ne3 _ _ _ _ _
theorem net_out {a : TAccount} {day sub amt w : Int} (h : (postA a (nextE a day sub 0 amt w)).2 = 0) (ha : 0 ≤ amt) {i : Int} (hi : 1 ≤ i) : netE i (postA a (nextE a day sub 0 amt w)).1.Entries ≤ netE i a.Entries := by
  have : dE i (nextE a day sub 0 amt w) ≤ 0 := by
    show (if (0 : Int) = i then amt else 0) - (if sub = i then amt else 0) ≤ 0
    rw [if_neg (by omega)]
    split <;> omega
  rw [post_ents h, netE, sumE_app, sumE_cons]
  have e0 : sumE (dE i) [] = 0 := rfl
  rw [e0]
  unfold netE
  omega
structure GoR (day : Int) (c : Int) (l : List TPayment) (a : TAccount) (ws : List Int) (full : Bool) (r : TAccount × List Int × Bool) : Prop where
  full : r.2.2 = full
  left : r.2.1.length < 10 → ∀ p, p ∈ l → p.Warrant ∈ r.2.1 ∨ netE p.Sub r.1.Entries + limC c p.Sub < p.Amount
  has : ∀ w, w ∈ ws → w ∈ r.2.1
  less : ∀ i, 1 ≤ i → netE i r.1.Entries ≤ netE i a.Entries
  len : ws.length ≤ 10 → r.2.1.length ≤ 10
theorem sendGo_all (day : Int) (hday : day ≤ 36000) (a0 : TAccount) (h0 : (0 : Int) ∉ ids a0.Subs) : ∀ (l : List TPayment) (a : TAccount) (ps : List TPayment) (full : Bool), Sent day a0 ps a → (∀ p, p ∈ l → PayOk p ∧ p.Sub ∈ ids a0.Subs) → a.Entries.length + l.length < 400 → lastDay a ≤ day → GoR day a0.Credit l a (ps.map (·.Warrant)) full (sendGo day l a (ps.map (·.Warrant)) full)
  | [], a, ps, full, h, hp, hl, hd => ⟨rfl, fun _ p hp => (by cases hp), fun w hw => hw, fun _ _ => Int.le_refl _, fun h => h⟩
  | p :: l, a, ps, full, h, hp, hl, hd => by
    obtain ⟨hp1, hp2⟩ := hp p (by simp)
    have hpl : ∀ p, p ∈ l → PayOk p ∧ p.Sub ∈ ids a0.Subs := fun q hq => hp q (by simp [hq])
    have hw := hp1.warrant
    have ha := hp1.amount
    rw [List.length_cons] at hl
    rw [sendGo]
    split
    · rename_i h10
      exact ⟨rfl, fun h => by dsimp only at h; omega, fun w hw => hw, fun _ _ => Int.le_refl _, fun h => h⟩
    · rename_i h10
      split
      · rename_i hpo
        have e : ps.map (·.Warrant) ++ [p.Warrant] = (ps ++ [p]).map (·.Warrant) := by simp
        rw [e]
        obtain ⟨r1, r2, r3, r4, r5⟩ := sendGo_all day hday a0 h0 l _ (ps ++ [p]) full (h.snoc hpo) hpl (by rw [post_ents hpo, List.length_append, List.length_singleton]; omega) (by rw [lastDay, lastE_post hpo]; exact Int.le_refl _)
        refine ⟨r1, fun h10 q hq => ?_, fun w hw => r3 w (by rw [List.map_append]; exact List.mem_append.2 (.inl hw)), fun i hi => Int.le_trans (r4 i hi) (net_out hpo (by omega) hi), fun h => r5 (by rw [List.map_append, List.length_append]; simp only [List.map_cons, List.map_nil, List.length_singleton]; omega)⟩
        rcases List.mem_cons.1 hq with rfl | hq
        · exact .inl (r3 _ (by simp))
        · exact r2 h10 q hq
      · rename_i hpo
        have n3 : decide ((postA a (nextE a day p.Sub 0 p.Amount p.Warrant)).2 = 3) = false := decide_eq_false (post_ne3 h.ok (by omega) _)
        rw [n3, Bool.or_false]
        obtain ⟨r1, r2, r3, r4, r5⟩ := sendGo_all day hday a0 h0 l a ps full h hpl (by omega) hd
        refine ⟨r1, fun h10 q hq => ?_, r3, r4, r5⟩
        rcases List.mem_cons.1 hq with rfl | hq
        · refine .inr (Int.lt_of_not_ge fun hge => hpo (post_out h.ok (by omega) (by rw [h.ids]; exact h0) ⟨hd, hday⟩ (by rw [h.ids]; exact hp2) hp1.sub.1 ha ⟨by omega, hw.2⟩ ?_))
          have := r4 q.Sub hp1.sub.1
          rw [h.cred]
          omega
        · exact r2 h10 q hq
section
variable {n : Nat} {d : TDesk} {day k : Int}
theorem gen_no0 (h : GenD n d day) : (0 : Int) ∉ ids d.Account.Subs := by rw [h.ids]; simp
theorem ready_item (h : GenD n d day) {p : TPayment} (hp : p ∈ readyQ d.Queue k) : PayOk p ∧ p.Sub ∈ ids d.Account.Subs := by
  obtain ⟨i, x, hx, rfl, _⟩ := wait_item h.ok ((readyQ_sub d.Queue k).subset hp)
  have io := h.ok.io (List.mem_of_getElem? hx)
  exact ⟨io.pay, io.sub.2⟩
theorem goD_all (h : GenD n d day) (hn : n ≤ 30) (hk : day ≤ k ∧ k ≤ 36000) : GoR k d.Account.Credit (readyQ d.Queue k) d.Account [] false (goD d k) := by
  have hl := h.waiting
  have := (readyQ_sub d.Queue k).length_le
  have hlen := h.len
  have hla := h.lastA
  exact sendGo_all k hk.2 d.Account (gen_no0 h) (readyQ d.Queue k) d.Account [] false (Sent.refl h.ok.a) (fun p hp => ready_item h hp) (by omega) (by omega)
theorem take_all (h : GenD n d day) (hn : n ≤ 100) (hk : day ≤ k) (hb : busB k = true) {ps : List TPayment} (hs : ps.Sublist (readyQ d.Queue k)) (h1 : ¬ ps.length = 0) (h10 : ps.length ≤ 10) : (takeQ d.Queue k (ps.map (·.Warrant))).2.2 = 0 := by
  have hq := checkQ_iff.2 h.ok.q
  have hla := h.lastB
  have hbl := h.bl
  have hdue : dueB d.Queue k (ps.map (·.Warrant)) = true := by
    rw [dueB, Bool.and_eq_true, decide_eq_true_eq]
    refine ⟨h.ok.q.asc.nd.sublist ((hs.trans (readyQ_sub _ _)).map _), List.all_eq_true.2 fun w hw => ?_⟩
    obtain ⟨p, hp, rfl⟩ := List.mem_map.1 hw
    have hr := hs.subset hp
    rw [readyQ, if_pos hq] at hr
    obtain ⟨a, b⟩ := List.mem_filter.1 hr
    exact List.any_eq_true.2 ⟨p, a, by simpa using b⟩
  rw [takeQ, if_pos hq, if_pos hb, if_neg (by omega), if_neg (by rw [List.length_map]; exact h1), if_neg (by rw [List.length_map]; omega), if_pos hdue]
theorem send_none (h : GenD n d day) (hn : n ≤ 30) (hk : day ≤ k ∧ k ≤ 36000) (hb : busB k = true) (he : (sendD d k).2.2 ≠ 0) : (sendD d k).2.2 = 10 ∧ ∀ p, p ∈ readyQ d.Queue k → (balanceA d.Account p.Sub).1 < p.Amount := by
  have g := goD_all h hn hk
  obtain ⟨ps, g1, g2, g3⟩ := goD_run h.ok k
  have hla := h.lastA
  have hlb := h.lastB
  have hc : 0 ≤ d.Account.Credit := (check_ok h.ok.a).2.2.1.1
  rw [sendD, if_pos (checkD_iff.2 h.ok), if_pos hb, if_neg (by omega)] at he ⊢
  by_cases c : (goD d k).2.1.length = 0
  · rw [if_pos c, g.full]
    refine ⟨rfl, fun p hp => ?_⟩
    have hps : ps = [] := by
      rw [g2, List.length_map] at c
      exact List.eq_nil_of_length_eq_zero c
    subst hps
    obtain ⟨es, e1, e2, _⟩ := g3.ents
    have : es = [] := by simpa using e2
    rw [this, List.append_nil] at e1
    rcases g.left (by omega) p hp with hw | hw
    · rw [g2] at hw; cases hw
    · rw [bal_net h.ok.a (ready_item h hp).2]
      rw [e1] at hw
      have : 0 ≤ limC d.Account.Credit p.Sub := by unfold limC; split <;> omega
      dsimp only
      omega
  · rw [if_neg c] at he
    have h10 := g.len (by simp)
    rw [g2, List.length_map] at c h10
    have ht := take_all h (by omega) hk.1 hb g1 c h10
    rw [g2, if_pos ht] at he
    exact absurd rfl he
theorem filter_sub : ∀ {ps l : List TPayment}, ps.Sublist l → (l.map (·.Warrant)).Nodup → l.filter (takenB (ps.map (·.Warrant))) = ps := by
  intro ps l hs
  induction hs with
  | slnil => intro _; rfl
  | @cons l1 l2 a hs ih =>
    intro hn
    rw [List.map_cons, List.nodup_cons] at hn
    rw [List.filter_cons, if_neg, ih hn.2]
    intro e
    rw [takenB, decide_eq_true_eq] at e
    exact hn.1 ((hs.map _).subset e)
  | @cons_cons l1 l2 a hs ih =>
    intro hn
    rw [List.map_cons, List.nodup_cons] at hn
    rw [List.filter_cons, if_pos (by simp [takenB])]
    congr 1
    conv => rhs; rw [← ih hn.2]
    refine List.filter_congr fun x hx => ?_
    have : x.Warrant ≠ a.Warrant := fun e => hn.1 (List.mem_map.2 ⟨x, hx, e⟩)
    simp [takenB, this]
theorem sumW_fold : ∀ (l : List TPayment) (s : Int), 0 ≤ s → (∀ p, p ∈ l → 0 ≤ p.Amount) → s + (l.map (·.Amount)).sum ≤ 1000000000000000 → l.foldl (fun s p => IntKind.i64.wrap (s + p.Amount)) s = s + (l.map (·.Amount)).sum
  | [], s, _, _, _ => by simp
  | p :: l, s, hs, h, hb => by
    have h1 := h p (by simp)
    have h2 : 0 ≤ (l.map (·.Amount)).sum := by
      have : ∀ l : List TPayment, (∀ p, p ∈ l → 0 ≤ p.Amount) → 0 ≤ (l.map (·.Amount)).sum := by
        intro l
        induction l with
        | nil => intro _; simp
        | cons q l ih =>
          intro h
          rw [List.map_cons, List.sum_cons]
          have := ih fun y hy => h y (by simp [hy])
          have := h q (by simp)
          omega
      exact this l fun q hq => h q (by simp [hq])
    rw [List.map_cons, List.sum_cons] at hb ⊢
    rw [List.foldl_cons, wrap_in (s + p.Amount) (by omega), sumW_fold l _ (by omega) (fun q hq => h q (by simp [hq])) (by omega)]
    omega
theorem sum_small : ∀ l : List TPayment, (∀ p, p ∈ l → p.Amount ≤ 100) → (l.map (·.Amount)).sum ≤ 100 * (l.length : Int)
  | [], _ => by simp
  | p :: l, h => by
    have h1 := h p (by simp)
    have h2 := sum_small l fun q hq => h q (by simp [hq])
    rw [List.map_cons, List.sum_cons, List.length_cons]
    omega
theorem sum_io : ∀ (es : List TEntry) (ps : List TPayment), es.map keyE = ps.map keyP → (∀ p, p ∈ ps → 1 ≤ p.Sub) → sumE ioE es = -(ps.map (·.Amount)).sum
  | [], [], _, _ => rfl
  | [], _ :: _, h, _ => by simp at h
  | _ :: _, [], h, _ => by simp at h
  | e :: es, p :: ps, h, hs => by
    simp only [List.map_cons, List.cons.injEq] at h
    obtain ⟨h1, h2⟩ := h
    simp only [keyE, keyP, Prod.mk.injEq] at h1
    have h3 := hs p (by simp)
    rw [sumE_cons, sum_io es ps h2 fun q hq => hs q (by simp [hq]), List.map_cons, List.sum_cons]
    have : ioE e = -p.Amount := by
      unfold ioE
      rw [if_neg (by omega), if_pos h1.2.2.1, h1.2.2.2]
      omega
    omega
theorem io_bound : ∀ es : List TEntry, (∀ e, e ∈ es → 0 < e.Amount ∧ e.Amount ≤ 500) → -(500 * (es.length : Int)) ≤ sumE ioE es ∧ sumE ioE es ≤ 500 * (es.length : Int)
  | [], _ => by simp [sumE]
  | e :: es, h => by
    have h1 := io_bound es fun x hx => h x (List.mem_cons_of_mem _ hx)
    have h2 := h e (by simp)
    have h3 : -500 ≤ ioE e ∧ ioE e ≤ 500 := by
      unfold ioE
      split <;> split <;> omega
    rw [sumE_cons, List.length_cons]
    omega
theorem total_bound (h : GenD n d day) (hn : n ≤ 30) : -1000000 ≤ totalA d.Account ∧ totalA d.Account ≤ 1000000 := by
  rw [total_sum h.ok.a]
  have := io_bound d.Account.Entries fun e he => ⟨(check_mem h.ok.a e he).1, h.small e he⟩
  have := h.len
  omega
theorem send_some (h : GenD n d day) (hn : n ≤ 30) (hk : day ≤ k ∧ k ≤ 36000) {x : TDesk} {b : TBatch} (hx : sendD d k = (x, b, 0)) : (1 ≤ b.Payments.length ∧ b.Payments.length ≤ 10) ∧ totalA x.Account = totalA d.Account - sumW b.Payments ∧ (0 ≤ sumW b.Payments ∧ sumW b.Payments ≤ 1000) ∧ ∀ p, p ∈ readyQ x.Queue k → b.Payments.length < 10 → (balanceA x.Account p.Sub).1 + limC x.Account.Credit p.Sub < p.Amount := by
  have g := goD_all h hn hk
  obtain ⟨a1, a2, a3, a4, ps, a, c1, c2, c3, c4, c5, c6, c7, rfl, c9⟩ := sendD_ok hx
  have hsub := c1.trans (readyQ_sub d.Queue k)
  have hb : b.Payments = ps := by rw [c7]; exact filter_sub hsub h.ok.q.asc.nd
  obtain ⟨es, e1, e2, e3⟩ := c6.ents
  have hps : ∀ p, p ∈ ps → (1 ≤ p.Amount ∧ p.Amount ≤ 100) ∧ 1 ≤ p.Sub := fun p hp => by
    obtain ⟨i, y, hy, rfl, _⟩ := wait_item h.ok (hsub.subset hp)
    have hm := List.mem_of_getElem? hy
    have io := h.ok.io hm
    exact ⟨⟨io.pay.amount.1, (h.pays y hm).2⟩, io.pay.sub.1⟩
  have hss := sum_small ps fun p hp => (hps p hp).1.2
  have hsw : sumW ps = (ps.map (·.Amount)).sum := by rw [sumW, sumW_fold ps 0 (by omega) (fun p hp => by have := (hps p hp).1.1; omega) (by omega), Int.zero_add]
  have hs0 : 0 ≤ (ps.map (·.Amount)).sum := by
    have : ∀ l : List TPayment, (∀ p, p ∈ l → 0 ≤ p.Amount) → 0 ≤ (l.map (·.Amount)).sum := by
      intro l
      induction l with
      | nil => intro _; simp
      | cons q l ih =>
        intro h
        rw [List.map_cons, List.sum_cons]
        have := ih fun y hy => h y (by simp [hy])
        have := h q (by simp)
        omega
    exact this ps fun p hp => by have := (hps p hp).1.1; omega
  rw [hb]
  refine ⟨⟨c2, c3⟩, ?_, by rw [hsw]; omega, fun p hp h10 => ?_⟩
  · have hsi := sum_io es ps e2 fun p hp => (hps p hp).2
    dsimp only
    rw [total_sum c6.ok, total_sum h.ok.a, e1, sumE_app, hsi, hsw]
    omega
  · rw [readyQ, if_pos (checkQ_iff.2 c9.q)] at hp
    obtain ⟨p1, p2⟩ := List.mem_filter.1 hp
    dsimp only at p1
    obtain ⟨p1, p3⟩ := List.mem_filter.1 p1
    have hr : p ∈ readyQ d.Queue k := by
      rw [readyQ, if_pos (checkQ_iff.2 h.ok.q)]
      exact List.mem_filter.2 ⟨p1, p2⟩
    have hsi := (ready_item h hr).2
    dsimp only
    rw [bal_net c6.ok (by rw [c6.ids]; exact hsi), c6.cred]
    rcases g.left (by rw [c4, List.length_map]; exact h10) p hr with hw | hw
    · rw [c4] at hw
      simp only [takenB, hw, decide_true, Bool.not_true] at p3
      cases p3
    · rw [c5] at hw
      exact hw
end
open Go.PA
open Go.RowKit
set_option maxHeartbeats 8000000 in
theorem sends26_pf (xs : List Int) (hx : Small xs) (hl : xs.length ≤ 9223372036854775807) : PFun Tryz.prog none none 4 [intsL xs] (· = bv true) := by
  refine pfun_introA Tryz.func4 rfl (by simp [Tryz.f4]) ?_
  intro E hP hr hs hW hN
  refine awp_cut (by rw [hN]; kernel_rfl) ?_
  simp [go_sem, hP]
  refine awp_cut (by rw [hN]; kernel_rfl) ?_
  simp [go_sem, hP]
  have hnew : POwn Tryz.prog E.row E.src 9 [intsL xs] 81 2 (· = [[intsL (xs.take 900), iv 0]]) := by rw [hr, hs]; exact new_pf xs hl
  refine callB_own hnew hP en_9 (args_same (by simp [go_sem, intsL])) (by simp [srefs_imm, go_sem, intsL]) ⟨_, rfl⟩ ?_
  rintro es rfl
  simp [go_sem, hP]
  refine awp_adopt 3 (ty := 81) (xs := xs.take 900) (at_ := 0) hr hs hW (by simp [go_sem]) (by simp [go_sem, intsL]) (by omega) (by simp; omega) (fun x hx' => hx x (List.mem_of_mem_take hx')) (by rw [hN]; kernel_rfl) ?_
  intro E' p hP' hr' hN' hW'
  rw [hP] at hP'
  rw [hN] at hN'
  clear hnew hP hr hs hW hN E
  rename Env => E
  rename E.P = _ => hP
  rename E.row = _ => hr
  rename E.N = _ => hN
  rename (∀ b, ¬ E.W b) => hW
  obtain ⟨src, hs⟩ : ∃ src, E.src = src := ⟨_, rfl⟩
  have up : ∀ {f : FuncId} {args : List AV} {Q : AV → Prop}, PFun Tryz.prog (some p) src f args Q → PFun Tryz.prog E.row E.src f args Q := fun h => hr ▸ hs ▸ h
  have saneB : ∀ {H : Heap} {C : AV → Heap → Prop} {b : Bx C}, C (bv true) H → CallB E 15 [] H C b := fun h => callB_pure sane26_pf hP en_15 (args_nil.2 trivial) .sc h
  simp -dsimp -implicitDefEqProofs [-getElem?_pos, go_sem, hP]
  refine callB_isQ (up (desk_pf p src 12 (by omega))) hP en_16 (by simp [go_sem]) (DeskQ_ex 12) ?_
  rintro r ⟨d, day, rfl, hg⟩ _
  have hd := hg.ok
  have id' := imm_desk d
  have hf := hd.fit
  have hday := hg.day
  rw [cDn] at id'
  simp -dsimp -implicitDefEqProofs [-getElem?_pos, go_sem, hP, cDn]
  refine callB_isQ (up (N_pf p src 4 (by omega))) hP en_18 (by simp [go_sem]) (N_exI _) ?_
  rintro r ⟨v, rfl, _, hv⟩ _
  have hv := hv (by omega)
  have wv := wrap_in (day + v) (by omega)
  simp -dsimp -implicitDefEqProofs [-getElem?_pos, go_sem, hP, wv]
  refine callB_is ((business_pf (day + v) (by omega)).lift _ _) hP en_17 (by simp [imm_sc]) .sc ?_
  have hbk := busI_ok (d := day + v) (by omega)
  have hnb := busI_ge (day + v)
  obtain ⟨nx, hnx⟩ : ∃ nx, nx = busI (day + v) := ⟨_, rfl⟩
  rw [← hnx] at hnb hbk ⊢
  have sd := rsend_pf d nx hf
  have rd := ready25_pf d.Queue nx hd.q.fit
  have sN := fun he => send_none hg (k := nx) (by omega) (by omega) hbk he
  have sS := fun (x : TDesk) (b : TBatch) (hx : sendD d nx = (x, b, 0)) => send_some hg (k := nx) (by omega) (by omega) hx
  have sOk := fun he => send_DOk (d := d) (day := nx) he
  obtain ⟨⟨x, b, e⟩, hxb⟩ : ∃ r, r = sendD d nx := ⟨_, rfl⟩
  rw [← hxb] at sd sN sS sOk
  simp only at sd sN sS sOk
  have ix := imm_desk x
  have ib := imm_bat b
  have iQ := imm_que d.Queue
  have iA := imm_acc d.Account
  rw [cDn] at ix
  rw [cBt] at ib
  rw [cDn, cDn, cBt] at sd
  rw [cQu] at rd iQ
  simp -dsimp -implicitDefEqProofs [-getElem?_pos, go_sem, hP]
  refine callB_is (sd.lift _ _) hP en_19 (by simpa [imm_sc] using id') (imm_trip ix ib .sc) ?_
  simp -dsimp -implicitDefEqProofs [-getElem?_pos, go_sem, hP]
  have irq := imm_pays (readyQ d.Queue nx)
  refine callB_is (rd.lift _ _) hP en_20 (by simp [imm_sc]; exact iQ) irq ?_
  obtain ⟨l, hl'⟩ : ∃ l, l = readyQ d.Queue nx := ⟨_, rfl⟩
  rw [← hl'] at sN ⊢
  have ll : l.length ≤ 12 := by
    have h1 := (readyQ_sub d.Queue nx).length_le
    have h2 := hg.waiting
    rw [hl']; omega
  by_cases c : e = 0
  rotate_left
  · obtain ⟨e10, hno⟩ := sN c
    subst e10
    simp -dsimp -implicitDefEqProofs [-getElem?_pos, go_sem, hP]
    obtain ⟨I, hI⟩ : ∃ I : Nat → St → Prop, I = fun m s => ∃ k : Nat, k ≤ l.length ∧ m = l.length - k ∧ s.t 4 = .ref 1 0 0 ∧ s.t 46 = paysL l ∧ s.t 47 = iv l.length ∧ s.t 48 = iv k ∧ s.H[1]? = some (some (deskO d)) := ⟨_, rfl⟩
    refine aloop0 I (l.length) (by rw [hN]; rfl) ?_ ?_
    · rw [hI]
      exact ⟨0, by omega, by omega, by simp -dsimp -implicitDefEqProofs [-getElem?_pos, go_sem], by simp -dsimp -implicitDefEqProofs [-getElem?_pos, go_sem], by simp -dsimp -implicitDefEqProofs [-getElem?_pos, go_sem], by simp -dsimp -implicitDefEqProofs [-getElem?_pos, go_sem], by simp -dsimp -implicitDefEqProofs [-getElem?_pos, go_sem]⟩
    intro m s hs'
    rw [hI] at hs'
    obtain ⟨k, hk, hm, t4, t46, t47, t48, h1⟩ := hs'
    subst hm
    have lt1 := (List.getElem?_eq_some_iff.1 h1).1
    simp -dsimp -implicitDefEqProofs [-getElem?_pos, go_sem, hP, t47, t48]
    refine condP (fun hh => ?_) (fun hh => ?_)
    rotate_left
    · simp -dsimp -implicitDefEqProofs [-getElem?_pos, go_sem, hP]
      refine saneB ?_
      simp -dsimp -implicitDefEqProofs [-getElem?_pos, go_sem, hP]
    have hk : k < l.length := by simpa using hh
    obtain ⟨y, hy⟩ : ∃ y, l[k]? = some y := ⟨_, List.getElem?_eq_getElem hk⟩
    have wk := wrap_in ((k : Int) + 1) (by omega)
    have hno := hno y (List.mem_of_getElem? hy)
    have bl := balance23_pf d.Account y.Sub hf.s hf.e
    obtain ⟨B, hB⟩ : ∃ B, B = balanceA d.Account y.Sub := ⟨_, rfl⟩
    rw [← hB] at bl hno
    have dn : decide (y.Amount ≤ B.1) = false := decide_eq_false (by omega)
    have dn' : ¬ y.Amount ≤ B.1 := by omega
    rw [cA] at bl iA
    have nx1 : ∀ z : Heap, (s.H ++ z)[1]? = some (some (deskO d)) := fun z => by rw [List.getElem?_append_left lt1]; exact h1
    simp -dsimp -implicitDefEqProofs [-getElem?_pos, go_sem, hP, t46, t48, hy, cPy, t4, nx1]
    refine callB_is (bl.lift _ _) hP en_21 (by simpa [imm_sc] using iA) (imm_pair .sc .sc) ?_
    simp -dsimp -implicitDefEqProofs [-getElem?_pos, go_sem, hP, dn, dn', t48, wk]
    refine ⟨l.length - (k + 1), by omega, ?_⟩
    rw [hI]
    exact ⟨k + 1, by omega, rfl, by simp -dsimp -implicitDefEqProofs [-getElem?_pos, go_sem, t4], by simp -dsimp -implicitDefEqProofs [-getElem?_pos, go_sem, t46], by simp -dsimp -implicitDefEqProofs [-getElem?_pos, go_sem, t47], by simp -dsimp -implicitDefEqProofs [-getElem?_pos, go_sem], by simp -dsimp -implicitDefEqProofs [-getElem?_pos, go_sem, nx1]⟩
  subst c
  obtain ⟨⟨b1, b10⟩, htot, hsw, hno⟩ := sS x b rfl
  have hdx := sOk rfl
  have t1 := total23_pf x.Account hdx.fit.s hdx.fit.e
  have t2 := total23_pf d.Account hf.s hf.e
  have sm := sum25_pf b.Payments (by omega)
  have iAx := imm_acc x.Account
  have iQx := imm_que x.Queue
  have ibp := imm_pays b.Payments
  have rdx := ready25_pf x.Queue nx hdx.q.fit
  have irx := imm_pays (readyQ x.Queue nx)
  rw [cA] at t1 t2 iA iAx
  rw [cQu] at rdx iQx
  have tb := total_bound hg (by omega)
  have wt := wrap_in (totalA d.Account - sumW b.Payments) (by omega)
  have n1 : ¬ b.Payments.length < 1 := by omega
  have n10 : ¬ 10 < b.Payments.length := by omega
  have c1 : decide ((b.Payments.length : Int) < 1) = false := decide_eq_false (by omega)
  have c10 : decide (10 < (b.Payments.length : Int)) = false := decide_eq_false (by omega)
  have c1' : ¬ (b.Payments.length : Int) < 1 := by omega
  have c10' : ¬ 10 < (b.Payments.length : Int) := by omega
  simp -dsimp -implicitDefEqProofs [-getElem?_pos, go_sem, hP]
  refine adrawB (fun _ => true) [] hP (by kernel_rfl) (by kernel_rfl) ?_
  simp -dsimp -implicitDefEqProofs [-getElem?_pos, go_sem, hP, restr_get, c1, c10, c1', c10', n1, n10]
  refine callB_is (t1.lift _ _) hP en_22 (by simpa using iAx) .sc ?_
  simp -dsimp -implicitDefEqProofs [-getElem?_pos, go_sem, hP, restr_get]
  refine callB_is (t2.lift _ _) hP en_22 (by simpa using iA) .sc ?_
  simp -dsimp -implicitDefEqProofs [-getElem?_pos, go_sem, hP, restr_get]
  refine callB_is (sm.lift _ _) hP en_23 (by simpa using ibp) .sc ?_
  simp -dsimp -implicitDefEqProofs [-getElem?_pos, go_sem, hP, restr_get, wt, htot]
  refine callB_is (rdx.lift _ _) hP en_20 (by simp [imm_sc]; exact iQx) irx ?_
  obtain ⟨r, hr'⟩ : ∃ r, r = readyQ x.Queue nx := ⟨_, rfl⟩
  rw [← hr'] at hno ⊢
  have lr : r.length ≤ 100000 := by
    have h1 := (readyQ_sub x.Queue nx).length_le
    have h2 := hdx.q.lw
    rw [hr']; omega
  obtain ⟨T, hT⟩ : ∃ T, T = b.Payments := ⟨_, rfl⟩
  simp -dsimp -implicitDefEqProofs [-getElem?_pos, go_sem, hP]
  obtain ⟨I, hI⟩ : ∃ I : Nat → St → Prop, I = fun m s => ∃ k : Nat, k ≤ r.length ∧ m = r.length - k ∧ s.t 7 = .ref 2 0 0 ∧ s.t 8 = .ref 3 0 0 ∧ s.t 92 = paysL r ∧ s.t 93 = iv r.length ∧ s.t 94 = iv k ∧ s.H[2]? = some (some (deskO x)) ∧ s.H[3]? = some (some ⟨55, 3, [[iv b.Number, iv b.Day, paysL b.Payments]]⟩) := ⟨_, rfl⟩
  refine aloop0 I (r.length) (by rw [hN]; rfl) ?_ ?_
  · rw [hI]
    exact ⟨0, by omega, by omega, by simp -dsimp -implicitDefEqProofs [-getElem?_pos, go_sem], by simp -dsimp -implicitDefEqProofs [-getElem?_pos, go_sem], by simp -dsimp -implicitDefEqProofs [-getElem?_pos, go_sem], by simp -dsimp -implicitDefEqProofs [-getElem?_pos, go_sem], by simp -dsimp -implicitDefEqProofs [-getElem?_pos, go_sem], by simp -dsimp -implicitDefEqProofs [-getElem?_pos, go_sem], by simp -dsimp -implicitDefEqProofs [-getElem?_pos, go_sem]⟩
  intro m s hs'
  rw [hI] at hs'
  obtain ⟨k, hk, hm, t7, t8, t92, t93, t94, h2, h3⟩ := hs'
  subst hm
  have lt2 := (List.getElem?_eq_some_iff.1 h2).1
  have lt3 := (List.getElem?_eq_some_iff.1 h3).1
  simp -dsimp -implicitDefEqProofs [-getElem?_pos, go_sem, hP, t93, t94]
  refine condP (fun hh => ?_) (fun hh => ?_)
  rotate_left
  · simp -dsimp -implicitDefEqProofs [-getElem?_pos, go_sem, hP]
    refine saneB ?_
    simp -dsimp -implicitDefEqProofs [-getElem?_pos, go_sem, hP]
  have hk : k < r.length := by simpa using hh
  obtain ⟨y, hy⟩ : ∃ y, r[k]? = some y := ⟨_, List.getElem?_eq_getElem hk⟩
  have wk := wrap_in ((k : Int) + 1) (by omega)
  have hno := hno y (List.mem_of_getElem? hy)
  have bl := balance23_pf x.Account y.Sub hdx.fit.s hdx.fit.e
  have hcr := (check_ok hdx.a).2.2.1
  have hbb := bal_bound hdx.a y.Sub
  obtain ⟨B, hB⟩ : ∃ B, B = balanceA x.Account y.Sub := ⟨_, rfl⟩
  rw [← hB] at bl hno hbb
  rw [cA] at bl
  have nx2 : ∀ z : Heap, (s.H ++ z)[2]? = some (some (deskO x)) := fun z => by rw [List.getElem?_append_left lt2]; exact h2
  have nx3 : ∀ z : Heap, (s.H ++ z)[3]? = some (some ⟨55, 3, [[iv b.Number, iv b.Day, paysL b.Payments]]⟩) := fun z => by rw [List.getElem?_append_left lt3]; exact h3
  have wc := wrap_in (B.1 + x.Account.Credit) (by omega)
  have fin : ∀ s' : St, s'.t 7 = .ref 2 0 0 → s'.t 8 = .ref 3 0 0 → s'.t 92 = paysL r → s'.t 93 = iv r.length → s'.t 94 = iv (k + 1) → (∃ z, s'.H = s.H ++ z) → ∃ m', m' < r.length - k ∧ I m' s' := fun s' a1 a2 a3 a4 a5 ⟨z, hz⟩ => by
    refine ⟨r.length - (k + 1), by omega, ?_⟩
    rw [hI]
    exact ⟨k + 1, by omega, rfl, a1, a2, a3, a4, a5, by rw [hz]; exact nx2 z, by rw [hz]; exact nx3 z⟩
  simp -dsimp -implicitDefEqProofs [-getElem?_pos, go_sem, hP, t92, t94, hy, cPy, t7, nx2]
  refine callB_is (bl.lift _ _) hP en_21 (by simpa [imm_sc] using iAx) (imm_pair .sc .sc) ?_
  by_cases c : y.Sub = 1
  · rw [limC, if_pos c] at hno
    by_cases c2 : b.Payments.length < 10
    · have hno := hno c2
      have dn : decide (y.Amount ≤ B.1 + x.Account.Credit) = false := decide_eq_false (by omega)
      have dn' : ¬ y.Amount ≤ B.1 + x.Account.Credit := by omega
      simp -dsimp -implicitDefEqProofs [-getElem?_pos, go_sem, hP, c, t7, nx2, wc, dn, dn', t94, wk]
      exact fin _ (by simp -dsimp -implicitDefEqProofs [-getElem?_pos, go_sem, t7]) (by simp -dsimp -implicitDefEqProofs [-getElem?_pos, go_sem, t8]) (by simp -dsimp -implicitDefEqProofs [-getElem?_pos, go_sem, t92]) (by simp -dsimp -implicitDefEqProofs [-getElem?_pos, go_sem, t93]) (by simp -dsimp -implicitDefEqProofs [-getElem?_pos, go_sem]) ⟨_, rfl⟩
    · have d2 : decide ((b.Payments.length : Int) < 10) = false := decide_eq_false (by omega)
      have d2' : ¬ (b.Payments.length : Int) < 10 := by omega
      by_cases c3 : y.Amount ≤ B.1 + x.Account.Credit
      · have d3 := decide_eq_true c3
        simp -dsimp -implicitDefEqProofs [-getElem?_pos, go_sem, hP, c, t7, t8, nx2, nx3, wc, c3, d3, d2, d2', c2, t94, wk]
        exact fin _ (by simp -dsimp -implicitDefEqProofs [-getElem?_pos, go_sem, t7]) (by simp -dsimp -implicitDefEqProofs [-getElem?_pos, go_sem, t8]) (by simp -dsimp -implicitDefEqProofs [-getElem?_pos, go_sem, t92]) (by simp -dsimp -implicitDefEqProofs [-getElem?_pos, go_sem, t93]) (by simp -dsimp -implicitDefEqProofs [-getElem?_pos, go_sem]) ⟨_, rfl⟩
      · have d3 := decide_eq_false c3
        simp -dsimp -implicitDefEqProofs [-getElem?_pos, go_sem, hP, c, t7, t8, nx2, nx3, wc, c3, d3, d2, d2', c2, t94, wk]
        exact fin _ (by simp -dsimp -implicitDefEqProofs [-getElem?_pos, go_sem, t7]) (by simp -dsimp -implicitDefEqProofs [-getElem?_pos, go_sem, t8]) (by simp -dsimp -implicitDefEqProofs [-getElem?_pos, go_sem, t92]) (by simp -dsimp -implicitDefEqProofs [-getElem?_pos, go_sem, t93]) (by simp -dsimp -implicitDefEqProofs [-getElem?_pos, go_sem]) ⟨_, rfl⟩
  · rw [limC, if_neg c, Int.add_zero] at hno
    have d1 := decide_eq_false c
    by_cases c2 : b.Payments.length < 10
    · have hno := hno c2
      have dn : decide (y.Amount ≤ B.1) = false := decide_eq_false (by omega)
      have dn' : ¬ y.Amount ≤ B.1 := by omega
      simp -dsimp -implicitDefEqProofs [-getElem?_pos, go_sem, hP, c, d1, t7, nx2, dn, dn', t94, wk]
      exact fin _ (by simp -dsimp -implicitDefEqProofs [-getElem?_pos, go_sem, t7]) (by simp -dsimp -implicitDefEqProofs [-getElem?_pos, go_sem, t8]) (by simp -dsimp -implicitDefEqProofs [-getElem?_pos, go_sem, t92]) (by simp -dsimp -implicitDefEqProofs [-getElem?_pos, go_sem, t93]) (by simp -dsimp -implicitDefEqProofs [-getElem?_pos, go_sem]) ⟨_, rfl⟩
    · have d2 : decide ((b.Payments.length : Int) < 10) = false := decide_eq_false (by omega)
      have d2' : ¬ (b.Payments.length : Int) < 10 := by omega
      by_cases c3 : y.Amount ≤ B.1
      · have d3 := decide_eq_true c3
        simp -dsimp -implicitDefEqProofs [-getElem?_pos, go_sem, hP, c, d1, t7, t8, nx2, nx3, c3, d3, d2, d2', c2, t94, wk]
        exact fin _ (by simp -dsimp -implicitDefEqProofs [-getElem?_pos, go_sem, t7]) (by simp -dsimp -implicitDefEqProofs [-getElem?_pos, go_sem, t8]) (by simp -dsimp -implicitDefEqProofs [-getElem?_pos, go_sem, t92]) (by simp -dsimp -implicitDefEqProofs [-getElem?_pos, go_sem, t93]) (by simp -dsimp -implicitDefEqProofs [-getElem?_pos, go_sem]) ⟨_, rfl⟩
      · have d3 := decide_eq_false c3
        simp -dsimp -implicitDefEqProofs [-getElem?_pos, go_sem, hP, c, d1, t7, t8, nx2, nx3, c3, d3, d2, d2', c2, t94, wk]
        exact fin _ (by simp -dsimp -implicitDefEqProofs [-getElem?_pos, go_sem, t7]) (by simp -dsimp -implicitDefEqProofs [-getElem?_pos, go_sem, t8]) (by simp -dsimp -implicitDefEqProofs [-getElem?_pos, go_sem, t92]) (by simp -dsimp -implicitDefEqProofs [-getElem?_pos, go_sem, t93]) (by simp -dsimp -implicitDefEqProofs [-getElem?_pos, go_sem]) ⟨_, rfl⟩
end Go.Proofs.YtmpncdlhmknkoaaGreat
