/- Several texts of this claim, joined: RecSane Law26a Law26e. -/
import Derived.Test.YtmpncdlhmknkoaaGreatPk8
set_option linter.unusedSimpArgs false
set_option linter.unusedVariables false
namespace Go.Proofs.YtmpncdlhmknkoaaGreat
open Go.PA
open Go.RowKit
def fA0 : TAccount := newA [1] 0
def fE : TEntry := ⟨1, 0, 0, 1, 100, 0⟩
def fA : TAccount := ⟨0, [⟨1, 100⟩], [fE]⟩
theorem f_open : openA [1] 0 = (fA0, 0) := by kernel_rfl
theorem f_next : nextE fA0 0 0 1 100 0 = fE := by kernel_rfl
theorem f_post : postA fA0 fE = (fA, 0) := by kernel_rfl
theorem funds_pf : PFun Tryz.prog none none 25 [] (· = .agg fA.cells) := by
  refine pfun_intro Tryz.func25 rfl (by simp [Tryz.f25]) (by kernel_rfl) ?_
  intro E hP hr hs hW hN
  have op := open23_pf [1] 0 (by simp)
  rw [f_open] at op
  have nx := next23_pf fA0 0 0 1 100 0 (by simp [fA0, newA])
  rw [f_next] at nx
  have po := post23_pf fA0 fE (by simp [fA0, newA, newS]) (by simp [fA0, newA])
  rw [f_post] at po
  have i0 := imm_acc fA0
  have i1 := imm_acc fA
  have ie := imm_ent fE
  simp only [cA] at op nx po i0 i1
  have op : PFun Tryz.prog none none 48 [.list 1 [[iv 1]], iv 0] (· = .tup [.agg [iv fA0.Credit, subsL fA0.Subs, entsL fA0.Entries], iv 0]) := op
  simp -dsimp -implicitDefEqProofs [-getElem?_pos, go_sem, hP]
  refine callB_is (op.lift _ _) hP en_48 (by simp [imm_sc, imm_list]) (imm_pair i0 .sc) ?_
  simp -dsimp -implicitDefEqProofs [-getElem?_pos, go_sem, hP]
  refine adrawQ (fun i => decide (i < 2)) [7] [2, 3] hP (by kernel_rfl) (by kernel_rfl) ?_
  simp -dsimp -implicitDefEqProofs [-getElem?_pos, go_sem, hP]
  refine callQ_is (nx.lift _ _) hP en_51 (by simpa [imm_sc] using i0) ie ?_
  simp -dsimp -implicitDefEqProofs [-getElem?_pos, go_sem, hP]
  refine callQ_is (po.lift _ _) hP en_50 (by simpa using ⟨i0, ie⟩) (imm_pair i1 .sc) ?_
  simp -dsimp -implicitDefEqProofs [-getElem?_pos, go_sem, hP]
  exact done_imm i1 rfl
def sPay : TPayment := ⟨5, 1, 60, 0, 1⟩
def sD0 : TDesk := (openD fA).1
def sD1 : TDesk := (orderD sD0 sPay).1
def sD2 : TDesk := (sendD sD1 0).1
def sD3 : TDesk := (returnD sD2 5 1).1
def sD4 : TDesk := (againD sD3 5 1).1
def sD5 : TDesk := (sendD sD4 2).1
theorem s_0 : (openD fA).2 = 0 := by kernel_rfl
theorem s_1 : (orderD sD0 sPay).2 = 0 := by kernel_rfl
theorem s_2 : (sendD sD1 0).2.2 = 0 := by kernel_rfl
theorem s_3 : (returnD sD2 5 1).2 = 0 := by kernel_rfl
theorem s_4 : (againD sD3 5 1).2 = 0 := by kernel_rfl
theorem s_5 : (sendD sD4 2).2.2 = 0 := by kernel_rfl
theorem s_len : sD5.Items.length = 1 := by kernel_rfl
theorem s_att : (sD5.Items[0]?).map (·.Attempts) = some 2 := by kernel_rfl
theorem s_ents : sD5.Account.Entries.length = 4 := by kernel_rfl
theorem s_state : stateD sD5 5 = 2 := by kernel_rfl
theorem s_ok0 : DOk sD0 := by
  have h := openD_ok s_0
  rw [sD0, h.1]
  exact h.2.2.2
theorem s_ok1 : DOk sD1 := (orderD_ok (x := sD1) (p := sPay) (d := sD0) (Prod.ext rfl s_1)).2.2.2.2
theorem send_DOk {d : TDesk} {day : Int} (h : (sendD d day).2.2 = 0) : DOk (sendD d day).1 := by
  obtain ⟨_, _, _, _, ps, a, _, _, _, _, _, _, _, _, h⟩ := sendD_ok (x := (sendD d day).1) (b := (sendD d day).2.1) (d := d) (day := day) (Prod.ext rfl (Prod.ext rfl h))
  exact h
theorem s_ok2 : DOk sD2 := send_DOk s_2
theorem s_ok3 : DOk sD3 := (returnD_ok (x := sD3) (d := sD2) (w := 5) (day := 1) (Prod.ext rfl s_3)).2.2
theorem s_ok4 : DOk sD4 := (againD_ok (x := sD4) (d := sD3) (w := 5) (due := 1) (Prod.ext rfl s_4)).2.2
theorem s_ok5 : DOk sD5 := send_DOk s_5
set_option maxHeartbeats 1000000 in
theorem sane26_pf : PFun Tryz.prog none none 15 [] (· = bv true) := by
  refine pfun_intro Tryz.func15 rfl (by simp [Tryz.f15]) (by kernel_rfl) ?_
  intro E hP hr hs hW hN
  have fu := funds_pf
  have op := ropen_pf fA (by simp [fA]) (by simp [fA])
  have o1 := rorder_pf sD0 sPay s_ok0.fit
  have o2 := rsend_pf sD1 0 s_ok1.fit
  have o3 := rreturn_pf sD2 5 1 s_ok2.fit
  have o4 := ragain_pf sD3 5 1 s_ok3.fit
  have o5 := rsend_pf sD4 2 s_ok4.fit
  have o6 := rstate_pf sD5 5 s_ok5.fit
  rw [s_0, ← sD0] at op
  rw [s_1, ← sD1] at o1
  rw [s_2, ← sD2] at o2
  rw [s_3, ← sD3] at o3
  rw [s_4, ← sD4] at o4
  rw [s_5, ← sD5] at o5
  rw [s_state] at o6
  have ifa := imm_acc fA
  have i0 := imm_desk sD0
  have i1 := imm_desk sD1
  have i2 := imm_desk sD2
  have i3 := imm_desk sD3
  have i4 := imm_desk sD4
  have i5 := imm_desk sD5
  have ip := imm_pay sPay
  have eP : sPay.cells = [iv 5, iv 1, iv 60, iv 0, iv 1] := rfl
  have ib2 := imm_bat (sendD sD1 0).2.1
  have ib5 := imm_bat (sendD sD4 2).2.1
  obtain ⟨b2, hb2⟩ : ∃ b, b = (sendD sD1 0).2.1 := ⟨_, rfl⟩
  obtain ⟨b5, hb5⟩ : ∃ b, b = (sendD sD4 2).2.1 := ⟨_, rfl⟩
  rw [← hb2] at o2 ib2
  rw [← hb5] at o5 ib5
  have sl := s_len
  have se := s_ents
  obtain ⟨x, hx, hxa⟩ : ∃ x, sD5.Items[0]? = some x ∧ x.Attempts = 2 := by
    have := s_att
    cases h : sD5.Items[0]? with
    | none => rw [h] at this; cases this
    | some x => rw [h] at this; exact ⟨x, rfl, Option.some.inj this⟩
  generalize sD0 = D0 at *
  generalize sD1 = D1 at *
  generalize sD2 = D2 at *
  generalize sD3 = D3 at *
  generalize sD4 = D4 at *
  generalize sD5 = D5 at *
  simp only [cA, cDn, cBt, eP] at fu op o1 o2 o3 o4 o5 o6 ifa i0 i1 i2 i3 i4 i5 ip ib2 ib5
  simp -dsimp -implicitDefEqProofs [-getElem?_pos, go_sem, hP]
  refine callB_is (fu.lift _ _) hP en_25 (by simp) ifa ?_
  simp -dsimp -implicitDefEqProofs [-getElem?_pos, go_sem, hP]
  refine callB_is (op.lift _ _) hP en_24 (by simpa using ifa) (imm_pair i0 .sc) ?_
  simp -dsimp -implicitDefEqProofs [-getElem?_pos, go_sem, hP]
  refine callB_is (o1.lift _ _) hP en_27 (by simpa using ⟨i0, ip⟩) (imm_pair i1 .sc) ?_
  simp -dsimp -implicitDefEqProofs [-getElem?_pos, go_sem, hP]
  refine callB_is (o2.lift _ _) hP en_19 (by simpa [imm_sc] using i1) (imm_trip i2 ib2 .sc) ?_
  simp -dsimp -implicitDefEqProofs [-getElem?_pos, go_sem, hP]
  refine callB_is (o3.lift _ _) hP en_28 (by simpa [imm_sc] using i2) (imm_pair i3 .sc) ?_
  simp -dsimp -implicitDefEqProofs [-getElem?_pos, go_sem, hP]
  refine callB_is (o4.lift _ _) hP en_29 (by simpa [imm_sc] using i3) (imm_pair i4 .sc) ?_
  simp -dsimp -implicitDefEqProofs [-getElem?_pos, go_sem, hP]
  refine callB_is (o5.lift _ _) hP en_19 (by simpa [imm_sc] using i4) (imm_trip i5 ib5 .sc) ?_
  simp -dsimp -implicitDefEqProofs [-getElem?_pos, go_sem, hP, sl, se, hx, cIt, hxa]
  refine callB_is (o6.lift _ _) hP en_14 (by simpa [imm_sc] using i5) .sc ?_
  simp -dsimp -implicitDefEqProofs [-getElem?_pos, go_sem, hP]
open Go.PA
open Go.RowKit
open Go.PA
open Go.RowKit
theorem post_in {a : TAccount} (h : checkA a = 0) (hl : a.Entries.length < 400) (h0 : (0 : Int) ∉ ids a.Subs) {day sub amt w : Int} (hd : (lastE a).Day ≤ day ∧ day ≤ 36000) (hs : sub ∈ ids a.Subs) (hn : 1 ≤ sub) (ha : 1 ≤ amt ∧ amt ≤ 1000000000000) (hw : 0 ≤ w ∧ w ≤ 1000000) (hb : ∀ s, s ∈ a.Subs → s.Balance ≤ 1000000000) : (postA a (nextE a day 0 sub amt w)).2 = 0 := by
  obtain ⟨k1, k2, k3, k4⟩ := check_keeps h
  have hr := wrap_in ((lastE a).Number + 1) (by omega)
  have e1 : badNum (lastE a).Number (nextE a day 0 sub amt w) = false := by simp [badNum, nextE, hr]
  have e2 : badDay (lastE a).Day (nextE a day 0 sub amt w) = false := by
    rw [badDay, Bool.not_eq_false', amongB_iff]
    exact hd
  have e3 : badAmt (nextE a day 0 sub amt w) = false := by
    have a1 : vB (nextE a day 0 sub amt w).Amount = true := amongB_iff.2 ⟨by simp only [nextE]; omega, ha.2⟩
    have a2 : amongB (nextE a day 0 sub amt w).Ref 0 1000000 = true := amongB_iff.2 hw
    have a3 : decide (0 < (nextE a day 0 sub amt w).Amount) = true := decide_eq_true (by simp only [nextE]; omega)
    rw [badAmt, a1, a2, a3]
    rfl
  have e4 : badSub a.Subs (nextE a day 0 sub amt w) = false := by
    have a1 : knownB a.Subs (nextE a day 0 sub amt w).From = true := (knownB_iff _ _).2 (.inl rfl)
    have a2 : knownB a.Subs (nextE a day 0 sub amt w).To = true := (knownB_iff _ _).2 (.inr hs)
    have a3 : decide ((nextE a day 0 sub amt w).From = (nextE a day 0 sub amt w).To) = false := decide_eq_false (by simp only [nextE]; omega)
    rw [badSub, a1, a2, a3]
    rfl
  have e5 : okAt a.Credit (adj a.Subs (nextE a day 0 sub amt w).From (-(nextE a day 0 sub amt w).Amount)) (nextE a day 0 sub amt w).From = true := okAt_none (by rw [adj_ids]; exact h0)
  have e6 : okAt a.Credit (adj (adj a.Subs (nextE a day 0 sub amt w).From (-(nextE a day 0 sub amt w).Amount)) (nextE a day 0 sub amt w).To (nextE a day 0 sub amt w).Amount) (nextE a day 0 sub amt w).To = true := by
    have : adj a.Subs (nextE a day 0 sub amt w).From (-(nextE a day 0 sub amt w).Amount) = a.Subs := adj_none h0
    rw [this]
    refine List.all_eq_true.2 fun s hs => ?_
    obtain ⟨t, ht, rfl⟩ := List.mem_map.1 hs
    have b1 := List.all_eq_true.1 k1 t ht
    have b2 := hb t ht
    simp only [okSub, Bool.and_eq_true, decide_eq_true_eq] at b1
    by_cases c : t.ID = (nextE a day 0 sub amt w).To
    · rw [if_pos c]
      simp only [okSub, Bool.or_eq_true, Bool.and_eq_true, decide_eq_true_eq]
      refine .inr ?_
      have : (nextE a day 0 sub amt w).Amount = amt := rfl
      rw [this]
      split at b1 <;> rename_i c1
      · rw [if_pos c1]; omega
      · rw [if_neg c1]; omega
    · rw [if_neg c]
      simp [c]
  have e : (postS a.Credit (lastE a).Number (lastE a).Day a.Subs (nextE a day 0 sub amt w)).1 = 0 := by
    rw [postS, if_neg (by rw [e1]; simp), if_neg (by rw [e2]; simp), if_neg (by rw [e3]; simp), if_neg (by rw [e4]; simp), if_neg (by rw [e5]; simp), if_neg (by rw [e6]; simp)]
  rw [postA, if_pos h, if_neg (by omega), if_pos e]
theorem GenD.bal {n : Nat} {d : TDesk} {day : Int} (h : GenD n d day) (hn : n ≤ 1000) : ∀ s, s ∈ d.Account.Subs → s.Balance ≤ 1000000000 := fun s hs => by
  rw [check_net h.ok.a] at hs
  obtain ⟨i, _, rfl⟩ := List.mem_map.1 hs
  have := netE_small i d.Account.Entries fun e he => ⟨(check_mem h.ok.a e he).1, h.small e he⟩
  have := h.len
  dsimp only
  omega
section
variable {n : Nat} {d : TDesk} {day : Int} {k : Nat} {x : TItem}
theorem st_recall (h : GenD n d day) (hx : d.Items[k]? = some x) : (recallD d x.Payment.Warrant).2 = 0 ↔ x.State = 1 := by
  have hc := checkD_iff.2 h.ok
  have io := h.ok.io (List.mem_of_getElem? hx)
  rw [recallD, changeD_at hc hx]
  by_cases c : x.State = 1
  · have hw : ¬ waitQ d.Queue x.Payment.Warrant < 0 := fun hw => by
      rcases io.w with ⟨_, e⟩ | ⟨e, _⟩
      · exact waitQ_none.1 hw _ e rfl
      · exact e c
    have : (recallF x.Payment.Warrant d x).e = 0 := by
      show (dropQ d.Queue x.Payment.Warrant).2 = 0
      rw [dropQ, if_pos (checkQ_iff.2 h.ok.q), if_neg hw]
    simp [c, this]
  · simp [c]
theorem st_settle (h : GenD n d day) (hx : d.Items[k]? = some x) : (settleD d x.Payment.Warrant).2 = 0 ↔ x.State = 2 := by
  have hc := checkD_iff.2 h.ok
  rw [settleD, changeD_at hc hx]
  by_cases c : x.State = 2
  · simp [c, settleF]
  · simp [c]
theorem st_return (h : GenD n d day) (hn : n ≤ 30) (hx : d.Items[k]? = some x) : (returnD d x.Payment.Warrant day).2 = 0 ↔ x.State = 2 := by
  have hc := checkD_iff.2 h.ok
  have io := h.ok.io (List.mem_of_getElem? hx)
  rw [returnD, changeD_at hc hx]
  by_cases c : x.State = 2
  · have : (returnF x.Payment.Warrant day d x).e = 0 := by
      refine post_in h.ok.a (by have := h.len; omega) (by rw [h.ids]; simp) ⟨h.lastA, by have := h.day; omega⟩ io.sub.2 io.pay.sub.1 io.pay.amount ⟨by have := io.pay.warrant; omega, io.pay.warrant.2⟩ (h.bal (by omega))
    simp [c, this]
  · simp [c]
theorem st_again (h : GenD n d day) (hn : n ≤ 30) (hx : d.Items[k]? = some x) : (againD d x.Payment.Warrant day).2 = 0 ↔ x.State = 4 ∧ x.Attempts < 5 := by
  have hc := checkD_iff.2 h.ok
  have hm := List.mem_of_getElem? hx
  have io := h.ok.io hm
  have hd := h.day
  rw [againD, changeD_at hc hx]
  by_cases c : x.State = 4
  · by_cases c5 : x.Attempts = 5
    · simp [c, c5, againF]
    · have hw : waitQ d.Queue x.Payment.Warrant < 0 := waitQ_none.2 (by
        rcases io.w with ⟨e, _⟩ | ⟨_, e⟩
        · omega
        · exact e)
      have hp : payB (duePay x.Payment day) = true := (payB_iff _).2 ⟨io.pay.warrant, io.pay.payee, io.pay.amount, ⟨hd.1, by simp only [duePay]; omega⟩, io.pay.sub⟩
      have hk : (duePay x.Payment day).Warrant ∈ d.Queue.Known := item_known h.ok hm
      have hw : ¬ 0 ≤ waitQ d.Queue (duePay x.Payment day).Warrant := fun e => by
        have e : 0 ≤ waitQ d.Queue x.Payment.Warrant := e
        omega
      have : (againF day d x).e = 0 := by
        rw [againF, if_neg c5]
        show (againQ d.Queue (duePay x.Payment day)).2 = 0
        rw [againQ, if_pos (checkQ_iff.2 h.ok.q), if_pos hp, if_pos hk, if_neg hw, if_neg (by have := h.waiting; omega)]
      have ha : x.Attempts < 5 := by have := io.att; omega
      simp [c, this, ha]
  · simp [c]
theorem st_order (h : GenD n d day) (hx : x ∈ d.Items) : (orderD d x.Payment).2 = 65 := by
  have io := h.ok.io hx
  have : (addQ d.Queue x.Payment).2 = 65 := by rw [addQ, if_pos (checkQ_iff.2 h.ok.q), if_pos ((payB_iff _).2 io.pay), if_pos (item_known h.ok hx)]
  rw [orderD, if_pos (checkD_iff.2 h.ok), if_neg (by rw [this]; decide), this]
end
set_option maxHeartbeats 8000000 in
theorem stages26_pf (xs : List Int) (hx : Small xs) (hl : xs.length ≤ 9223372036854775807) : PFun Tryz.prog none none 7 [intsL xs] (· = bv true) := by
  refine pfun_introA Tryz.func7 rfl (by simp [Tryz.f7]) ?_
  intro E hP hr hs hW hN
  refine awp_cut (by rw [hN]; kernel_rfl) ?_
  simp [go_sem, hP]
  refine awp_cut (by rw [hN]; kernel_rfl) ?_
  simp [go_sem, hP]
  have hnew : POwn Tryz.prog E.row E.src 9 [intsL xs] 81 2 (· = [[intsL (xs.take 900), iv 0]]) := by rw [hr, hs]; exact new_pf xs hl
  refine callB_own hnew hP en_9 (args_same (by simp [go_sem, intsL])) (by simp [srefs_imm, go_sem, intsL]) ⟨_, rfl⟩ ?_
  rintro es rfl
  simp [go_sem, hP]
  refine awp_adopt 3 (ty := 81) (xs := xs.take 900) (at_ := 0) hr hs hW (by simp [go_sem]) (by simp [go_sem, intsL]) (by omega) (by simp; omega) (fun x hx' => hx x (List.mem_of_mem_take hx')) (by rw [hN]; kernel_rfl) ?_
  intro E' p hP' hr' hN' hW'
  rw [hP] at hP'
  rw [hN] at hN'
  clear hnew hP hr hs hW hN E
  rename Env => E
  rename E.P = _ => hP
  rename E.row = _ => hr
  rename E.N = _ => hN
  rename (∀ b, ¬ E.W b) => hW
  obtain ⟨src, hs⟩ : ∃ src, E.src = src := ⟨_, rfl⟩
  have up : ∀ {f : FuncId} {args : List AV} {Q : AV → Prop}, PFun Tryz.prog (some p) src f args Q → PFun Tryz.prog E.row E.src f args Q := fun h => hr ▸ hs ▸ h
  have saneB : ∀ {H : Heap} {C : AV → Heap → Prop} {b : Bx C}, C (bv true) H → CallB E 15 [] H C b := fun h => callB_pure sane26_pf hP en_15 (args_nil.2 trivial) .sc h
  simp -dsimp -implicitDefEqProofs [-getElem?_pos, go_sem, hP]
  refine callB_isQ (up (desk_pf p src 14 (by omega))) hP en_16 (by simp [go_sem]) (DeskQ_ex 14) ?_
  rintro r ⟨d, day, rfl, hg⟩ _
  have hd := hg.ok
  have id' := imm_desk d
  have hf := hd.fit
  obtain ⟨l, hl'⟩ : ∃ l, l = d.Items := ⟨_, rfl⟩
  obtain ⟨D, hD⟩ : ∃ D, D = deskO d := ⟨_, rfl⟩
  have li : l.length ≤ 12 := by
    have h1 := congrArg List.length hd.k
    have := hg.known
    rw [List.length_map] at h1
    rw [hl', h1]; exact this
  rw [cDn] at id'
  simp -dsimp -implicitDefEqProofs [-getElem?_pos, go_sem, hP, cDn, ← hl']
  obtain ⟨I, hI⟩ : ∃ I : Nat → St → Prop, I = fun m s => ∃ k : Nat, k ≤ l.length ∧ m = l.length - k ∧ s.t 3 = sp p ∧ s.t 4 = .ref 1 0 0 ∧ s.t 5 = iv day ∧ s.t 27 = itemsL l ∧ s.t 28 = iv l.length ∧ s.t 29 = iv k ∧ s.H[1]? = some (some (deskO d)) := ⟨_, rfl⟩
  refine aloop0 I (l.length) (by rw [hN]; rfl) ?_ ?_
  · rw [hI]
    exact ⟨0, by omega, by omega, by simp -dsimp -implicitDefEqProofs [-getElem?_pos, go_sem], by simp -dsimp -implicitDefEqProofs [-getElem?_pos, go_sem], by simp -dsimp -implicitDefEqProofs [-getElem?_pos, go_sem], by simp -dsimp -implicitDefEqProofs [-getElem?_pos, go_sem], by simp -dsimp -implicitDefEqProofs [-getElem?_pos, go_sem], by simp -dsimp -implicitDefEqProofs [-getElem?_pos, go_sem], (by simp -dsimp -implicitDefEqProofs [-getElem?_pos, go_sem]; rw [hl'])⟩
  intro m s hs'
  rw [hI] at hs'
  obtain ⟨k, hk, hm, t3, t4, t5, t27, t28, t29, h1⟩ := hs'
  subst hm
  have lt1 := (List.getElem?_eq_some_iff.1 h1).1
  simp -dsimp -implicitDefEqProofs [-getElem?_pos, go_sem, hP, t28, t29]
  refine condP (fun hh => ?_) (fun hh => ?_)
  rotate_left
  · simp -dsimp -implicitDefEqProofs [-getElem?_pos, go_sem, hP]
    refine saneB ?_
    simp -dsimp -implicitDefEqProofs [-getElem?_pos, go_sem, hP]
  have hk : k < l.length := by simpa using hh
  obtain ⟨y, hy⟩ : ∃ y, l[k]? = some y := ⟨_, List.getElem?_eq_getElem hk⟩
  have hyd : d.Items[k]? = some y := by rw [← hl']; exact hy
  have wk := wrap_in ((k : Int) + 1) (by omega)
  have r1 := rrecall_pf d y.Payment.Warrant hf
  have r2 := rsettle_pf d y.Payment.Warrant hf
  have r3 := rreturn_pf d y.Payment.Warrant day hf
  have r4 := ragain_pf d y.Payment.Warrant day hf
  have r5 := rorder_pf d y.Payment hf
  have q1 := st_recall hg hyd
  have q2 := st_settle hg hyd
  have q3 := st_return hg (by omega) hyd
  have q4 := st_again hg (by omega) hyd
  have q5 := st_order hg (List.mem_of_getElem? hyd)
  obtain ⟨X1, h1'⟩ : ∃ X, X = (recallD d y.Payment.Warrant).1 := ⟨_, rfl⟩
  obtain ⟨X2, h2'⟩ : ∃ X, X = (settleD d y.Payment.Warrant).1 := ⟨_, rfl⟩
  obtain ⟨X3, h3'⟩ : ∃ X, X = (returnD d y.Payment.Warrant day).1 := ⟨_, rfl⟩
  obtain ⟨X4, h4'⟩ : ∃ X, X = (againD d y.Payment.Warrant day).1 := ⟨_, rfl⟩
  obtain ⟨X5, h5'⟩ : ∃ X, X = (orderD d y.Payment).1 := ⟨_, rfl⟩
  obtain ⟨e1, h1e⟩ : ∃ X, X = (recallD d y.Payment.Warrant).2 := ⟨_, rfl⟩
  obtain ⟨e2, h2e⟩ : ∃ X, X = (settleD d y.Payment.Warrant).2 := ⟨_, rfl⟩
  obtain ⟨e3, h3e⟩ : ∃ X, X = (returnD d y.Payment.Warrant day).2 := ⟨_, rfl⟩
  obtain ⟨e4, h4e⟩ : ∃ X, X = (againD d y.Payment.Warrant day).2 := ⟨_, rfl⟩
  rw [← h1', ← h1e, cDn, cDn] at r1
  rw [← h2', ← h2e, cDn, cDn] at r2
  rw [← h3', ← h3e, cDn, cDn] at r3
  rw [← h4', ← h4e, cDn, cDn] at r4
  rw [← h5', q5, cDn, cDn, cPy] at r5
  rw [← h1e] at q1
  rw [← h2e] at q2
  rw [← h3e] at q3
  rw [← h4e] at q4
  have i1 := imm_desk X1
  have i2 := imm_desk X2
  have i3 := imm_desk X3
  have i4 := imm_desk X4
  have i5 := imm_desk X5
  have ip := imm_pay y.Payment
  rw [cDn] at i1 i2 i3 i4 i5
  rw [cPy] at ip
  obtain ⟨s1, s2, s3, s4, s5⟩ : decide (e1 = 0) = decide (y.State = 1) ∧ decide (e2 = 0) = decide (y.State = 2) ∧ decide (e3 = 0) = decide (y.State = 2) ∧ decide (e4 = 0) = (decide (y.State = 4) && decide (y.Attempts < 5)) ∧ True := ⟨by rw [decide_eq_decide]; exact q1, by rw [decide_eq_decide]; exact q2, by rw [decide_eq_decide]; exact q3, by rw [← Bool.decide_and, decide_eq_decide]; exact q4, trivial⟩
  have nx : ∀ z : Heap, (s.H ++ z)[1]? = some (some (deskO d)) := fun z => by rw [List.getElem?_append_left lt1]; exact h1
  simp -dsimp -implicitDefEqProofs [-getElem?_pos, go_sem, hP, t27, t29, hy, cIt, cPy, t4, h1, lt1]
  refine callB_is (r1.lift _ _) hP en_31 (by simpa [imm_sc] using id') (imm_pair i1 .sc) ?_
  simp -dsimp -implicitDefEqProofs [-getElem?_pos, go_sem, hP, t4, nx]
  refine callB_is (r2.lift _ _) hP en_32 (by simpa [imm_sc] using id') (imm_pair i2 .sc) ?_
  simp -dsimp -implicitDefEqProofs [-getElem?_pos, go_sem, hP, t4, t5, nx]
  refine callB_is (r3.lift _ _) hP en_28 (by simpa [imm_sc] using id') (imm_pair i3 .sc) ?_
  simp -dsimp -implicitDefEqProofs [-getElem?_pos, go_sem, hP, t4, t5, nx]
  refine callB_is (r4.lift _ _) hP en_29 (by simpa [imm_sc] using id') (imm_pair i4 .sc) ?_
  obtain ⟨D1, hD1⟩ : ∃ D, D = decide (e1 = 0) := ⟨_, rfl⟩
  obtain ⟨D2, hD2⟩ : ∃ D, D = decide (e2 = 0) := ⟨_, rfl⟩
  obtain ⟨D3, hD3⟩ : ∃ D, D = decide (e3 = 0) := ⟨_, rfl⟩
  obtain ⟨D4, hD4⟩ : ∃ D, D = decide (e4 = 0) := ⟨_, rfl⟩
  rw [← hD1] at s1
  rw [← hD2] at s2
  rw [← hD3] at s3
  rw [← hD4] at s4
  rcases (show y.State = 1 ∨ y.State = 2 ∨ y.State = 4 ∨ (¬ y.State = 1 ∧ ¬ y.State = 2 ∧ ¬ y.State = 4) by omega) with hs | hs | hs | ⟨c1, c2, c4⟩
  rotate_right
  · have d1 := decide_eq_false c1
    have d2 := decide_eq_false c2
    have d4 := decide_eq_false c4
    rw [d1] at s1
    rw [d2] at s2 s3
    rw [d4, Bool.false_and] at s4
    simp -dsimp -implicitDefEqProofs [-getElem?_pos, go_sem, hP, t4, nx, ← hD1, ← hD2, ← hD3, ← hD4, s1, s2, s3, s4, c1, c2, c4, d1, d2, d4]
    refine callB_is (r5.lift _ _) hP en_27 (by simpa [imm_sc] using ⟨id', ip⟩) (imm_pair i5 .sc) ?_
    simp -dsimp -implicitDefEqProofs [-getElem?_pos, go_sem, hP, t29, wk]
    refine ⟨l.length - (k + 1), by omega, ?_⟩
    rw [hI]
    exact ⟨k + 1, by omega, rfl, by simp -dsimp -implicitDefEqProofs [-getElem?_pos, go_sem, t3], by simp -dsimp -implicitDefEqProofs [-getElem?_pos, go_sem, t4], by simp -dsimp -implicitDefEqProofs [-getElem?_pos, go_sem, t5], by simp -dsimp -implicitDefEqProofs [-getElem?_pos, go_sem, t27], by simp -dsimp -implicitDefEqProofs [-getElem?_pos, go_sem, t28], by simp -dsimp -implicitDefEqProofs [-getElem?_pos, go_sem], by simp -dsimp -implicitDefEqProofs [-getElem?_pos, go_sem, nx]⟩
  all_goals
    rw [hs] at s1 s2 s3 s4
    simp only [Int.reduceEq, decide_true, decide_false, Bool.true_and, Bool.false_and] at s1 s2 s3 s4
    simp -dsimp -implicitDefEqProofs [-getElem?_pos, go_sem, hP, t4, nx, ← hD1, ← hD2, ← hD3, ← hD4, s1, s2, s3, s4, hs]
    refine callB_is (r5.lift _ _) hP en_27 (by simpa [imm_sc] using ⟨id', ip⟩) (imm_pair i5 .sc) ?_
    simp -dsimp -implicitDefEqProofs [-getElem?_pos, go_sem, hP, t29, wk]
    refine ⟨l.length - (k + 1), by omega, ?_⟩
    rw [hI]
    exact ⟨k + 1, by omega, rfl, by simp -dsimp -implicitDefEqProofs [-getElem?_pos, go_sem, t3], by simp -dsimp -implicitDefEqProofs [-getElem?_pos, go_sem, t4], by simp -dsimp -implicitDefEqProofs [-getElem?_pos, go_sem, t5], by simp -dsimp -implicitDefEqProofs [-getElem?_pos, go_sem, t27], by simp -dsimp -implicitDefEqProofs [-getElem?_pos, go_sem, t28], by simp -dsimp -implicitDefEqProofs [-getElem?_pos, go_sem], by simp -dsimp -implicitDefEqProofs [-getElem?_pos, go_sem, nx]⟩
end Go.Proofs.YtmpncdlhmknkoaaGreat
