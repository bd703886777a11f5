/- Sweeps: the program's sweeper. -/
import Derived.Test.YtcfkdimndhapfaaSw4
set_option linter.unusedSimpArgs false
set_option linter.unusedVariables false
namespace Go.Proofs.Ytcfkdimndhapfaa
open Go.PA
open Go.RowKit

theorem isidS_m {row src : Option Nat} (a : TSub) (H : Heap) (b : Nat) (id : Int) (hb : H[b]? = some (some ⟨3, 1, [[iv id]]⟩)) :
    MFun Try.prog row src 84 [.agg a.cells, .ref b 0 0] H (fun r H' => r = bv (decide (a.ID = id)) ∧ Kept [] H H') := by
  refine mfun_intro Try.func84 rfl (by simp [Try.f84]) (by kernel_rfl) (⟨_, H, rfl, kept_refl _ _⟩) ?_
  intro E hP hr hs hN
  have hlt := (List.getElem?_eq_some_iff.1 hb).1
  simp -dsimp -implicitDefEqProofs [-getElem?_pos, go_sem, hP, TSub.cells, hb, hlt]
  exact kept_push _ (kept_refl _ _)

theorem splace_m {row src : Option Nat} {H : Heap} {x : AV} {l : List TSub} (h : SlIs H x 2 (encL TSub.cells l)) (hl : l.length ≤ 100000) (id : Int) :
    MFun Try.prog row src 76 [x, iv id] H (fun r H' => r = iv (placeI l id) ∧ Kept [] H H') := by
  refine mfun_intro Try.func76 rfl (by simp [Try.f76]) (by kernel_rfl) (⟨_, H, rfl, kept_refl _ _⟩) ?_
  intro E hP hr hs hN
  simp -dsimp -implicitDefEqProofs [-getElem?_pos, go_sem, hP]
  refine callB_m (by rw [hr, hs]; exact index_m_sub l x _ 84 [.ref H.length 0 0] (fun s => decide (s.ID = id)) (h.kept (kept_push _ (kept_refl _ _))) (by omega) en_84 (fun a _ H' hk => isidS_m a H' _ id (hk _ _ (by simp) (by simp)))) hP en_68 ?_
  rintro r H' ⟨rfl, hk⟩
  simp -dsimp -implicitDefEqProofs [-getElem?_pos, go_sem, hP]
  exact ⟨rfl, (kept_push _ (kept_refl _ _)).trans hk⟩

/-- Objects below a bound are as they were. -/
def KeptB (n : Nat) (H H' : Heap) : Prop := ∀ (j : Nat) (o : AObj), j < n → H[j]? = some (some o) → H'[j]? = some (some o)
theorem kept_below {n : Nat} {X : List Nat} {H H' : Heap} (h : Kept X H H') (hX : ∀ i, i ∈ X → n ≤ i) : KeptB n H H' := fun j o hj ho => h j o (fun hm => by have := hX j hm; omega) ho
theorem KeptB.trans {n : Nat} {H H' H'' : Heap} (h : KeptB n H H') (k : KeptB n H' H'') : KeptB n H H'' := fun j o hj ho => k j o hj (h j o hj ho)

/-- The sweeper: its account, the balances as they are, the entries. -/
structure Swp (H : Heap) (n0 p q : Nat) (bk : TAccount) (l : List TSub) (es : List TEntry) (day : Int) : Prop where
  ne : p ≠ q
  np : n0 ≤ p
  nq : n0 ≤ q
  obj : ∃ x : AV, H[p]? = some (some ⟨99, 6, [[iv bk.Credit, subsL bk.Subs, entsL bk.Entries, .sref q 0 l.length, x, iv day]]⟩) ∧
    ((x = .nil ∧ es = []) ∨ ∃ r, n0 ≤ r ∧ r ≠ p ∧ r ≠ q ∧ x = .sref r 0 es.length ∧ H[r]? = some (some ⟨38, 6, encL TEntry.cells es⟩))
  subs : H[q]? = some (some ⟨31, 2, encL TSub.cells l⟩)
theorem Swp.kept {H H' : Heap} {n0 p q : Nat} {bk : TAccount} {l : List TSub} {es : List TEntry} {day : Int} (h : Swp H n0 p q bk l es day) (hk : Kept [] H H') : Swp H' n0 p q bk l es day := by
  obtain ⟨x, h1, h2⟩ := h.obj
  refine ⟨h.ne, h.np, h.nq, ⟨x, hk _ _ (by simp) h1, ?_⟩, hk _ _ (by simp) h.subs⟩
  rcases h2 with h2 | ⟨r, r1, r2, r3, r4, r5⟩
  · exact .inl h2
  · exact .inr ⟨r, r1, r2, r3, r4, hk _ _ (by simp) r5⟩
theorem Swp.ltq {H : Heap} {n0 p q : Nat} {bk : TAccount} {l : List TSub} {es : List TEntry} {day : Int} (h : Swp H n0 p q bk l es day) : q < H.length := (List.getElem?_eq_some_iff.1 h.subs).1
theorem Swp.ltp {H : Heap} {n0 p q : Nat} {bk : TAccount} {l : List TSub} {es : List TEntry} {day : Int} (h : Swp H n0 p q bk l es day) : p < H.length := by
  obtain ⟨x, h1, _⟩ := h.obj
  exact (List.getElem?_eq_some_iff.1 h1).1
theorem Swp.sl {H : Heap} {n0 p q : Nat} {bk : TAccount} {l : List TSub} {es : List TEntry} {day : Int} (h : Swp H n0 p q bk l es day) : SlIs H (.sref q 0 l.length) 2 (encL TSub.cells l) := .inr (.inr ⟨q, 31, by rw [encL_len], h.subs⟩)

theorem balance_m {row src : Option Nat} {H : Heap} {n0 p q : Nat} {bk : TAccount} {l : List TSub} {es : List TEntry} {day : Int} (h : Swp H n0 p q bk l es day) (hl : l.length ≤ 100000) (id : Int) (hm : id ∈ ids l) :
    MFun Try.prog row src 74 [.ref p 0 0, iv id] H (fun r H' => r = iv (balI l id) ∧ Kept [] H H') := by
  refine mfun_intro Try.func74 rfl (by simp [Try.f74]) (by kernel_rfl) (⟨_, H, rfl, kept_refl _ _⟩) ?_
  intro E hP hr hs hN
  obtain ⟨x, h1, h2⟩ := h.obj
  have hlt := h.ltp
  rcases find_place (l := l) (id := id) with ⟨_, h3⟩ | ⟨i, s, hi, hs', hf⟩
  · obtain ⟨s, h4, _⟩ := find_some hm
    rw [h3] at h4
    cases h4
  have hb : balI l id = s.Balance := by rw [balI, hf]
  simp -dsimp -implicitDefEqProofs [-getElem?_pos, go_sem, hP]
  refine adrawB (fun i => decide (i = p) || decide (i = q)) [] hP (by kernel_rfl) (by kernel_rfl) ?_
  simp -dsimp -implicitDefEqProofs [-getElem?_pos, go_sem, hP, h1, hlt, restr_get]
  refine callB_m (by rw [hr, hs]; exact splace_m h.sl hl id) hP en_76 ?_
  rintro r H' ⟨rfl, hk⟩
  have h' := h.kept hk
  have hq' := h'.subs
  have hlq := h'.ltq
  have hil := (List.getElem?_eq_some_iff.1 hs').1
  simp -dsimp -implicitDefEqProofs [-getElem?_pos, go_sem, hP, hi, hq', hlq, restr_get, hs', TSub.cells, hil, hb]
  exact ⟨agree_two hk h1 h.subs (by simp) (by simp), hk⟩

/-- What a move makes of the balances, and of the entries. -/
def mvL (l : List TSub) (f t amt : Int) : List TSub := if amt ≤ 0 then l else adj (adj l f (-amt)) t amt
def mvE (n day : Int) (es : List TEntry) (f t amt : Int) : List TEntry := if amt ≤ 0 then es else es ++ [⟨n + 1 + es.length, day, f, t, amt, 0⟩]
theorem mvL_len (l : List TSub) (f t amt : Int) : (mvL l f t amt).length = l.length := by
  unfold mvL
  split
  · rfl
  · rw [adj_len, adj_len]
theorem mvL_ids (l : List TSub) (f t amt : Int) : ids (mvL l f t amt) = ids l := by
  unfold mvL
  split
  · rfl
  · rw [adj_ids, adj_ids]

/-- A sweeper after a move. -/
theorem Swp.ex {H : Heap} {n0 p q : Nat} {bk : TAccount} {l : List TSub} {es : List TEntry} {day : Int} (h : Swp H n0 p q bk l es day) (hn0 : n0 ≤ H.length) (l' : List TSub) (hl : l'.length = l.length) (es' : List TEntry) : ∃ H', Swp H' n0 p q bk l' es' day ∧ KeptB n0 H H' := by
  have hp := h.ltp
  have hq := h.ltq
  have hnp := h.np
  have hnq := h.nq
  refine ⟨((H.set q (some ⟨31, 2, encL TSub.cells l'⟩)).set p (some ⟨99, 6, [[iv bk.Credit, subsL bk.Subs, entsL bk.Entries, .sref q 0 l'.length, .sref H.length 0 es'.length, iv day]]⟩)) ++ [some ⟨38, 6, encL TEntry.cells es'⟩], ⟨h.ne, h.np, h.nq, ⟨.sref H.length 0 es'.length, ?_, .inr ⟨H.length, hn0, by omega, by omega, rfl, ?_⟩⟩, ?_⟩, ?_⟩
  · rw [List.getElem?_append_left (by simp; omega), List.getElem?_set_self (by simp; omega)]
  · rw [List.getElem?_append_right (by simp)]
    simp
  · rw [List.getElem?_append_left (by simp; omega), List.getElem?_set_ne h.ne, List.getElem?_set_self hq]
  · intro j o hj ho
    have := (List.getElem?_eq_some_iff.1 ho).1
    rw [List.getElem?_append_left (by simp; omega), List.getElem?_set_ne (by omega), List.getElem?_set_ne (by omega)]
    exact ho

theorem Swp.setq {H : Heap} {n0 p q : Nat} {bk : TAccount} {l : List TSub} {es : List TEntry} {day : Int} (h : Swp H n0 p q bk l es day) {l' : List TSub} (hl : l'.length = l.length) : Swp (H.set q (some ⟨31, 2, encL TSub.cells l'⟩)) n0 p q bk l' es day := by
  obtain ⟨x, h1, h2⟩ := h.obj
  refine ⟨h.ne, h.np, h.nq, ⟨x, ?_, ?_⟩, List.getElem?_set_self h.ltq⟩
  · rw [List.getElem?_set_ne h.ne.symm, hl]
    exact h1
  · rcases h2 with h2 | ⟨r, r1, r2, r3, r4, r5⟩
    · exact .inl h2
    · exact .inr ⟨r, r1, r2, r3, r4, by rw [List.getElem?_set_ne r3.symm]; exact r5⟩
theorem keptB_set {n i : Nat} {H H' : Heap} {x : Option AObj} (h : KeptB n H H') (hi : n ≤ i) : KeptB n H (H'.set i x) := fun j o hj ho => by
  rw [List.getElem?_set_ne (by omega)]
  exact h j o hj ho
theorem keptB_app {n : Nat} {H H' l : Heap} (h : KeptB n H H') : KeptB n H (H' ++ l) := fun j o hj ho => by
  have h1 := h j o hj ho
  rw [List.getElem?_append_left (List.getElem?_eq_some_iff.1 h1).1]
  exact h1

set_option maxHeartbeats 2000000 in
theorem move_m {row src : Option Nat} {H : Heap} {n0 p q : Nat} {bk : TAccount} {l : List TSub} {es : List TEntry} {day : Int} (h : Swp H n0 p q bk l es day) (hn0 : n0 ≤ H.length) (hbk : checkA bk = 0) (hl : l.length ≤ 100000) (hes : es.length ≤ 100000) (hn : (ids l).Nodup)
    (f t amt : Int) (hf : f ∈ ids l) (ht : t ∈ ids l) (hft : f ≠ t) (ham : amt ≤ 1000000000000000000) (hb : ∀ s, s ∈ l → -1000000000000000000 ≤ s.Balance ∧ s.Balance ≤ 1000000000000000000) :
    MFun Try.prog row src 73 [.ref p 0 0, iv f, iv t, iv amt] H (fun r H' => r = .tup [] ∧ Swp H' n0 p q bk (mvL l f t amt) (mvE bk.Entries.length day es f t amt) day ∧ KeptB n0 H H') := by
  obtain ⟨C, hC⟩ : ∃ C : AV → Heap → Prop, C = fun r H' => r = .tup [] ∧ Swp H' n0 p q bk (mvL l f t amt) (mvE bk.Entries.length day es f t amt) day ∧ KeptB n0 H H' := ⟨_, rfl⟩
  rw [← hC]
  have ex : ∃ r H', C r H' := by
    obtain ⟨H', a1, a2⟩ := h.ex hn0 (mvL l f t amt) (mvL_len _ _ _ _) (mvE bk.Entries.length day es f t amt)
    rw [hC]
    exact ⟨_, H', rfl, a1, a2⟩
  refine mfun_intro Try.func73 rfl (by simp [Try.f73]) (by kernel_rfl) (ex) ?_
  intro E hP hr hs hN
  by_cases c0 : amt ≤ 0
  · have fin : C (.tup []) H := by
      rw [hC]
      refine ⟨rfl, ?_, fun _ _ _ h => h⟩
      rw [mvL, mvE, if_pos c0, if_pos c0]
      exact h
    simp -dsimp -implicitDefEqProofs [-getElem?_pos, go_sem, hP, c0]
    exact fin
  have e1 : mvL l f t amt = adj (adj l f (-amt)) t amt := by rw [mvL, if_neg c0]
  have e2 : mvE bk.Entries.length day es f t amt = es ++ [⟨(bk.Entries.length : Int) + 1 + es.length, day, f, t, amt, 0⟩] := by rw [mvE, if_neg c0]
  rw [e1, e2] at hC
  obtain ⟨x, h1, h2⟩ := h.obj
  have hlp := h.ltp
  have hlq := h.ltq
  have hq := h.subs
  rcases placeI_spec l f with ⟨_, h3⟩ | ⟨i, a, hi, ha, hpf, _⟩
  · exact absurd hf h3
  have hil := (List.getElem?_eq_some_iff.1 hi).1
  have ba := hb a (List.mem_of_getElem? hi)
  have wa := wrap_in (a.Balance - amt) (by omega)
  have set1 : (encL TSub.cells l).set i [iv a.ID, iv (a.Balance - amt)] = encL TSub.cells (adj l f (-amt)) := by
    rw [← ha, ← set_adj hn hi, ← encL_set]
    rfl
  simp -dsimp -implicitDefEqProofs [-getElem?_pos, go_sem, hP, c0]
  refine adrawB (fun i => decide (i = p) || decide (i = q)) [17] hP (by kernel_rfl) (by kernel_rfl) ?_
  simp -dsimp -implicitDefEqProofs [-getElem?_pos, go_sem, hP, h1, hlp, restr_get]
  refine callB_m (by rw [hr, hs]; exact splace_m h.sl hl f) hP en_76 ?_
  rintro r H1 ⟨rfl, hk1⟩
  have hh1 := h.kept hk1
  have hq1 := hh1.subs
  have hlq1 := hh1.ltq
  simp -dsimp -implicitDefEqProofs [-getElem?_pos, go_sem, hP, hpf, hq1, hlq1, restr_get, hi, TSub.cells, hil, wa, set1]
  refine ⟨agree_two hk1 h1 hq (by simp) (by simp), ?_⟩
  have hw2 := hh1.setq (l' := adj l f (-amt)) (adj_len _ _ _)
  have kb2 : KeptB n0 H (H1.set q (some ⟨31, 2, encL TSub.cells (adj l f (-amt))⟩)) := keptB_set (kept_below hk1 (by simp)) h.nq
  have len2 : n0 ≤ (H1.set q (some ⟨31, 2, encL TSub.cells (adj l f (-amt))⟩)).length := by
    have := hh1.ltq
    have := h.nq
    simp
    omega
  obtain ⟨H2, hH2⟩ : ∃ H2, H2 = H1.set q (some ⟨31, 2, encL TSub.cells (adj l f (-amt))⟩) := ⟨_, rfl⟩
  rw [← hH2] at hw2 kb2 len2
  rw [← hH2]
  clear hH2 hh1 hq1 hlq1 hk1 h1 h2 hlp hlq hq h ex
  obtain ⟨l1, hl1⟩ : ∃ l1, l1 = adj l f (-amt) := ⟨_, rfl⟩
  have ll1 : l1.length = l.length := by rw [hl1, adj_len]
  have n1 : (ids l1).Nodup := by rw [hl1, adj_ids]; exact hn
  have ht1 : t ∈ ids l1 := by rw [hl1, adj_ids]; exact ht
  have hb1 : ∀ s, s ∈ l1 → s.ID = t → -1000000000000000000 ≤ s.Balance ∧ s.Balance ≤ 1000000000000000000 := fun s hs e => by
    rw [hl1] at hs
    obtain ⟨u, hu, rfl⟩ := List.mem_map.1 hs
    by_cases e1 : u.ID = f
    · rw [if_pos e1] at e
      exact absurd (e1.symm.trans e) hft
    · rw [if_neg e1]
      exact hb u hu
  rw [← hl1] at hw2 hC
  clear set1 hl1
  obtain ⟨x, h1, h2⟩ := hw2.obj
  have hlp := hw2.ltp
  have hlq := hw2.ltq
  have hq := hw2.subs
  rcases placeI_spec l1 t with ⟨_, h3⟩ | ⟨j, b, hj, hbt, hpt, _⟩
  · exact absurd ht1 h3
  have hjl := (List.getElem?_eq_some_iff.1 hj).1
  have bb := hb1 b (List.mem_of_getElem? hj) hbt
  have wb := wrap_in (b.Balance + amt) (by omega)
  have set2 : (encL TSub.cells l1).set j [iv b.ID, iv (b.Balance + amt)] = encL TSub.cells (adj l1 t amt) := by
    rw [← hbt, ← set_adj n1 hj, ← encL_set]
    rfl
  refine adrawB (fun i => decide (i = p) || decide (i = q)) [17] hP (by kernel_rfl) (by kernel_rfl) ?_
  simp -dsimp -implicitDefEqProofs [-getElem?_pos, go_sem, hP, h1, hlp, restr_get]
  refine callB_m (by rw [hr, hs]; exact splace_m hw2.sl (by omega) t) hP en_76 ?_
  rintro r H3 ⟨rfl, hk3⟩
  have hw3 := hw2.kept hk3
  have hq3 := hw3.subs
  have hlq3 := hw3.ltq
  simp -dsimp -implicitDefEqProofs [-getElem?_pos, go_sem, hP, hpt, hq3, hlq3, restr_get, hj, TSub.cells, hjl, wb, set2]
  refine ⟨agree_two hk3 h1 hq (by simp) (by simp), ?_⟩
  have hw4 := hw3.setq (l' := adj l1 t amt) (adj_len _ _ _)
  have kb4 : KeptB n0 H (H3.set q (some ⟨31, 2, encL TSub.cells (adj l1 t amt)⟩)) := keptB_set (kb2.trans (kept_below hk3 (by simp))) hw2.nq
  have len4 : n0 ≤ (H3.set q (some ⟨31, 2, encL TSub.cells (adj l1 t amt)⟩)).length := by
    have := hlq3
    have := hw2.nq
    simp
    omega
  obtain ⟨H4, hH4⟩ : ∃ H4, H4 = H3.set q (some ⟨31, 2, encL TSub.cells (adj l1 t amt)⟩) := ⟨_, rfl⟩
  rw [← hH4] at hw4 kb4 len4
  rw [← hH4]
  clear hH4 hw3 hq3 hlq3 hk3 h1 h2 hlp hlq hq hw2 kb2 len2 set2
  obtain ⟨l2, hl2⟩ : ∃ l2, l2 = adj l1 t amt := ⟨_, rfl⟩
  rw [← hl2] at hw4 hC
  clear hl2
  obtain ⟨x, h1, h2⟩ := hw4.obj
  have hlp := hw4.ltp
  have hlq := hw4.ltq
  have hq := hw4.subs
  have kp := (check_keeps hbk).2.1
  have kn := (check_ok hbk).2.1
  obtain ⟨e, he⟩ : ∃ e, e = nextE bk day f t amt 0 := ⟨_, rfl⟩
  have he' : e = ⟨(bk.Entries.length : Int) + 1, day, f, t, amt, 0⟩ := by rw [he, nextE, kp, wrap_in _ (by omega)]
  have nx := next_pf bk day f t amt 0 (by omega)
  rw [← he, cA, cE] at nx
  have ib : Imm (.agg [iv bk.Credit, subsL bk.Subs, entsL bk.Entries]) := imm_acc bk
  have ie : Imm (.agg [iv e.Number, iv e.Day, iv e.From, iv e.To, iv e.Amount, iv e.Ref]) := imm_ent e
  refine adrawQ (fun i => decide (i = p)) [13] [11] hP (by kernel_rfl) (by kernel_rfl) ?_
  simp -dsimp -implicitDefEqProofs [-getElem?_pos, go_sem, hP, h1, hlp, restr_get]
  refine callQ_is (nx.lift _ _) hP en_20 (by simp [ib, imm_sc]) ie ?_
  simp -dsimp -implicitDefEqProofs [-getElem?_pos, go_sem, hP]
  refine ⟨agree_one hlp, ?_⟩
  have en : e.Number = (bk.Entries.length : Int) + 1 := by rw [he']
  have e2' : e.Day = day := by rw [he']
  have e3' : e.From = f := by rw [he']
  have e4' : e.To = t := by rw [he']
  have e5' : e.Amount = amt := by rw [he']
  have e6' : e.Ref = 0 := by rw [he']
  have npH : ¬ H4.length = p := by omega
  have nqH : ¬ H4.length = q := by omega
  rcases h2 with ⟨rfl, rfl⟩ | ⟨r, r1, r2, r3, rfl, hro⟩
  · have wn := wrap_in e.Number (by omega)
    refine adrawB (fun _ => true) [9] hP (by kernel_rfl) (by kernel_rfl) ?_
    simp -dsimp -implicitDefEqProofs [-getElem?_pos, go_sem, hP, h1, hlp, wn]
    refine adrawB (fun i => decide (i = p)) [5, 10] hP (by kernel_rfl) (by kernel_rfl) ?_
    simp -dsimp -implicitDefEqProofs [-getElem?_pos, go_sem, hP, h1, hlp, restr_get]
    refine ⟨fun i hi => ?_, ?_⟩
    · have : i = p := by simpa using hi
      subst this
      rw [List.getElem?_append_left hlp, List.getElem?_append_left hlp]
    rw [hC]
    refine ⟨rfl, ⟨hw4.ne, hw4.np, hw4.nq, ⟨.sref (H4.length + 1) 0 1, ?_, .inr ⟨H4.length + 1, by omega, by omega, by omega, rfl, ?_⟩⟩, ?_⟩, keptB_app (keptB_set kb4 hw4.np)⟩
    · rw [List.getElem?_append_left (by simp; omega), List.getElem?_set_self hlp]
    · rw [List.getElem?_append_right (by simp)]
      simp [encL, TEntry.cells, en, e2', e3', e4', e5', e6']
    · rw [List.getElem?_append_left (by simp; omega), List.getElem?_set_ne hw4.ne]
      exact hq
  · have wn := wrap_in (e.Number + es.length) (by omega)
    have hlr := (List.getElem?_eq_some_iff.1 hro).1
    refine adrawB (fun _ => true) [9] hP (by kernel_rfl) (by kernel_rfl) ?_
    simp -dsimp -implicitDefEqProofs [-getElem?_pos, go_sem, hP, h1, hlp, hro, hlr, wn]
    refine adrawB (fun i => decide (i = p) || decide (i = r)) [4, 5, 7, 10] hP (by kernel_rfl) (by kernel_rfl) ?_
    simp -dsimp -implicitDefEqProofs [-getElem?_pos, go_sem, hP, h1, hlp, hro, hlr, restr_get, r2]
    refine ⟨by omega, by omega, ?_⟩
    have e7 : encL TEntry.cells es ++ [[iv (e.Number + es.length), iv e.Day, iv e.From, iv e.To, iv e.Amount, iv e.Ref]] = encL TEntry.cells (es ++ [⟨(bk.Entries.length : Int) + 1 + es.length, day, f, t, amt, 0⟩]) := by
      rw [← encL_snoc, en, e2', e3', e4', e5', e6']
      rfl
    rw [hC]
    refine ⟨rfl, ⟨hw4.ne, hw4.np, hw4.nq, ⟨.sref (H4.length + 1) 0 (es.length + 1), ?_, .inr ⟨H4.length + 1, by omega, by omega, by omega, by simp, ?_⟩⟩, ?_⟩, keptB_app (keptB_set (keptB_set kb4 r1) hw4.np)⟩
    · rw [List.getElem?_append_left (by simp; omega), List.getElem?_set_self (by simp; omega)]
    · rw [List.getElem?_append_right (by simp)]
      simp [e7]
    · rw [List.getElem?_append_left (by simp; omega), List.getElem?_set_ne hw4.ne, List.getElem?_set_ne r3]
      exact hq
end Go.Proofs.Ytcfkdimndhapfaa
