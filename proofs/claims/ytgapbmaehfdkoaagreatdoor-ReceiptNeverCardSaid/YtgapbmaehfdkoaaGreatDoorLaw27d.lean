/- ReceiptNever. -/
import Derived.Test.YtgapbmaehfdkoaaGreatDoorCashA
import Derived.Test.YtgapbmaehfdkoaaGreatDoorCashN
import Derived.Test.YtgapbmaehfdkoaaGreatDoorCashS
import Derived.Test.YtgapbmaehfdkoaaGreatDoorCashSane
import Derived.Test.YtgapbmaehfdkoaaGreatDoorCash15
set_option linter.unusedSimpArgs false
set_option linter.unusedVariables false
namespace Go.Proofs.YtgapbmaehfdkoaaGreatDoor

theorem addD_ok {c : TCash} {x : TClaim} (h : (addD c x).2 = 0) : (cashE c = 0 ∧ payB x = true ∧ x.Open = x.Amount ∧ payAt c.Claims x.ID = none) ∧ addD c x = (added c x, 0) := by
  unfold addD at h ⊢
  by_cases h1 : cashE c = 0
  rotate_left
  · rw [if_neg h1] at h
    exact absurd h h1
  rw [if_pos h1] at h ⊢
  by_cases h2 : (payB x && decide (x.Open = x.Amount) && (payAt c.Claims x.ID).isNone) = true
  rotate_left
  · rw [if_neg h2] at h
    simp at h
  rw [if_pos h2] at h ⊢
  by_cases h5 : c.Claims.length < 60
  rotate_left
  · rw [if_neg h5] at h
    simp at h
  rw [if_pos h5] at h ⊢
  by_cases h6 : (added c x).Matches.length ≤ 160
  rotate_left
  · rw [if_neg h6] at h
    simp at h
  rw [if_pos h6]
  simp only [Bool.and_eq_true, decide_eq_true_eq, Option.isNone_iff_eq_none] at h2
  exact ⟨⟨h1, h2.1.1, h2.1.2, h2.2⟩, rfl⟩
theorem refundD_ok {c : TCash} {n : Int} (h : (refundD c n).2.2 = 0) : ∃ i, (refundD c n).1 = refunded c i := by
  unfold refundD at h ⊢
  by_cases h1 : cashE c = 0
  rotate_left
  · rw [if_neg h1] at h
    exact absurd h h1
  rw [if_pos h1] at h ⊢
  cases hi : incAt c.Incomes n with
  | none => rw [hi] at h; simp at h
  | some i =>
    rw [hi] at h
    simp only at h ⊢
    by_cases h2 : (c.Loose[i]?).getD 0 = 0
    · rw [if_pos h2] at h
      simp at h
    · rw [if_neg h2]
      exact ⟨i, rfl⟩
/-- Cash that grew in k steps. -/
structure GN (k : Nat) (d : Int) (c : TCash) : Prop where
  ok : CashOk c
  none : NoBoth c
  cl : c.Claims.length ≤ 3 + k
  inc : c.Incomes.length ≤ k
  pot : pot c ≤ 3 + k
  num : lastN c ≤ k
  day : lastD c ≤ d
  code : ∀ x, x ∈ c.Claims → x.Code.size ≤ 1000
theorem GN.cash {k : Nat} {d : Int} {c : TCash} (h : GN k d c) (hk : k ≤ 15) : cashE c = 0 := by
  refine cashE_ok.2 ⟨⟨by have := h.cl; omega, by have := h.inc; omega, ?_⟩, h.ok⟩
  have := h.pot
  unfold Go.Proofs.YtgapbmaehfdkoaaGreatDoor.pot at this
  omega
theorem GN.fit {k : Nat} {d : Int} {c : TCash} (h : GN k d c) (hk : k ≤ 15) : FitC c := by
  have h1 := h.pot
  unfold Go.Proofs.YtgapbmaehfdkoaaGreatDoor.pot at h1
  have h2 := h.cl
  have h3 := h.inc
  have h4 := h.ok.len
  exact ⟨by omega, by omega, by omega, by omega, fun x hx => by have := h.code x hx; omega⟩
theorem GN.next {k : Nat} {d : Int} {c : TCash} (h : GN k d c) : GN (k + 1) d c :=
  ⟨h.ok, h.none, by have := h.cl; omega, by have := h.inc; omega, by have := h.pot; omega, by have := h.num; omega, h.day, h.code⟩
theorem fall_code {c d : TCash} (f : Fall c d) {n : Nat} (h : ∀ x, x ∈ c.Claims → x.Code.size ≤ n) : ∀ x, x ∈ d.Claims → x.Code.size ≤ n := fun z hz => by
  obtain ⟨j, hj⟩ := List.getElem?_of_mem hz
  obtain ⟨y, hy, _, _, ey⟩ := f.back hj
  rw [ey]
  exact h y (List.mem_of_getElem? hy)
theorem GN.add {k : Nat} {d : Int} {c : TCash} (h : GN k d c) {x : TClaim} (hx : payB x = true) (ho : x.Open = x.Amount) (hn : payAt c.Claims x.ID = Option.none) (hc : x.Code.size ≤ 1000) : GN (k + 1) d (added c x) := by
  have px := payB_iff.1 hx
  have f := added_fall h.ok.pos (x := x) (by omega)
  have e : (added c x).Incomes = c.Incomes := f.inc
  have p := added_pot h.ok.pos (x := x) (by omega)
  have h1 := h.cl
  have h2 := h.inc
  have h3 := h.pot
  have h4 := h.num
  have h5 := h.day
  refine ⟨added_ok h.ok hx ho hn, added_none h.ok.pos h.ok.len (by omega) h.none, ?_, ?_, by omega, ?_, ?_, fall_code f fun z hz => ?_⟩
  · rw [f.cn]
    have := insAt_le c.Claims x.ID
    unfold withC
    simp only [List.length_append, List.length_cons, List.length_take, List.length_drop]
    omega
  · rw [e]; omega
  · unfold lastN at h4 ⊢
    rw [e]
    omega
  · unfold lastD at h5 ⊢
    rw [e]
    exact h5
  · rcases withC_mem.1 hz with rfl | hz
    · exact hc
    · exact h.code z hz
theorem GN.refund {k : Nat} {d : Int} {c : TCash} (h : GN k d c) (i : Nat) : GN (k + 1) d (refunded c i) := by
  have f := refunded_fall h.ok.pos i
  have p := refunded_pot (c := c) i
  have h3 := h.pot
  exact ⟨refunded_ok h.ok i, fall_none f h.ok.len h.none, by have := h.cl; show c.Claims.length ≤ _; omega, by have := h.inc; show c.Incomes.length ≤ _; omega, by omega, by have := h.num; show lastN c ≤ _; omega, h.day, h.code⟩
theorem GN.take {k : Nat} {d : Int} {c : TCash} (h : GN k d c) (hk : k ≤ 15) {x : TIncome} (hx : incB x = true) (hn : x.Number = (k : Int) + 1) (hd : d ≤ x.Day) :
    takeD c x = (taken c x, (taken c x).Matches.drop c.Matches.length, 0) ∧ GN (k + 1) x.Day (taken c x) := by
  have amt := incB_amount hx
  have f := taken_fall h.ok.pos (x := x) (by omega)
  have e := taken_inc h.ok.pos (x := x) (by omega)
  have p := taken_pot h.ok.pos (x := x) (by omega)
  have h1 := h.cl
  have h2 := h.inc
  have h3 := h.pot
  have h4 := h.num
  have h5 := h.day
  refine ⟨takeD_yes (h.cash hk) hx (by omega) (by omega) (by omega) (by unfold Go.Proofs.YtgapbmaehfdkoaaGreatDoor.pot at *; omega), taken_ok h.ok hx (by omega) (by omega), taken_none h.ok.pos h.ok.len (by omega) h.none, ?_, ?_, by omega, ?_, ?_, fall_code f h.code⟩
  · rw [f.cn]
    show c.Claims.length ≤ _
    omega
  · rw [e, List.length_append, List.length_singleton]
    omega
  · simp only [lastN, e, List.getLast?_append, List.getLast?_singleton, Option.some_or, Option.map_some, Option.getD_some]
    omega
  · simp only [lastD, e, List.getLast?_append, List.getLast?_singleton, Option.some_or, Option.map_some, Option.getD_some]
    omega
theorem looseS_pos {p : Int} : ∀ (xs : List TIncome) (ls : List Int), 0 < looseS xs ls p → ∃ (i : Nat) (y : TIncome) (lo : Int), xs[i]? = some y ∧ ls[i]? = some lo ∧ y.Payer = p ∧ 0 < lo
  | [], ls, h => by
    have : looseS [] ls p = 0 := rfl
    omega
  | x :: xs, [], h => by
    have : looseS (x :: xs) [] p = 0 := by simp [looseS]
    omega
  | x :: xs, a :: ls, h => by
    rw [looseS_cons] at h
    by_cases e : x.Payer = p ∧ 0 < a
    · exact ⟨0, x, a, rfl, rfl, e.1, e.2⟩
    · have : 0 < looseS xs ls p := by
        by_cases e1 : x.Payer = p
        · rw [if_pos e1] at h
          have : ¬ 0 < a := fun h => e ⟨e1, h⟩
          omega
        · rw [if_neg e1] at h
          omega
      obtain ⟨i, y, lo, h1, h2, h3, h4⟩ := looseS_pos xs ls this
      exact ⟨i + 1, y, lo, by simpa using h1, by simpa using h2, h3, h4⟩
theorem owedS_pos {p : Int} : ∀ (l : List TClaim), 0 < owedS l p → ∃ (k : Nat) (z : TClaim), l[k]? = some z ∧ z.Payer = p ∧ 0 < z.Open
  | [], h => by
    have : owedS [] p = 0 := rfl
    omega
  | x :: l, h => by
    rw [owedS_cons] at h
    by_cases e : x.Payer = p ∧ 0 < x.Open
    · exact ⟨0, x, rfl, e.1, e.2⟩
    · have : 0 < owedS l p := by
        by_cases e1 : x.Payer = p
        · rw [if_pos e1] at h
          have : ¬ 0 < x.Open := fun h => e ⟨e1, h⟩
          omega
        · rw [if_neg e1] at h
          omega
      obtain ⟨k, z, h1, h2, h3⟩ := owedS_pos l this
      exact ⟨k + 1, z, by simpa using h1, h2, h3⟩
theorem NoBoth.sums {c : TCash} (h : NoBoth c) (p : Int) : ¬ (0 < looseS c.Incomes c.Loose p ∧ 0 < owedS c.Claims p) := fun ⟨h1, h2⟩ => by
  obtain ⟨i, y, lo, a1, a2, a3, a4⟩ := looseS_pos _ _ h1
  obtain ⟨k, z, b1, b2, b3⟩ := owedS_pos _ h2
  have := h i k y lo z a1 a2 b1 (by omega)
  omega
open Go.PA
open Go.RowKit

theorem cash_immN (c : TCash) : Imm (.agg [claimsL c.Claims, incomesL c.Incomes, matchesL c.Matches, .list 1 (encL encI c.Loose)]) := by
  have := imm_agg.2 c.imm
  rwa [cCsh] at this
theorem NQ30 : ∃ r, NQ 30 r ∧ Imm r := by
  obtain ⟨r, h⟩ := NQ_ex 30
  exact ⟨r, h, by obtain ⟨m, rfl, _⟩ := h; exact .sc⟩
def cashO (c : TCash) : AObj := ⟨29, 4, [[claimsL c.Claims, incomesL c.Incomes, matchesL c.Matches, .list 1 (encL encI c.Loose)]]⟩
set_option maxHeartbeats 8000000 in
set_option maxRecDepth 8000 in
theorem never27_pf (xs : List Int) (hx : Small xs) (hl : xs.length ≤ 9223372036854775807) : PFun Tryz.prog none none 7 [intsL xs] (· = bv true) := by
  refine pfun_introA Tryz.func7 rfl (by simp [Tryz.f7]) ?_
  intro E hP hr hs hW hN
  refine awp_cut (by rw [hN]; kernel_rfl) ?_
  simp [go_sem, hP]
  refine awp_cut (by rw [hN]; kernel_rfl) ?_
  simp [go_sem, hP]
  have hnew : POwn Tryz.prog E.row E.src 8 [intsL xs] 70 2 (· = [[intsL (xs.take 900), iv 0]]) := by rw [hr, hs]; exact new_pf xs hl
  refine callB_own hnew hP en_8 (args_same (by simp [go_sem, intsL])) (by simp [srefs_imm, go_sem, intsL]) ⟨_, rfl⟩ ?_
  rintro es rfl
  simp [go_sem, hP]
  refine awp_adopt 3 (ty := 70) (xs := xs.take 900) (at_ := 0) hr hs hW (by simp [go_sem]) (by simp [go_sem, intsL]) (by omega) (by simp; omega) (fun x hx' => hx x (List.mem_of_mem_take hx')) (by rw [hN]; kernel_rfl) ?_
  intro E' p hP' hr' hN' hW'
  rw [hP] at hP'
  rw [hN] at hN'
  clear hnew hP hr hs hW hN E
  rename Env => E
  rename E.P = _ => hP
  rename E.row = _ => hr
  rename E.N = _ => hN
  rename (∀ b, ¬ E.W b) => hW
  obtain ⟨src, hs⟩ : ∃ src, E.src = src := ⟨_, rfl⟩
  have up : ∀ {f : FuncId} {args : List AV} {Q : AV → Prop}, PFun Tryz.prog (some p) src f args Q → PFun Tryz.prog E.row E.src f args Q := fun h => hr ▸ hs ▸ h

  have saneB : ∀ {H : Heap} {C : AV → Heap → Prop} {b : Bx C}, C (bv true) H → CallB E 12 [] H C b := fun h => callB_pure sane27_pf hP en_12 (args_nil.2 trivial) .sc h
  simp -dsimp -implicitDefEqProofs [-getElem?_pos, go_sem, hP]
  refine callB_isQ (up (sclaims_pf p src 3 (by omega))) hP en_20 (by simp [go_sem]) (claimsQ_ex 3) ?_
  rintro r ⟨l, rfl, hl3, hg⟩ _
  obtain ⟨en, g0⟩ := hg.new hl3 (by omega)
  have fl : FitL l := ⟨by omega, fun x hx => by have := g0.code x hx; omega⟩
  have nw := cnew_pf l fl
  rw [en, cCsh] at nw
  simp only at nw
  obtain ⟨c0, hc0⟩ : ∃ c0 : TCash, c0 = ⟨l, [], [], []⟩ := ⟨_, rfl⟩
  have e1 : l = c0.Claims := by rw [hc0]
  have e2 : ([] : List TIncome) = c0.Incomes := by rw [hc0]
  have e3 : ([] : List TMatch) = c0.Matches := by rw [hc0]
  have e4 : ([] : List Int) = c0.Loose := by rw [hc0]
  have gn : GN 0 0 c0 := by
    rw [← hc0] at g0
    exact ⟨g0.ok, fun i k y lo w hy => by rw [hc0] at hy; simp at hy, g0.cl, g0.inc, g0.pot, by have := g0.num; omega, g0.day, g0.code⟩
  have ic0 := cash_immN c0
  rw [← e1, ← e2, ← e3, ← e4] at ic0
  simp -dsimp -implicitDefEqProofs [-getElem?_pos, go_sem, hP]
  refine callB_is (nw.lift _ _) hP en_21 (by simpa using imm_claims l) (imm_pair ic0 .sc) ?_
  simp -dsimp -implicitDefEqProofs [-getElem?_pos, go_sem, hP]
  obtain ⟨I, hI⟩ : ∃ I : Nat → St → Prop, I = fun m s => ∃ (k : Nat) (d : Int) (c : TCash), k ≤ 12 ∧ m = 12 - k ∧ 0 ≤ d ∧ d ≤ 2 * k ∧ GN k d c ∧ s.t 3 = sp p ∧ s.t 4 = .ref 1 0 0 ∧ s.t 6 = iv d ∧ s.t 7 = iv ((k : Int) + 1) ∧ s.H[1]? = some (some (cashO c)) := ⟨_, rfl⟩
  refine aloop0 I (12) (by rw [hN]; rfl) ?_ ?_
  · rw [hI]
    exact ⟨0, 0, c0, by omega, by omega, by omega, by omega, gn, by simp -dsimp -implicitDefEqProofs [-getElem?_pos, go_sem], by simp -dsimp -implicitDefEqProofs [-getElem?_pos, go_sem], by simp -dsimp -implicitDefEqProofs [-getElem?_pos, go_sem], by simp -dsimp -implicitDefEqProofs [-getElem?_pos, go_sem], by simp -dsimp -implicitDefEqProofs [-getElem?_pos, go_sem, cashO, hc0]⟩
  clear g0 gn nw ic0 e1 e2 e3 e4
  intro m s hs'
  rw [hI] at hs'
  obtain ⟨k, d, c, hk, hm, hd0, hd1, hg, t3, t4, t6, t7, h1⟩ := hs'
  have lt1 := (List.getElem?_eq_some_iff.1 h1).1
  have ic := cash_immN c
  have fit := hg.fit (by omega)
  simp -dsimp -implicitDefEqProofs [-getElem?_pos, go_sem, hP, t7]
  refine condP (fun h => ?_) (fun h => ?_)
  · have hk : k < 12 := by
      have : (k : Int) + 1 ≤ 12 := by simpa using h
      omega
    have wk := wrap_in ((k : Int) + 1 + 1) (by omega)
    have nxt : ∀ (s' : St) (d' : Int) (c' : TCash), GN (k + 1) d' c' → 0 ≤ d' → d' ≤ 2 * ((k : Int) + 1) → s'.t 3 = sp p → s'.t 4 = .ref 1 0 0 → s'.t 6 = iv d' → s'.t 7 = iv ((k : Int) + 1 + 1) → s'.H[1]? = some (some (cashO c')) → ∃ m', m' < m ∧ I m' s' := fun s' d' c' g q1 q2 a3 a4 a6 a7 b1 => by
      refine ⟨12 - (k + 1), by omega, ?_⟩
      rw [hI]
      exact ⟨k + 1, d', c', by omega, rfl, q1, by omega, g, a3, a4, a6, by rw [a7]; simp, b1⟩
    clear hI
    simp -dsimp -implicitDefEqProofs [-getElem?_pos, go_sem, hP, t3]
    refine callB_flat (up (N_pf p src 4 (by omega))) hP en_38 (args_same (by simp -dsimp -implicitDefEqProofs [-getElem?_pos, go_sem])) (NQ_ex _) (NQ_flat _) ?_
    rintro r ⟨z, rfl, _, hz⟩
    have hz := hz (by omega)
    by_cases z0 : z = 0
    · subst z0
      simp -dsimp -implicitDefEqProofs [-getElem?_pos, go_sem, hP, t3]
      refine callB_isQ (up (pick_pf p src [5, 40, 100] (by simp))) hP en_25 (by simp [go_sem]) ⟨iv 5, ⟨5, rfl, by simp⟩, .sc⟩ ?_
      rintro r ⟨a, rfl, ha⟩ _
      have w1 := wrap_in (100 + ((k : Int) + 1)) (by omega)
      simp -dsimp -implicitDefEqProofs [-getElem?_pos, go_sem, hP]
      refine adrawQ (fun i => decide (i = 1)) [15] [4, 8, 10] hP (by kernel_rfl) (by kernel_rfl) ?_
      simp -dsimp -implicitDefEqProofs [-getElem?_pos, go_sem, hP, t4, t7, t3, h1, lt1, cashO, w1]
      refine callQ_isQ (up (range_pf p src 1 3 (by omega) (by omega))) hP en_24 (by simp -dsimp -implicitDefEqProofs [-getElem?_pos, go_sem]) ⟨iv 1, ⟨1, rfl, by omega, by omega⟩, .sc⟩ ?_
      rintro r ⟨py, rfl, _⟩ _
      simp -dsimp -implicitDefEqProofs [-getElem?_pos, go_sem, hP, t3]
      refine callQ_isQ (up (N_pf p src 30 (by omega))) hP en_38 (by simp -dsimp -implicitDefEqProofs [-getElem?_pos, go_sem]) NQ30 ?_
      rintro r ⟨dy, rfl, _⟩ _
      obtain ⟨x, hx⟩ : ∃ x : TClaim, x = ⟨100 + ((k : Int) + 1), py, a, a, dy, ⟨#[49, 46, 49]⟩⟩ := ⟨_, rfl⟩
      have sz : x.Code.size = 3 := by rw [hx]; rfl
      have ad := cadd_pf c x fit (by omega)
      obtain ⟨b, hb⟩ : ∃ b, b = (addD c x).1 := ⟨_, rfl⟩
      obtain ⟨e, he⟩ : ∃ e, e = (addD c x).2 := ⟨_, rfl⟩
      rw [← hb, ← he, cCsh, cCsh, cClm] at ad
      have ix := imm_agg.2 x.imm
      rw [cClm] at ix
      rw [hx] at ad ix
      simp only at ad ix
      have ib := cash_immN b
      simp -dsimp -implicitDefEqProofs [-getElem?_pos, go_sem, hP]
      refine callQ_is (ad.lift _ _) hP en_31 (by simpa using ⟨ic, ix⟩) (imm_pair ib .sc) ?_
      simp -dsimp -implicitDefEqProofs [-getElem?_pos, go_sem, hP]
      by_cases e0 : e = 0
      · obtain ⟨⟨_, q2, q3, q4⟩, q5⟩ := addD_ok (c := c) (x := x) (by rw [← he]; exact e0)
        have hbt : b = added c x := by rw [hb, q5]
        have gb : GN (k + 1) d b := by rw [hbt]; exact hg.add q2 q3 q4 (by omega)
        simp -dsimp -implicitDefEqProofs [-getElem?_pos, go_sem, hP, e0, t4, lt1, h1, cashO]
        refine ⟨agree_gen0 rfl fun i hi => ⟨by simp at hi; omega, rfl⟩, ?_⟩
        obtain ⟨d', hd'⟩ : ∃ d', d' = d := ⟨_, rfl⟩
        obtain ⟨c', hc'⟩ : ∃ c', c' = b := ⟨_, rfl⟩
        have g' : GN (k + 1) d' c' := by rw [hd', hc']; exact gb
        have q1 : 0 ≤ d' := by omega
        have q2 : d' ≤ 2 * ((k : Int) + 1) := by omega
        have oc := fun v => cowed_pf c' v (g'.fit (by omega))
        have lc := fun v => cloose_pf c' v (g'.fit (by omega))
        simp only [owedD_eq (g'.cash (by omega)), cCsh] at oc
        simp only [looseD_eq (g'.cash (by omega)), cCsh] at lc
        have ic' := cash_immN c'
        have nb := g'.none.sums
        obtain ⟨J, hJ⟩ : ∃ I : Nat → St → Prop, I = fun m s => ∃ (v : Nat), v ≤ 3 ∧ m = 3 - v ∧ s.t 3 = sp p ∧ s.t 4 = .ref 1 0 0 ∧ s.t 6 = iv d' ∧ s.t 7 = iv ((k : Int) + 1) ∧ s.t 17 = iv ((v : Int) + 1) ∧ s.H[1]? = some (some (cashO c')) := ⟨_, rfl⟩
        refine aloop0 J (3) (by rw [hN]; rfl) ?_ ?_
        · rw [hJ]
          exact ⟨0, by omega, by omega, by simp -dsimp -implicitDefEqProofs [-getElem?_pos, go_sem, t3], by simp -dsimp -implicitDefEqProofs [-getElem?_pos, go_sem, t4], by simp -dsimp -implicitDefEqProofs [-getElem?_pos, go_sem, t6, hd'], by simp -dsimp -implicitDefEqProofs [-getElem?_pos, go_sem, t7], by simp -dsimp -implicitDefEqProofs [-getElem?_pos, go_sem], by simp -dsimp -implicitDefEqProofs [-getElem?_pos, go_sem, lt1, cashO, hc']⟩
        clear t3 t4 t6 t7 h1 lt1
        intro m s hs'
        rw [hJ] at hs'
        obtain ⟨v, hv, hm, t3, t4, t6, t7, t17, h1⟩ := hs'
        have lt1 := (List.getElem?_eq_some_iff.1 h1).1
        simp -dsimp -implicitDefEqProofs [-getElem?_pos, go_sem, hP, t17]
        refine condP (fun h => ?_) (fun h => ?_)
        · have hv3 : v < 3 := by
            have : (v : Int) + 1 ≤ 3 := by simpa using h
            omega
          have wv := wrap_in ((v : Int) + 1 + 1) (by omega)
          have nxj : ∀ (s' : St), s'.t 3 = sp p → s'.t 4 = .ref 1 0 0 → s'.t 6 = iv d' → s'.t 7 = iv ((k : Int) + 1) → s'.t 17 = iv ((v : Int) + 1 + 1) → s'.H[1]? = some (some (cashO c')) → ∃ m', m' < m ∧ J m' s' := fun s' a3 a4 a6 a7 a17 b1 => by
            refine ⟨3 - (v + 1), by omega, ?_⟩
            rw [hJ]
            exact ⟨v + 1, by omega, rfl, a3, a4, a6, a7, by rw [a17]; simp, b1⟩
          clear hJ
          have nb := nb ((v : Int) + 1)
          have lc := lc ((v : Int) + 1)
          have oc := oc ((v : Int) + 1)
          obtain ⟨x1, hx1⟩ : ∃ x, x = looseS c'.Incomes c'.Loose ((v : Int) + 1) := ⟨_, rfl⟩
          obtain ⟨x2, hx2⟩ : ∃ x, x = owedS c'.Claims ((v : Int) + 1) := ⟨_, rfl⟩
          rw [← hx1] at nb lc
          rw [← hx2] at nb oc
          simp -dsimp -implicitDefEqProofs [-getElem?_pos, go_sem, hP, t4, t17, h1, lt1, cashO]
          refine callB_pure lc hP en_14 (args_same (by simpa [imm_sc] using ic')) .sc ?_
          by_cases p1 : 0 < x1
          · have p2 : ¬ 0 < x2 := fun h => nb ⟨p1, h⟩
            simp -dsimp -implicitDefEqProofs [-getElem?_pos, go_sem, hP, t4, t17, h1, lt1, cashO, p1]
            refine callB_pure oc hP en_13 (args_same (by simpa [imm_sc] using ic')) .sc ?_
            simp -dsimp -implicitDefEqProofs [-getElem?_pos, go_sem, hP, p2, t17, wv]
            exact nxj _ (by simp -dsimp -implicitDefEqProofs [-getElem?_pos, go_sem, t3]) (by simp -dsimp -implicitDefEqProofs [-getElem?_pos, go_sem, t4]) (by simp -dsimp -implicitDefEqProofs [-getElem?_pos, go_sem, t6]) (by simp -dsimp -implicitDefEqProofs [-getElem?_pos, go_sem, t7]) (by simp -dsimp -implicitDefEqProofs [-getElem?_pos, go_sem]) (by simp -dsimp -implicitDefEqProofs [-getElem?_pos, go_sem, lt1, h1])
          · simp -dsimp -implicitDefEqProofs [-getElem?_pos, go_sem, hP, t4, t17, p1, wv]
            exact nxj _ (by simp -dsimp -implicitDefEqProofs [-getElem?_pos, go_sem, t3]) (by simp -dsimp -implicitDefEqProofs [-getElem?_pos, go_sem, t4]) (by simp -dsimp -implicitDefEqProofs [-getElem?_pos, go_sem, t6]) (by simp -dsimp -implicitDefEqProofs [-getElem?_pos, go_sem, t7]) (by simp -dsimp -implicitDefEqProofs [-getElem?_pos, go_sem]) (by simp -dsimp -implicitDefEqProofs [-getElem?_pos, go_sem, lt1, h1])
        simp -dsimp -implicitDefEqProofs [-getElem?_pos, go_sem, hP, t7, wk]
        exact nxt _ d' c' g' q1 q2 (by simp -dsimp -implicitDefEqProofs [-getElem?_pos, go_sem, t3]) (by simp -dsimp -implicitDefEqProofs [-getElem?_pos, go_sem, t4]) (by simp -dsimp -implicitDefEqProofs [-getElem?_pos, go_sem, t6]) (by simp -dsimp -implicitDefEqProofs [-getElem?_pos, go_sem]) (by simp -dsimp -implicitDefEqProofs [-getElem?_pos, go_sem, lt1, h1])
      · have gc := hg.next
        simp -dsimp -implicitDefEqProofs [-getElem?_pos, go_sem, hP, e0, t4, lt1]
        refine ⟨agree_gen0 rfl fun i hi => ⟨by simp at hi; omega, rfl⟩, ?_⟩
        obtain ⟨d', hd'⟩ : ∃ d', d' = d := ⟨_, rfl⟩
        obtain ⟨c', hc'⟩ : ∃ c', c' = c := ⟨_, rfl⟩
        have g' : GN (k + 1) d' c' := by rw [hd', hc']; exact gc
        have q1 : 0 ≤ d' := by omega
        have q2 : d' ≤ 2 * ((k : Int) + 1) := by omega
        have oc := fun v => cowed_pf c' v (g'.fit (by omega))
        have lc := fun v => cloose_pf c' v (g'.fit (by omega))
        simp only [owedD_eq (g'.cash (by omega)), cCsh] at oc
        simp only [looseD_eq (g'.cash (by omega)), cCsh] at lc
        have ic' := cash_immN c'
        have nb := g'.none.sums
        obtain ⟨J, hJ⟩ : ∃ I : Nat → St → Prop, I = fun m s => ∃ (v : Nat), v ≤ 3 ∧ m = 3 - v ∧ s.t 3 = sp p ∧ s.t 4 = .ref 1 0 0 ∧ s.t 6 = iv d' ∧ s.t 7 = iv ((k : Int) + 1) ∧ s.t 17 = iv ((v : Int) + 1) ∧ s.H[1]? = some (some (cashO c')) := ⟨_, rfl⟩
        refine aloop0 J (3) (by rw [hN]; rfl) ?_ ?_
        · rw [hJ]
          exact ⟨0, by omega, by omega, by simp -dsimp -implicitDefEqProofs [-getElem?_pos, go_sem, t3], by simp -dsimp -implicitDefEqProofs [-getElem?_pos, go_sem, t4], by simp -dsimp -implicitDefEqProofs [-getElem?_pos, go_sem, t6, hd'], by simp -dsimp -implicitDefEqProofs [-getElem?_pos, go_sem, t7], by simp -dsimp -implicitDefEqProofs [-getElem?_pos, go_sem], by simp -dsimp -implicitDefEqProofs [-getElem?_pos, go_sem, lt1, h1, hc']⟩
        clear t3 t4 t6 t7 h1 lt1
        intro m s hs'
        rw [hJ] at hs'
        obtain ⟨v, hv, hm, t3, t4, t6, t7, t17, h1⟩ := hs'
        have lt1 := (List.getElem?_eq_some_iff.1 h1).1
        simp -dsimp -implicitDefEqProofs [-getElem?_pos, go_sem, hP, t17]
        refine condP (fun h => ?_) (fun h => ?_)
        · have hv3 : v < 3 := by
            have : (v : Int) + 1 ≤ 3 := by simpa using h
            omega
          have wv := wrap_in ((v : Int) + 1 + 1) (by omega)
          have nxj : ∀ (s' : St), s'.t 3 = sp p → s'.t 4 = .ref 1 0 0 → s'.t 6 = iv d' → s'.t 7 = iv ((k : Int) + 1) → s'.t 17 = iv ((v : Int) + 1 + 1) → s'.H[1]? = some (some (cashO c')) → ∃ m', m' < m ∧ J m' s' := fun s' a3 a4 a6 a7 a17 b1 => by
            refine ⟨3 - (v + 1), by omega, ?_⟩
            rw [hJ]
            exact ⟨v + 1, by omega, rfl, a3, a4, a6, a7, by rw [a17]; simp, b1⟩
          clear hJ
          have nb := nb ((v : Int) + 1)
          have lc := lc ((v : Int) + 1)
          have oc := oc ((v : Int) + 1)
          obtain ⟨x1, hx1⟩ : ∃ x, x = looseS c'.Incomes c'.Loose ((v : Int) + 1) := ⟨_, rfl⟩
          obtain ⟨x2, hx2⟩ : ∃ x, x = owedS c'.Claims ((v : Int) + 1) := ⟨_, rfl⟩
          rw [← hx1] at nb lc
          rw [← hx2] at nb oc
          simp -dsimp -implicitDefEqProofs [-getElem?_pos, go_sem, hP, t4, t17, h1, lt1, cashO]
          refine callB_pure lc hP en_14 (args_same (by simpa [imm_sc] using ic')) .sc ?_
          by_cases p1 : 0 < x1
          · have p2 : ¬ 0 < x2 := fun h => nb ⟨p1, h⟩
            simp -dsimp -implicitDefEqProofs [-getElem?_pos, go_sem, hP, t4, t17, h1, lt1, cashO, p1]
            refine callB_pure oc hP en_13 (args_same (by simpa [imm_sc] using ic')) .sc ?_
            simp -dsimp -implicitDefEqProofs [-getElem?_pos, go_sem, hP, p2, t17, wv]
            exact nxj _ (by simp -dsimp -implicitDefEqProofs [-getElem?_pos, go_sem, t3]) (by simp -dsimp -implicitDefEqProofs [-getElem?_pos, go_sem, t4]) (by simp -dsimp -implicitDefEqProofs [-getElem?_pos, go_sem, t6]) (by simp -dsimp -implicitDefEqProofs [-getElem?_pos, go_sem, t7]) (by simp -dsimp -implicitDefEqProofs [-getElem?_pos, go_sem]) (by simp -dsimp -implicitDefEqProofs [-getElem?_pos, go_sem, lt1, h1])
          · simp -dsimp -implicitDefEqProofs [-getElem?_pos, go_sem, hP, t4, t17, p1, wv]
            exact nxj _ (by simp -dsimp -implicitDefEqProofs [-getElem?_pos, go_sem, t3]) (by simp -dsimp -implicitDefEqProofs [-getElem?_pos, go_sem, t4]) (by simp -dsimp -implicitDefEqProofs [-getElem?_pos, go_sem, t6]) (by simp -dsimp -implicitDefEqProofs [-getElem?_pos, go_sem, t7]) (by simp -dsimp -implicitDefEqProofs [-getElem?_pos, go_sem]) (by simp -dsimp -implicitDefEqProofs [-getElem?_pos, go_sem, lt1, h1])
        simp -dsimp -implicitDefEqProofs [-getElem?_pos, go_sem, hP, t7, wk]
        exact nxt _ d' c' g' q1 q2 (by simp -dsimp -implicitDefEqProofs [-getElem?_pos, go_sem, t3]) (by simp -dsimp -implicitDefEqProofs [-getElem?_pos, go_sem, t4]) (by simp -dsimp -implicitDefEqProofs [-getElem?_pos, go_sem, t6]) (by simp -dsimp -implicitDefEqProofs [-getElem?_pos, go_sem]) (by simp -dsimp -implicitDefEqProofs [-getElem?_pos, go_sem, lt1, h1])
    by_cases z1 : z = 1
    · subst z1
      simp -dsimp -implicitDefEqProofs [-getElem?_pos, go_sem, hP]
      refine adrawQ (fun i => decide (i = 1)) [9] [2, 3] hP (by kernel_rfl) (by kernel_rfl) ?_
      simp -dsimp -implicitDefEqProofs [-getElem?_pos, go_sem, hP, t4, t3, h1, lt1, cashO]
      refine callQ_isQ (up (range_pf p src 1 12 (by omega) (by omega))) hP en_24 (by simp -dsimp -implicitDefEqProofs [-getElem?_pos, go_sem]) ⟨iv 1, ⟨1, rfl, by omega, by omega⟩, .sc⟩ ?_
      rintro r ⟨n, rfl, _⟩ _
      have rf := crefund_pf c n fit
      obtain ⟨b, hb⟩ : ∃ b, b = (refundD c n).1 := ⟨_, rfl⟩
      obtain ⟨lo, hlo⟩ : ∃ e, e = (refundD c n).2.1 := ⟨_, rfl⟩
      obtain ⟨e, he⟩ : ∃ e, e = (refundD c n).2.2 := ⟨_, rfl⟩
      rw [← hb, ← hlo, ← he, cCsh, cCsh] at rf
      have ib := cash_immN b
      simp -dsimp -implicitDefEqProofs [-getElem?_pos, go_sem, hP]
      refine callQ_is (rf.lift _ _) hP en_16 (by simpa [imm_sc] using ic) (imm_trip ib .sc .sc) ?_
      simp -dsimp -implicitDefEqProofs [-getElem?_pos, go_sem, hP]
      by_cases e0 : e = 0
      · obtain ⟨i, q5⟩ := refundD_ok (c := c) (n := n) (by rw [← he]; exact e0)
        have gb : GN (k + 1) d b := by rw [hb, q5]; exact hg.refund i
        simp -dsimp -implicitDefEqProofs [-getElem?_pos, go_sem, hP, e0, t4, lt1, h1, cashO]
        refine ⟨agree_gen0 rfl fun i hi => ⟨by simp at hi; omega, rfl⟩, ?_⟩
        obtain ⟨d', hd'⟩ : ∃ d', d' = d := ⟨_, rfl⟩
        obtain ⟨c', hc'⟩ : ∃ c', c' = b := ⟨_, rfl⟩
        have g' : GN (k + 1) d' c' := by rw [hd', hc']; exact gb
        have q1 : 0 ≤ d' := by omega
        have q2 : d' ≤ 2 * ((k : Int) + 1) := by omega
        have oc := fun v => cowed_pf c' v (g'.fit (by omega))
        have lc := fun v => cloose_pf c' v (g'.fit (by omega))
        simp only [owedD_eq (g'.cash (by omega)), cCsh] at oc
        simp only [looseD_eq (g'.cash (by omega)), cCsh] at lc
        have ic' := cash_immN c'
        have nb := g'.none.sums
        obtain ⟨J, hJ⟩ : ∃ I : Nat → St → Prop, I = fun m s => ∃ (v : Nat), v ≤ 3 ∧ m = 3 - v ∧ s.t 3 = sp p ∧ s.t 4 = .ref 1 0 0 ∧ s.t 6 = iv d' ∧ s.t 7 = iv ((k : Int) + 1) ∧ s.t 17 = iv ((v : Int) + 1) ∧ s.H[1]? = some (some (cashO c')) := ⟨_, rfl⟩
        refine aloop0 J (3) (by rw [hN]; rfl) ?_ ?_
        · rw [hJ]
          exact ⟨0, by omega, by omega, by simp -dsimp -implicitDefEqProofs [-getElem?_pos, go_sem, t3], by simp -dsimp -implicitDefEqProofs [-getElem?_pos, go_sem, t4], by simp -dsimp -implicitDefEqProofs [-getElem?_pos, go_sem, t6, hd'], by simp -dsimp -implicitDefEqProofs [-getElem?_pos, go_sem, t7], by simp -dsimp -implicitDefEqProofs [-getElem?_pos, go_sem], by simp -dsimp -implicitDefEqProofs [-getElem?_pos, go_sem, lt1, cashO, hc']⟩
        clear t3 t4 t6 t7 h1 lt1
        intro m s hs'
        rw [hJ] at hs'
        obtain ⟨v, hv, hm, t3, t4, t6, t7, t17, h1⟩ := hs'
        have lt1 := (List.getElem?_eq_some_iff.1 h1).1
        simp -dsimp -implicitDefEqProofs [-getElem?_pos, go_sem, hP, t17]
        refine condP (fun h => ?_) (fun h => ?_)
        · have hv3 : v < 3 := by
            have : (v : Int) + 1 ≤ 3 := by simpa using h
            omega
          have wv := wrap_in ((v : Int) + 1 + 1) (by omega)
          have nxj : ∀ (s' : St), s'.t 3 = sp p → s'.t 4 = .ref 1 0 0 → s'.t 6 = iv d' → s'.t 7 = iv ((k : Int) + 1) → s'.t 17 = iv ((v : Int) + 1 + 1) → s'.H[1]? = some (some (cashO c')) → ∃ m', m' < m ∧ J m' s' := fun s' a3 a4 a6 a7 a17 b1 => by
            refine ⟨3 - (v + 1), by omega, ?_⟩
            rw [hJ]
            exact ⟨v + 1, by omega, rfl, a3, a4, a6, a7, by rw [a17]; simp, b1⟩
          clear hJ
          have nb := nb ((v : Int) + 1)
          have lc := lc ((v : Int) + 1)
          have oc := oc ((v : Int) + 1)
          obtain ⟨x1, hx1⟩ : ∃ x, x = looseS c'.Incomes c'.Loose ((v : Int) + 1) := ⟨_, rfl⟩
          obtain ⟨x2, hx2⟩ : ∃ x, x = owedS c'.Claims ((v : Int) + 1) := ⟨_, rfl⟩
          rw [← hx1] at nb lc
          rw [← hx2] at nb oc
          simp -dsimp -implicitDefEqProofs [-getElem?_pos, go_sem, hP, t4, t17, h1, lt1, cashO]
          refine callB_pure lc hP en_14 (args_same (by simpa [imm_sc] using ic')) .sc ?_
          by_cases p1 : 0 < x1
          · have p2 : ¬ 0 < x2 := fun h => nb ⟨p1, h⟩
            simp -dsimp -implicitDefEqProofs [-getElem?_pos, go_sem, hP, t4, t17, h1, lt1, cashO, p1]
            refine callB_pure oc hP en_13 (args_same (by simpa [imm_sc] using ic')) .sc ?_
            simp -dsimp -implicitDefEqProofs [-getElem?_pos, go_sem, hP, p2, t17, wv]
            exact nxj _ (by simp -dsimp -implicitDefEqProofs [-getElem?_pos, go_sem, t3]) (by simp -dsimp -implicitDefEqProofs [-getElem?_pos, go_sem, t4]) (by simp -dsimp -implicitDefEqProofs [-getElem?_pos, go_sem, t6]) (by simp -dsimp -implicitDefEqProofs [-getElem?_pos, go_sem, t7]) (by simp -dsimp -implicitDefEqProofs [-getElem?_pos, go_sem]) (by simp -dsimp -implicitDefEqProofs [-getElem?_pos, go_sem, lt1, h1])
          · simp -dsimp -implicitDefEqProofs [-getElem?_pos, go_sem, hP, t4, t17, p1, wv]
            exact nxj _ (by simp -dsimp -implicitDefEqProofs [-getElem?_pos, go_sem, t3]) (by simp -dsimp -implicitDefEqProofs [-getElem?_pos, go_sem, t4]) (by simp -dsimp -implicitDefEqProofs [-getElem?_pos, go_sem, t6]) (by simp -dsimp -implicitDefEqProofs [-getElem?_pos, go_sem, t7]) (by simp -dsimp -implicitDefEqProofs [-getElem?_pos, go_sem]) (by simp -dsimp -implicitDefEqProofs [-getElem?_pos, go_sem, lt1, h1])
        simp -dsimp -implicitDefEqProofs [-getElem?_pos, go_sem, hP, t7, wk]
        exact nxt _ d' c' g' q1 q2 (by simp -dsimp -implicitDefEqProofs [-getElem?_pos, go_sem, t3]) (by simp -dsimp -implicitDefEqProofs [-getElem?_pos, go_sem, t4]) (by simp -dsimp -implicitDefEqProofs [-getElem?_pos, go_sem, t6]) (by simp -dsimp -implicitDefEqProofs [-getElem?_pos, go_sem]) (by simp -dsimp -implicitDefEqProofs [-getElem?_pos, go_sem, lt1, h1])
      · have gc := hg.next
        simp -dsimp -implicitDefEqProofs [-getElem?_pos, go_sem, hP, e0, t4, lt1]
        refine ⟨agree_gen0 rfl fun i hi => ⟨by simp at hi; omega, rfl⟩, ?_⟩
        obtain ⟨d', hd'⟩ : ∃ d', d' = d := ⟨_, rfl⟩
        obtain ⟨c', hc'⟩ : ∃ c', c' = c := ⟨_, rfl⟩
        have g' : GN (k + 1) d' c' := by rw [hd', hc']; exact gc
        have q1 : 0 ≤ d' := by omega
        have q2 : d' ≤ 2 * ((k : Int) + 1) := by omega
        have oc := fun v => cowed_pf c' v (g'.fit (by omega))
        have lc := fun v => cloose_pf c' v (g'.fit (by omega))
        simp only [owedD_eq (g'.cash (by omega)), cCsh] at oc
        simp only [looseD_eq (g'.cash (by omega)), cCsh] at lc
        have ic' := cash_immN c'
        have nb := g'.none.sums
        obtain ⟨J, hJ⟩ : ∃ I : Nat → St → Prop, I = fun m s => ∃ (v : Nat), v ≤ 3 ∧ m = 3 - v ∧ s.t 3 = sp p ∧ s.t 4 = .ref 1 0 0 ∧ s.t 6 = iv d' ∧ s.t 7 = iv ((k : Int) + 1) ∧ s.t 17 = iv ((v : Int) + 1) ∧ s.H[1]? = some (some (cashO c')) := ⟨_, rfl⟩
        refine aloop0 J (3) (by rw [hN]; rfl) ?_ ?_
        · rw [hJ]
          exact ⟨0, by omega, by omega, by simp -dsimp -implicitDefEqProofs [-getElem?_pos, go_sem, t3], by simp -dsimp -implicitDefEqProofs [-getElem?_pos, go_sem, t4], by simp -dsimp -implicitDefEqProofs [-getElem?_pos, go_sem, t6, hd'], by simp -dsimp -implicitDefEqProofs [-getElem?_pos, go_sem, t7], by simp -dsimp -implicitDefEqProofs [-getElem?_pos, go_sem], by simp -dsimp -implicitDefEqProofs [-getElem?_pos, go_sem, lt1, h1, hc']⟩
        clear t3 t4 t6 t7 h1 lt1
        intro m s hs'
        rw [hJ] at hs'
        obtain ⟨v, hv, hm, t3, t4, t6, t7, t17, h1⟩ := hs'
        have lt1 := (List.getElem?_eq_some_iff.1 h1).1
        simp -dsimp -implicitDefEqProofs [-getElem?_pos, go_sem, hP, t17]
        refine condP (fun h => ?_) (fun h => ?_)
        · have hv3 : v < 3 := by
            have : (v : Int) + 1 ≤ 3 := by simpa using h
            omega
          have wv := wrap_in ((v : Int) + 1 + 1) (by omega)
          have nxj : ∀ (s' : St), s'.t 3 = sp p → s'.t 4 = .ref 1 0 0 → s'.t 6 = iv d' → s'.t 7 = iv ((k : Int) + 1) → s'.t 17 = iv ((v : Int) + 1 + 1) → s'.H[1]? = some (some (cashO c')) → ∃ m', m' < m ∧ J m' s' := fun s' a3 a4 a6 a7 a17 b1 => by
            refine ⟨3 - (v + 1), by omega, ?_⟩
            rw [hJ]
            exact ⟨v + 1, by omega, rfl, a3, a4, a6, a7, by rw [a17]; simp, b1⟩
          clear hJ
          have nb := nb ((v : Int) + 1)
          have lc := lc ((v : Int) + 1)
          have oc := oc ((v : Int) + 1)
          obtain ⟨x1, hx1⟩ : ∃ x, x = looseS c'.Incomes c'.Loose ((v : Int) + 1) := ⟨_, rfl⟩
          obtain ⟨x2, hx2⟩ : ∃ x, x = owedS c'.Claims ((v : Int) + 1) := ⟨_, rfl⟩
          rw [← hx1] at nb lc
          rw [← hx2] at nb oc
          simp -dsimp -implicitDefEqProofs [-getElem?_pos, go_sem, hP, t4, t17, h1, lt1, cashO]
          refine callB_pure lc hP en_14 (args_same (by simpa [imm_sc] using ic')) .sc ?_
          by_cases p1 : 0 < x1
          · have p2 : ¬ 0 < x2 := fun h => nb ⟨p1, h⟩
            simp -dsimp -implicitDefEqProofs [-getElem?_pos, go_sem, hP, t4, t17, h1, lt1, cashO, p1]
            refine callB_pure oc hP en_13 (args_same (by simpa [imm_sc] using ic')) .sc ?_
            simp -dsimp -implicitDefEqProofs [-getElem?_pos, go_sem, hP, p2, t17, wv]
            exact nxj _ (by simp -dsimp -implicitDefEqProofs [-getElem?_pos, go_sem, t3]) (by simp -dsimp -implicitDefEqProofs [-getElem?_pos, go_sem, t4]) (by simp -dsimp -implicitDefEqProofs [-getElem?_pos, go_sem, t6]) (by simp -dsimp -implicitDefEqProofs [-getElem?_pos, go_sem, t7]) (by simp -dsimp -implicitDefEqProofs [-getElem?_pos, go_sem]) (by simp -dsimp -implicitDefEqProofs [-getElem?_pos, go_sem, lt1, h1])
          · simp -dsimp -implicitDefEqProofs [-getElem?_pos, go_sem, hP, t4, t17, p1, wv]
            exact nxj _ (by simp -dsimp -implicitDefEqProofs [-getElem?_pos, go_sem, t3]) (by simp -dsimp -implicitDefEqProofs [-getElem?_pos, go_sem, t4]) (by simp -dsimp -implicitDefEqProofs [-getElem?_pos, go_sem, t6]) (by simp -dsimp -implicitDefEqProofs [-getElem?_pos, go_sem, t7]) (by simp -dsimp -implicitDefEqProofs [-getElem?_pos, go_sem]) (by simp -dsimp -implicitDefEqProofs [-getElem?_pos, go_sem, lt1, h1])
        simp -dsimp -implicitDefEqProofs [-getElem?_pos, go_sem, hP, t7, wk]
        exact nxt _ d' c' g' q1 q2 (by simp -dsimp -implicitDefEqProofs [-getElem?_pos, go_sem, t3]) (by simp -dsimp -implicitDefEqProofs [-getElem?_pos, go_sem, t4]) (by simp -dsimp -implicitDefEqProofs [-getElem?_pos, go_sem, t6]) (by simp -dsimp -implicitDefEqProofs [-getElem?_pos, go_sem]) (by simp -dsimp -implicitDefEqProofs [-getElem?_pos, go_sem, lt1, h1])
    simp -dsimp -implicitDefEqProofs [-getElem?_pos, go_sem, hP, z0, z1, t6, t3]
    refine callB_flat (up (N_pf p src 3 (by omega))) hP en_38 (args_same (by simp -dsimp -implicitDefEqProofs [-getElem?_pos, go_sem])) (NQ_ex _) (NQ_flat _) ?_
    rintro r ⟨u, rfl, _, hu⟩
    have hu := hu (by omega)
    have wd := wrap_in (d + u) (by omega)
    simp -dsimp -implicitDefEqProofs [-getElem?_pos, go_sem, hP, wd]
    refine adrawQ (fun i => decide (i = 1)) [11] [4, 5] hP (by kernel_rfl) (by kernel_rfl) ?_
    simp -dsimp -implicitDefEqProofs [-getElem?_pos, go_sem, hP, t4, t7, t3, h1, lt1, cashO]
    refine callQ_isQ (up (sincome_pf p src ((k : Int) + 1) (d + u))) hP en_10 (by simp -dsimp -implicitDefEqProofs [-getElem?_pos, go_sem]) (incomeQ_ex _ _) ?_
    rintro r ⟨x, rfl, hx⟩ _
    have ix := imm_agg.2 x.imm
    obtain ⟨xb, _⟩ := hx.inc (by omega) (by omega)
    obtain ⟨ek, gk⟩ := hg.take (by omega) xb hx.1 (by rw [hx.2.1]; omega)
    rw [hx.2.1] at gk
    have tk := ctake_pf c x fit (by have := hg.cl; omega)
    rw [ek] at tk
    simp only at tk
    obtain ⟨b, hb⟩ : ∃ b, b = taken c x := ⟨_, rfl⟩
    obtain ⟨ms, hms⟩ : ∃ ms, ms = (taken c x).Matches.drop c.Matches.length := ⟨_, rfl⟩
    rw [← hms, ← hb, cCsh, cCsh, cIncm] at tk
    rw [← hb] at gk
    rw [cIncm] at ix
    have ib := cash_immN b
    simp -dsimp -implicitDefEqProofs [-getElem?_pos, go_sem, hP, cIncm]
    refine callQ_is (tk.lift _ _) hP en_11 (by simpa using ⟨ic, ix⟩) (imm_trip ib (imm_matches ms) .sc) ?_
    simp -dsimp -implicitDefEqProofs [-getElem?_pos, go_sem, hP, t4, lt1, h1, cashO]
    refine ⟨agree_gen0 rfl fun i hi => ⟨by simp at hi; omega, rfl⟩, ?_⟩
    obtain ⟨d', hd'⟩ : ∃ d', d' = (d + u) := ⟨_, rfl⟩
    obtain ⟨c', hc'⟩ : ∃ c', c' = b := ⟨_, rfl⟩
    have g' : GN (k + 1) d' c' := by rw [hd', hc']; exact gk
    have q1 : 0 ≤ d' := by omega
    have q2 : d' ≤ 2 * ((k : Int) + 1) := by omega
    have oc := fun v => cowed_pf c' v (g'.fit (by omega))
    have lc := fun v => cloose_pf c' v (g'.fit (by omega))
    simp only [owedD_eq (g'.cash (by omega)), cCsh] at oc
    simp only [looseD_eq (g'.cash (by omega)), cCsh] at lc
    have ic' := cash_immN c'
    have nb := g'.none.sums
    obtain ⟨J, hJ⟩ : ∃ I : Nat → St → Prop, I = fun m s => ∃ (v : Nat), v ≤ 3 ∧ m = 3 - v ∧ s.t 3 = sp p ∧ s.t 4 = .ref 1 0 0 ∧ s.t 6 = iv d' ∧ s.t 7 = iv ((k : Int) + 1) ∧ s.t 17 = iv ((v : Int) + 1) ∧ s.H[1]? = some (some (cashO c')) := ⟨_, rfl⟩
    refine aloop0 J (3) (by rw [hN]; rfl) ?_ ?_
    · rw [hJ]
      exact ⟨0, by omega, by omega, by simp -dsimp -implicitDefEqProofs [-getElem?_pos, go_sem, t3], by simp -dsimp -implicitDefEqProofs [-getElem?_pos, go_sem, t4], by simp -dsimp -implicitDefEqProofs [-getElem?_pos, go_sem, hd'], by simp -dsimp -implicitDefEqProofs [-getElem?_pos, go_sem, t7], by simp -dsimp -implicitDefEqProofs [-getElem?_pos, go_sem], by simp -dsimp -implicitDefEqProofs [-getElem?_pos, go_sem, lt1, cashO, hc']⟩
    clear t3 t4 t6 t7 h1 lt1
    intro m s hs'
    rw [hJ] at hs'
    obtain ⟨v, hv, hm, t3, t4, t6, t7, t17, h1⟩ := hs'
    have lt1 := (List.getElem?_eq_some_iff.1 h1).1
    simp -dsimp -implicitDefEqProofs [-getElem?_pos, go_sem, hP, t17]
    refine condP (fun h => ?_) (fun h => ?_)
    · have hv3 : v < 3 := by
        have : (v : Int) + 1 ≤ 3 := by simpa using h
        omega
      have wv := wrap_in ((v : Int) + 1 + 1) (by omega)
      have nxj : ∀ (s' : St), s'.t 3 = sp p → s'.t 4 = .ref 1 0 0 → s'.t 6 = iv d' → s'.t 7 = iv ((k : Int) + 1) → s'.t 17 = iv ((v : Int) + 1 + 1) → s'.H[1]? = some (some (cashO c')) → ∃ m', m' < m ∧ J m' s' := fun s' a3 a4 a6 a7 a17 b1 => by
        refine ⟨3 - (v + 1), by omega, ?_⟩
        rw [hJ]
        exact ⟨v + 1, by omega, rfl, a3, a4, a6, a7, by rw [a17]; simp, b1⟩
      clear hJ
      have nb := nb ((v : Int) + 1)
      have lc := lc ((v : Int) + 1)
      have oc := oc ((v : Int) + 1)
      obtain ⟨x1, hx1⟩ : ∃ x, x = looseS c'.Incomes c'.Loose ((v : Int) + 1) := ⟨_, rfl⟩
      obtain ⟨x2, hx2⟩ : ∃ x, x = owedS c'.Claims ((v : Int) + 1) := ⟨_, rfl⟩
      rw [← hx1] at nb lc
      rw [← hx2] at nb oc
      simp -dsimp -implicitDefEqProofs [-getElem?_pos, go_sem, hP, t4, t17, h1, lt1, cashO]
      refine callB_pure lc hP en_14 (args_same (by simpa [imm_sc] using ic')) .sc ?_
      by_cases p1 : 0 < x1
      · have p2 : ¬ 0 < x2 := fun h => nb ⟨p1, h⟩
        simp -dsimp -implicitDefEqProofs [-getElem?_pos, go_sem, hP, t4, t17, h1, lt1, cashO, p1]
        refine callB_pure oc hP en_13 (args_same (by simpa [imm_sc] using ic')) .sc ?_
        simp -dsimp -implicitDefEqProofs [-getElem?_pos, go_sem, hP, p2, t17, wv]
        exact nxj _ (by simp -dsimp -implicitDefEqProofs [-getElem?_pos, go_sem, t3]) (by simp -dsimp -implicitDefEqProofs [-getElem?_pos, go_sem, t4]) (by simp -dsimp -implicitDefEqProofs [-getElem?_pos, go_sem, t6]) (by simp -dsimp -implicitDefEqProofs [-getElem?_pos, go_sem, t7]) (by simp -dsimp -implicitDefEqProofs [-getElem?_pos, go_sem]) (by simp -dsimp -implicitDefEqProofs [-getElem?_pos, go_sem, lt1, h1])
      · simp -dsimp -implicitDefEqProofs [-getElem?_pos, go_sem, hP, t4, t17, p1, wv]
        exact nxj _ (by simp -dsimp -implicitDefEqProofs [-getElem?_pos, go_sem, t3]) (by simp -dsimp -implicitDefEqProofs [-getElem?_pos, go_sem, t4]) (by simp -dsimp -implicitDefEqProofs [-getElem?_pos, go_sem, t6]) (by simp -dsimp -implicitDefEqProofs [-getElem?_pos, go_sem, t7]) (by simp -dsimp -implicitDefEqProofs [-getElem?_pos, go_sem]) (by simp -dsimp -implicitDefEqProofs [-getElem?_pos, go_sem, lt1, h1])
    simp -dsimp -implicitDefEqProofs [-getElem?_pos, go_sem, hP, t7, wk]
    exact nxt _ d' c' g' q1 q2 (by simp -dsimp -implicitDefEqProofs [-getElem?_pos, go_sem, t3]) (by simp -dsimp -implicitDefEqProofs [-getElem?_pos, go_sem, t4]) (by simp -dsimp -implicitDefEqProofs [-getElem?_pos, go_sem, t6]) (by simp -dsimp -implicitDefEqProofs [-getElem?_pos, go_sem]) (by simp -dsimp -implicitDefEqProofs [-getElem?_pos, go_sem, lt1, h1])
  have ck := ccheck_pf c fit
  rw [hg.cash (by omega), cCsh] at ck
  simp -dsimp -implicitDefEqProofs [-getElem?_pos, go_sem, hP, t4, h1, lt1, cashO]
  refine callB_pure ck hP en_15 (args_same (by simpa using ic)) .sc ?_
  simp -dsimp -implicitDefEqProofs [-getElem?_pos, go_sem, hP]
  refine saneB ?_
  simp -dsimp -implicitDefEqProofs [-getElem?_pos, go_sem, hP]
end Go.Proofs.YtgapbmaehfdkoaaGreatDoor
