/- The source of numbers: cash. -/
import Derived.Test.YtgapbmaehfdkoaaGreatDoorCashGen
set_option linter.unusedSimpArgs false
set_option linter.unusedVariables false
namespace Go.Proofs.YtgapbmaehfdkoaaGreatDoor
open Go.PA
open Go.RowKit

theorem takeD_ok {c : TCash} {x : TIncome} (h : (takeD c x).2.2 = 0) : (cashE c = 0 ∧ incB x = true ∧ lastN c < x.Number ∧ lastD c ≤ x.Day) ∧ takeD c x = (taken c x, (taken c x).Matches.drop c.Matches.length, 0) := by
  unfold takeD at h ⊢
  by_cases h1 : cashE c = 0
  rotate_left
  · rw [if_neg h1] at h
    exact absurd h h1
  rw [if_pos h1] at h ⊢
  by_cases h2 : incB x = true
  rotate_left
  · rw [if_neg h2] at h
    simp at h
  rw [if_pos h2] at h ⊢
  by_cases h3 : lastN c < x.Number
  rotate_left
  · rw [if_neg h3] at h
    simp at h
  rw [if_pos h3] at h ⊢
  by_cases h4 : lastD c ≤ x.Day
  rotate_left
  · rw [if_neg h4] at h
    simp at h
  rw [if_pos h4] at h ⊢
  by_cases h5 : c.Incomes.length < 100
  rotate_left
  · rw [if_neg h5] at h
    simp at h
  rw [if_pos h5] at h ⊢
  by_cases h6 : (taken c x).Matches.length ≤ 160
  rotate_left
  · rw [if_neg h6] at h
    simp at h
  rw [if_pos h6]
  exact ⟨⟨h1, h2, h3, h4⟩, rfl⟩
theorem takeD_yes {c : TCash} {x : TIncome} (h1 : cashE c = 0) (h2 : incB x = true) (h3 : lastN c < x.Number) (h4 : lastD c ≤ x.Day) (h5 : c.Incomes.length < 100) (h6 : (taken c x).Matches.length ≤ 160) : takeD c x = (taken c x, (taken c x).Matches.drop c.Matches.length, 0) := by
  rw [takeD, if_pos h1, if_pos h2, if_pos h3, if_pos h4, if_pos h5, if_pos h6]
/-- Cash that was made out of few claims and incomes. -/
structure GenC (n k : Nat) (d : Int) (c : TCash) : Prop where
  ok : CashOk c
  cl : c.Claims.length ≤ n
  inc : c.Incomes.length ≤ k
  pot : pot c ≤ n + k
  num : lastN c ≤ 2 * k
  day : lastD c ≤ d
  code : ∀ x, x ∈ c.Claims → x.Code.size ≤ 1000
theorem GenC.cash {n k : Nat} {d : Int} {c : TCash} (h : GenC n k d c) (hk : n + k ≤ 50) : cashE c = 0 := by
  refine cashE_ok.2 ⟨⟨by have := h.cl; omega, by have := h.inc; omega, ?_⟩, h.ok⟩
  have := h.pot
  unfold Go.Proofs.YtgapbmaehfdkoaaGreatDoor.pot at this
  omega
theorem GenC.fit {n k : Nat} {d : Int} {c : TCash} (h : GenC n k d c) (hk : n + k ≤ 50) : FitC c := by
  have h1 := h.pot
  unfold Go.Proofs.YtgapbmaehfdkoaaGreatDoor.pot at h1
  have h2 := h.cl
  have h3 := h.inc
  have h4 := h.ok.len
  exact ⟨by omega, by omega, by omega, by omega, fun x hx => by have := h.code x hx; omega⟩
theorem taken_inc {c : TCash} {x : TIncome} (h : Pos c) (hx : 0 ≤ x.Amount) : (taken c x).Incomes = c.Incomes ++ [x] := (taken_fall h hx).inc
theorem GenC.take {n k : Nat} {d : Int} {c : TCash} (h : GenC n k d c) {x : TIncome} (hx : incB x = true) (hn : lastN c < x.Number) (hd : lastD c ≤ x.Day) (hm : x.Number ≤ 2 * (k + 1)) : GenC n (k + 1) x.Day (taken c x) := by
  have amt := incB_amount hx
  have f := taken_fall h.ok.pos (x := x) (by omega)
  have e := taken_inc h.ok.pos (x := x) (by omega)
  have p := taken_pot h.ok.pos (x := x) (by omega)
  have h1 := h.cl
  have h2 := h.inc
  have h3 := h.pot
  refine ⟨taken_ok h.ok hx hn hd, ?_, ?_, by omega, ?_, ?_, fun z hz => ?_⟩
  · rw [f.cn]
    exact h1
  · rw [e, List.length_append, List.length_singleton]
    omega
  · simp only [lastN, e, List.getLast?_append, List.getLast?_singleton, Option.some_or, Option.map_some, Option.getD_some]
    omega
  · simp only [lastD, e, List.getLast?_append, List.getLast?_singleton, Option.some_or, Option.map_some, Option.getD_some]
    omega
  · obtain ⟨j, hj⟩ := List.getElem?_of_mem hz
    obtain ⟨y, hy, _, _, ey⟩ := f.back hj
    rw [ey]
    exact h.code y (List.mem_of_getElem? hy)
theorem GenCl.pay {i : Nat} {y : TClaim} (h : GenCl i y) (hi : i ≤ 100) : payB y = true := by
  obtain ⟨h1, h2, h3, h4, h5, h6⟩ := h
  have h3' : 5 ≤ y.Amount ∧ y.Amount ≤ 250 := by simp at h3; omega
  have hc := (codesC_ok h6).1
  exact payB_iff.2 ⟨by omega, by omega, by omega, by omega, by omega, hc⟩
theorem GenCs.pays {l : List TClaim} (h : GenCs l) (hl : l.length ≤ 100) : paysB 0 l = true := by
  refine (paysB_iff _ _).2 ⟨fun x hx => ?_, ?_⟩
  · obtain ⟨i, hi⟩ := List.getElem?_of_mem hx
    have lt := (List.getElem?_eq_some_iff.1 hi).1
    have g := h i x hi
    exact ⟨g.pay (by omega), by have := g.1; omega⟩
  · refine List.pairwise_iff_getElem.2 fun i j hi hj hij => ?_
    have g1 := (h i _ (List.getElem?_eq_getElem hi)).1
    have g2 := (h j _ (List.getElem?_eq_getElem hj)).1
    omega
theorem new_ok {l : List TClaim} (h : paysB 0 l = true) (hl : l.length ≤ 60) (ho : ∀ x, x ∈ l → x.Open = x.Amount) : newD l = (⟨l, [], [], []⟩, 0) ∧ CashOk ⟨l, [], [], []⟩ := by
  have p := (paysB_iff _ _).1 h
  constructor
  · have e : (l.all fun c => decide (c.Open = c.Amount)) = true := List.all_eq_true.2 fun x hx => decide_eq_true (ho x hx)
    rw [newD, if_pos hl, h, e]
    rfl
  · refine ⟨⟨fun x hx => (p.1 x hx).1, p.2⟩, ⟨fun x hx => by simp at hx, List.Pairwise.nil⟩, rfl, fun m hm => by simp at hm, fun x hx => ?_, fun i y lo hy => by simp at hy⟩
    have := ho x hx
    show (0 : Int) = _
    omega
theorem GenCs.new {l : List TClaim} {n : Nat} (h : GenCs l) (hl : l.length ≤ n) (hn : n ≤ 50) : newD l = (⟨l, [], [], []⟩, 0) ∧ GenC n 0 0 ⟨l, [], [], []⟩ := by
  have ho : ∀ x, x ∈ l → x.Open = x.Amount := fun x hx => by
    obtain ⟨i, hi⟩ := List.getElem?_of_mem hx
    exact (h i x hi).2.2.2.1
  obtain ⟨e, ok⟩ := new_ok (h.pays (by omega)) (by omega) ho
  refine ⟨e, ok, hl, Nat.le_refl _, ?_, by simp [lastN], by simp [lastD], fun x hx => ?_⟩
  · have := List.countP_le_length (p := fun z : TClaim => decide (0 < z.Open)) (l := l)
    unfold pot
    simp only [List.length_nil, List.countP_nil]
    omega
  · obtain ⟨i, hi⟩ := List.getElem?_of_mem hx
    have := (codesC_ok (h i x hi).2.2.2.2.2).2
    omega
theorem GenI.inc {n d : Int} {y : TIncome} (h : GenI n d y) (hn : 1 ≤ n ∧ n ≤ 1000) (hd : 0 ≤ d ∧ d ≤ 1000) : incB y = true ∧ 1 ≤ y.Amount ∧ y.Amount ≤ 300 := by
  obtain ⟨h1, h2, h3, h4, h5⟩ := h
  have h4' : 1 ≤ y.Amount ∧ y.Amount ≤ 300 := by simp at h4; omega
  have h5' : 0 ≤ y.Claim ∧ y.Claim ≤ 99 := by simp at h5; omega
  refine ⟨?_, h4'⟩
  simp only [incB, Bool.and_eq_true]
  exact ⟨⟨⟨⟨btw_iff.2 (by omega), btw_iff.2 (by omega)⟩, btw_iff.2 (by omega)⟩, btw_iff.2 (by omega)⟩, btw_iff.2 (by omega)⟩
def CashQ (most : Nat) (x : AV) : Prop := ∃ (c : TCash) (k : Nat) (d : Int), x = .agg c.cells ∧ k ≤ most ∧ 0 ≤ d ∧ d ≤ 3 * k ∧ GenC 5 k d c
theorem cashQ_ex (n : Nat) : ∃ r, CashQ n r ∧ Imm r := by
  obtain ⟨_, h⟩ := GenCs.new (l := []) (n := 5) (fun i y h => by simp at h) (by simp) (by omega)
  exact ⟨_, ⟨⟨[], [], [], []⟩, 0, 0, rfl, by omega, by omega, by omega, h⟩, imm_agg.2 (TCash.imm _)⟩
set_option maxHeartbeats 4000000 in
set_option maxRecDepth 8000 in
theorem scash_pf (p : Nat) (src : Option Nat) (most : Nat) (hmo : most ≤ 20) : PFun Tryz.prog (some p) src 9 [sp p, iv most] (CashQ most) := by
  refine pfun_intro Tryz.func9 rfl (by simp [Tryz.f9]) (by kernel_rfl) ?_
  intro E hP hr hs hW hN
  have up : ∀ {f : FuncId} {args : List AV} {Q : AV → Prop}, PFun Tryz.prog (some p) src f args Q → PFun Tryz.prog E.row E.src f args Q := fun h => hr ▸ hs ▸ h
  have w1 := wrap_in ((most : Int) + 1) (by omega)
  simp -dsimp -implicitDefEqProofs [-getElem?_pos, go_sem, hP]
  refine callB_isQ (up (sclaims_pf p src 5 (by omega))) hP en_20 (by simp -dsimp -implicitDefEqProofs [-getElem?_pos, go_sem]) (claimsQ_ex 5) ?_
  rintro r ⟨l, rfl, hl5, hg⟩ _
  obtain ⟨en, g0⟩ := hg.new hl5 (by omega)
  have fl : FitL l := ⟨by omega, fun x hx => by have := g0.code x hx; omega⟩
  have nw := crnew_pf l fl
  rw [en, cCsh] at nw
  simp only at nw
  obtain ⟨c0, hc0⟩ : ∃ c0 : TCash, c0 = ⟨l, [], [], []⟩ := ⟨_, rfl⟩
  rw [← hc0] at g0
  have ic0 := imm_agg.2 c0.imm
  rw [cCsh, hc0] at ic0
  simp only at ic0
  simp -dsimp -implicitDefEqProofs [-getElem?_pos, go_sem, hP]
  refine callB_is (nw.lift _ _) hP en_22 (by simpa using imm_claims l) (imm_pair ic0 .sc) ?_
  simp -dsimp -implicitDefEqProofs [-getElem?_pos, go_sem, hP]
  obtain ⟨I, hI⟩ : ∃ I : Nat → St → Prop, I = fun m s => ∃ (k : Nat) (d : Int) (c : TCash), k ≤ most ∧ m = most - k ∧ 0 ≤ d ∧ d ≤ 3 * k ∧ GenC 5 k d c ∧ s.t 0 = sp p ∧ s.t 1 = iv most ∧ s.t 4 = .ref 0 0 0 ∧ s.t 5 = .ref 1 0 0 ∧ s.t 7 = iv d ∧ s.t 8 = iv ((k : Int) + 1) ∧ s.H[0]? = some (some ⟨29, 4, [[.nil, .nil, .nil, .nil]]⟩) ∧ s.H[1]? = some (some ⟨29, 4, [[claimsL c.Claims, incomesL c.Incomes, matchesL c.Matches, .list 1 (encL encI c.Loose)]]⟩) := ⟨_, rfl⟩
  refine aloop0 I (most) (by rw [hN]; rfl) ?_ ?_
  · rw [hI]
    exact ⟨0, 0, c0, by omega, by omega, by omega, by omega, g0, by simp -dsimp -implicitDefEqProofs [-getElem?_pos, go_sem], by simp -dsimp -implicitDefEqProofs [-getElem?_pos, go_sem], by simp -dsimp -implicitDefEqProofs [-getElem?_pos, go_sem], by simp -dsimp -implicitDefEqProofs [-getElem?_pos, go_sem], by simp -dsimp -implicitDefEqProofs [-getElem?_pos, go_sem], by simp -dsimp -implicitDefEqProofs [-getElem?_pos, go_sem], by simp -dsimp -implicitDefEqProofs [-getElem?_pos, go_sem], by simp -dsimp -implicitDefEqProofs [-getElem?_pos, go_sem, hc0]⟩
  clear g0 ic0 nw
  intro m s hs'
  rw [hI] at hs'
  obtain ⟨k, d, c, hk, hm, hd0, hd1, hg, t0, t1, t4, t5, t7, t8, h0, h1⟩ := hs'
  have lt0 := (List.getElem?_eq_some_iff.1 h0).1
  have lt1 := (List.getElem?_eq_some_iff.1 h1).1
  have ic := imm_agg.2 c.imm
  rw [cCsh] at ic
  simp -dsimp -implicitDefEqProofs [-getElem?_pos, go_sem, hP, t0, t1, t8, w1]
  refine callB_flat (up (N_pf p src ((most : Int) + 1) (by omega))) hP en_38 (args_same (by simp -dsimp -implicitDefEqProofs [-getElem?_pos, go_sem])) (NQ_ex _) (NQ_flat _) ?_
  rintro r ⟨z, rfl, _, hz⟩
  have hz := hz (by omega)
  simp -dsimp -implicitDefEqProofs [-getElem?_pos, go_sem, hP]
  refine condP (fun h => ?_) (fun h => ?_)
  · have hkz : (k : Int) + 1 ≤ z := by simpa using h
    have hkm : k < most := by omega
    simp -dsimp -implicitDefEqProofs [-getElem?_pos, go_sem, hP, t0, t7]
    refine callB_flat (up (N_pf p src 4 (by omega))) hP en_38 (args_same (by simp -dsimp -implicitDefEqProofs [-getElem?_pos, go_sem])) (NQ_ex _) (NQ_flat _) ?_
    rintro r ⟨v, rfl, _, hv⟩
    have hv := hv (by omega)
    have wd := wrap_in (d + v) (by omega)
    have w2 := wrap_in (((k : Int) + 1) * 2) (by omega)
    have wk := wrap_in ((k : Int) + 1 + 1) (by omega)
    simp -dsimp -implicitDefEqProofs [-getElem?_pos, go_sem, hP, wd]
    refine adrawQ (fun i => decide (i < 2)) [12] [5, 6] hP (by kernel_rfl) (by kernel_rfl) ?_
    simp -dsimp -implicitDefEqProofs [-getElem?_pos, go_sem, hP, t5, h1, lt1, t0, t8, w2]
    refine callQ_isQ (up (sincome_pf p src (((k : Int) + 1) * 2) (d + v))) hP en_10 (by simp -dsimp -implicitDefEqProofs [-getElem?_pos, go_sem]) (incomeQ_ex _ _) ?_
    rintro r ⟨x, rfl, hx⟩ _
    have ix := imm_agg.2 x.imm
    obtain ⟨xb, xa, _⟩ := hx.inc (by omega) (by omega)
    have tk := rtake_pf c x (hg.fit (by omega))
    obtain ⟨b, hb⟩ : ∃ b, b = (takeD c x).1 := ⟨_, rfl⟩
    obtain ⟨ms, hms⟩ : ∃ ms, ms = (takeD c x).2.1 := ⟨_, rfl⟩
    obtain ⟨e, he⟩ : ∃ e, e = (takeD c x).2.2 := ⟨_, rfl⟩
    rw [← hb, ← hms, ← he, cCsh, cCsh, cIncm] at tk
    rw [cIncm] at ix
    have ib := imm_agg.2 b.imm
    rw [cCsh] at ib
    simp -dsimp -implicitDefEqProofs [-getElem?_pos, go_sem, hP, cIncm]
    refine callQ_is (tk.lift _ _) hP en_34 (by simpa using ⟨ic, ix⟩) (imm_trip ib (imm_matches ms) .sc) ?_
    simp -dsimp -implicitDefEqProofs [-getElem?_pos, go_sem, hP]
    have nxt : ∀ (s' : St) (c' : TCash), GenC 5 (k + 1) (d + v) c' → s'.t 0 = sp p → s'.t 1 = iv most → s'.t 4 = .ref 0 0 0 → s'.t 5 = .ref 1 0 0 → s'.t 7 = iv (d + v) → s'.t 8 = iv ((k : Int) + 1 + 1) → s'.H[0]? = some (some ⟨29, 4, [[.nil, .nil, .nil, .nil]]⟩) → s'.H[1]? = some (some ⟨29, 4, [[claimsL c'.Claims, incomesL c'.Incomes, matchesL c'.Matches, .list 1 (encL encI c'.Loose)]]⟩) → ∃ m', m' < m ∧ I m' s' := fun s' c' g a0 a1 a4 a5 a7 a8 b0 b1 => by
      refine ⟨most - (k + 1), by omega, ?_⟩
      rw [hI]
      exact ⟨k + 1, d + v, c', by omega, rfl, by omega, by omega, g, a0, a1, a4, a5, a7, by rw [a8]; simp, b0, b1⟩
    by_cases e0 : e = 0
    · obtain ⟨⟨q1, q2, q3, q4⟩, q5⟩ := takeD_ok (c := c) (x := x) (by rw [← he]; exact e0)
      have hbt : b = taken c x := by rw [hb, q5]
      have gb : GenC 5 (k + 1) (d + v) b := by
        rw [hbt, ← hx.2.1]
        exact hg.take q2 q3 q4 (by rw [hx.1]; omega)
      simp -dsimp -implicitDefEqProofs [-getElem?_pos, go_sem, hP, e0, t5, lt1, h1, t8, wk]
      refine ⟨agree_push (by omega), ?_⟩
      exact nxt _ b gb (by simp -dsimp -implicitDefEqProofs [-getElem?_pos, go_sem, t0]) (by simp -dsimp -implicitDefEqProofs [-getElem?_pos, go_sem, t1]) (by simp -dsimp -implicitDefEqProofs [-getElem?_pos, go_sem, t4]) (by simp -dsimp -implicitDefEqProofs [-getElem?_pos, go_sem, t5]) (by simp -dsimp -implicitDefEqProofs [-getElem?_pos, go_sem]) (by simp -dsimp -implicitDefEqProofs [-getElem?_pos, go_sem]) (by simp -dsimp -implicitDefEqProofs [-getElem?_pos, go_sem, lt0, h0]) (by simp -dsimp -implicitDefEqProofs [-getElem?_pos, go_sem, lt1])
    · have gc : GenC 5 (k + 1) (d + v) c := ⟨hg.ok, hg.cl, by have := hg.inc; omega, by have := hg.pot; omega, by have := hg.num; omega, by have := hg.day; omega, hg.code⟩
      simp -dsimp -implicitDefEqProofs [-getElem?_pos, go_sem, hP, e0, t8, wk]
      refine ⟨agree_push (by omega), ?_⟩
      exact nxt _ c gc (by simp -dsimp -implicitDefEqProofs [-getElem?_pos, go_sem, t0]) (by simp -dsimp -implicitDefEqProofs [-getElem?_pos, go_sem, t1]) (by simp -dsimp -implicitDefEqProofs [-getElem?_pos, go_sem, t4]) (by simp -dsimp -implicitDefEqProofs [-getElem?_pos, go_sem, t5]) (by simp -dsimp -implicitDefEqProofs [-getElem?_pos, go_sem]) (by simp -dsimp -implicitDefEqProofs [-getElem?_pos, go_sem]) (by simp -dsimp -implicitDefEqProofs [-getElem?_pos, go_sem, lt0, h0]) (by simp -dsimp -implicitDefEqProofs [-getElem?_pos, go_sem, lt1, h1])
  · simp -dsimp -implicitDefEqProofs [-getElem?_pos, go_sem, hP, t4, t5, h0, h1, lt0, lt1]
    exact done_imm ic ⟨c, k, d, rfl, hk, hd0, hd1, hg⟩
end Go.Proofs.YtgapbmaehfdkoaaGreatDoor
