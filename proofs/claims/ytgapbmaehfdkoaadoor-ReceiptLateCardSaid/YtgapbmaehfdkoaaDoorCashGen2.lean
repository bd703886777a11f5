/- The source of numbers: cash. -/
import Derived.Test.YtgapbmaehfdkoaaDoorCashGen
set_option linter.unusedSimpArgs false
set_option linter.unusedVariables false
namespace Go.Proofs.YtgapbmaehfdkoaaDoor
open Go.PA
open Go.RowKit

theorem takeD_ok {c : TCash} {x : TIncome} (h : (takeD c x).2.2 = 0) : (cashE c = 0 ∧ incB x = true ∧ lastN c < x.Number ∧ lastD c ≤ x.Day) ∧ takeD c x = (taken c x, (taken c x).Matches.drop c.Matches.length, 0) := by
  unfold takeD at h ⊢
  by_cases h1 : cashE c = 0
  rotate_left
  · rw [if_neg h1] at h
    exact absurd h h1
  rw [if_pos h1] at h ⊢
  by_cases h2 : incB x = true
  rotate_left
  · rw [if_neg h2] at h
    simp at h
  rw [if_pos h2] at h ⊢
  by_cases h3 : lastN c < x.Number
  rotate_left
  · rw [if_neg h3] at h
    simp at h
  rw [if_pos h3] at h ⊢
  by_cases h4 : lastD c ≤ x.Day
  rotate_left
  · rw [if_neg h4] at h
    simp at h
  rw [if_pos h4] at h ⊢
  by_cases h5 : c.Incomes.length < 100
  rotate_left
  · rw [if_neg h5] at h
    simp at h
  rw [if_pos h5] at h ⊢
  by_cases h6 : (taken c x).Matches.length ≤ 160
  rotate_left
  · rw [if_neg h6] at h
    simp at h
  rw [if_pos h6]
  exact ⟨⟨h1, h2, h3, h4⟩, rfl⟩
theorem takeD_yes {c : TCash} {x : TIncome} (h1 : cashE c = 0) (h2 : incB x = true) (h3 : lastN c < x.Number) (h4 : lastD c ≤ x.Day) (h5 : c.Incomes.length < 100) (h6 : (taken c x).Matches.length ≤ 160) : takeD c x = (taken c x, (taken c x).Matches.drop c.Matches.length, 0) := by
  rw [takeD, if_pos h1, if_pos h2, if_pos h3, if_pos h4, if_pos h5, if_pos h6]
/-- Cash that was made out of few claims and incomes. -/
structure GenC (n k : Nat) (d : Int) (c : TCash) : Prop where
  ok : CashOk c
  cl : c.Claims.length ≤ n
  inc : c.Incomes.length ≤ k
  pot : pot c ≤ n + k
  num : lastN c ≤ 2 * k
  day : lastD c ≤ d
  code : ∀ x, x ∈ c.Claims → x.Code.size ≤ 1000
theorem GenC.cash {n k : Nat} {d : Int} {c : TCash} (h : GenC n k d c) (hk : n + k ≤ 50) : cashE c = 0 := by
  refine cashE_ok.2 ⟨⟨by have := h.cl; omega, by have := h.inc; omega, ?_⟩, h.ok⟩
  have := h.pot
  unfold Go.Proofs.YtgapbmaehfdkoaaDoor.pot at this
  omega
theorem GenC.fit {n k : Nat} {d : Int} {c : TCash} (h : GenC n k d c) (hk : n + k ≤ 50) : FitC c := by
  have h1 := h.pot
  unfold Go.Proofs.YtgapbmaehfdkoaaDoor.pot at h1
  have h2 := h.cl
  have h3 := h.inc
  have h4 := h.ok.len
  exact ⟨by omega, by omega, by omega, by omega, fun x hx => by have := h.code x hx; omega⟩
theorem taken_inc {c : TCash} {x : TIncome} (h : Pos c) (hx : 0 ≤ x.Amount) : (taken c x).Incomes = c.Incomes ++ [x] := (taken_fall h hx).inc
theorem GenC.take {n k : Nat} {d : Int} {c : TCash} (h : GenC n k d c) {x : TIncome} (hx : incB x = true) (hn : lastN c < x.Number) (hd : lastD c ≤ x.Day) (hm : x.Number ≤ 2 * (k + 1)) : GenC n (k + 1) x.Day (taken c x) := by
  have amt := incB_amount hx
  have f := taken_fall h.ok.pos (x := x) (by omega)
  have e := taken_inc h.ok.pos (x := x) (by omega)
  have p := taken_pot h.ok.pos (x := x) (by omega)
  have h1 := h.cl
  have h2 := h.inc
  have h3 := h.pot
  refine ⟨taken_ok h.ok hx hn hd, ?_, ?_, by omega, ?_, ?_, fun z hz => ?_⟩
  · rw [f.cn]
    exact h1
  · rw [e, List.length_append, List.length_singleton]
    omega
  · simp only [lastN, e, List.getLast?_append, List.getLast?_singleton, Option.some_or, Option.map_some, Option.getD_some]
    omega
  · simp only [lastD, e, List.getLast?_append, List.getLast?_singleton, Option.some_or, Option.map_some, Option.getD_some]
    omega
  · obtain ⟨j, hj⟩ := List.getElem?_of_mem hz
    obtain ⟨y, hy, _, _, ey⟩ := f.back hj
    rw [ey]
    exact h.code y (List.mem_of_getElem? hy)
theorem GenCl.pay {i : Nat} {y : TClaim} (h : GenCl i y) (hi : i ≤ 100) : payB y = true := by
  obtain ⟨h1, h2, h3, h4, h5, h6⟩ := h
  have h3' : 5 ≤ y.Amount ∧ y.Amount ≤ 250 := by simp at h3; omega
  have hc := (codesC_ok h6).1
  exact payB_iff.2 ⟨by omega, by omega, by omega, by omega, by omega, hc⟩
theorem GenCs.pays {l : List TClaim} (h : GenCs l) (hl : l.length ≤ 100) : paysB 0 l = true := by
  refine (paysB_iff _ _).2 ⟨fun x hx => ?_, ?_⟩
  · obtain ⟨i, hi⟩ := List.getElem?_of_mem hx
    have lt := (List.getElem?_eq_some_iff.1 hi).1
    have g := h i x hi
    exact ⟨g.pay (by omega), by have := g.1; omega⟩
  · refine List.pairwise_iff_getElem.2 fun i j hi hj hij => ?_
    have g1 := (h i _ (List.getElem?_eq_getElem hi)).1
    have g2 := (h j _ (List.getElem?_eq_getElem hj)).1
    omega
theorem new_ok {l : List TClaim} (h : paysB 0 l = true) (hl : l.length ≤ 60) (ho : ∀ x, x ∈ l → x.Open = x.Amount) : newD l = (⟨l, [], [], []⟩, 0) ∧ CashOk ⟨l, [], [], []⟩ := by
  have p := (paysB_iff _ _).1 h
  constructor
  · have e : (l.all fun c => decide (c.Open = c.Amount)) = true := List.all_eq_true.2 fun x hx => decide_eq_true (ho x hx)
    rw [newD, if_pos hl, h, e]
    rfl
  · refine ⟨⟨fun x hx => (p.1 x hx).1, p.2⟩, ⟨fun x hx => by simp at hx, List.Pairwise.nil⟩, rfl, fun m hm => by simp at hm, fun x hx => ?_, fun i y lo hy => by simp at hy⟩
    have := ho x hx
    show (0 : Int) = _
    omega
theorem GenCs.new {l : List TClaim} {n : Nat} (h : GenCs l) (hl : l.length ≤ n) (hn : n ≤ 50) : newD l = (⟨l, [], [], []⟩, 0) ∧ GenC n 0 0 ⟨l, [], [], []⟩ := by
  have ho : ∀ x, x ∈ l → x.Open = x.Amount := fun x hx => by
    obtain ⟨i, hi⟩ := List.getElem?_of_mem hx
    exact (h i x hi).2.2.2.1
  obtain ⟨e, ok⟩ := new_ok (h.pays (by omega)) (by omega) ho
  refine ⟨e, ok, hl, Nat.le_refl _, ?_, by simp [lastN], by simp [lastD], fun x hx => ?_⟩
  · have := List.countP_le_length (p := fun z : TClaim => decide (0 < z.Open)) (l := l)
    unfold pot
    simp only [List.length_nil, List.countP_nil]
    omega
  · obtain ⟨i, hi⟩ := List.getElem?_of_mem hx
    have := (codesC_ok (h i x hi).2.2.2.2.2).2
    omega
theorem GenI.inc {n d : Int} {y : TIncome} (h : GenI n d y) (hn : 1 ≤ n ∧ n ≤ 1000) (hd : 0 ≤ d ∧ d ≤ 1000) : incB y = true ∧ 1 ≤ y.Amount ∧ y.Amount ≤ 300 := by
  obtain ⟨h1, h2, h3, h4, h5⟩ := h
  have h4' : 1 ≤ y.Amount ∧ y.Amount ≤ 300 := by simp at h4; omega
  have h5' : 0 ≤ y.Claim ∧ y.Claim ≤ 99 := by simp at h5; omega
  refine ⟨?_, h4'⟩
  simp only [incB, Bool.and_eq_true]
  exact ⟨⟨⟨⟨btw_iff.2 (by omega), btw_iff.2 (by omega)⟩, btw_iff.2 (by omega)⟩, btw_iff.2 (by omega)⟩, btw_iff.2 (by omega)⟩
def CashQ (most : Nat) (x : AV) : Prop := ∃ (c : TCash) (k : Nat) (d : Int), x = .agg c.cells ∧ k ≤ most ∧ 0 ≤ d ∧ d ≤ 3 * k ∧ GenC 5 k d c
theorem cashQ_ex (n : Nat) : ∃ r, CashQ n r ∧ Imm r := by
  obtain ⟨_, h⟩ := GenCs.new (l := []) (n := 5) (fun i y h => by simp at h) (by simp) (by omega)
  exact ⟨_, ⟨⟨[], [], [], []⟩, 0, 0, rfl, by omega, by omega, by omega, h⟩, imm_agg.2 (TCash.imm _)⟩
end Go.Proofs.YtgapbmaehfdkoaaDoor
