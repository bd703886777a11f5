/- Receipts: sums, and what an income goes to first. Plain. -/
import Derived.Test.YtgapbmaehfdkoaaGreatDoorCashN
set_option linter.unusedSimpArgs false
set_option linter.unusedVariables false
namespace Go.Proofs.YtgapbmaehfdkoaaGreatDoor

def owedS (l : List TClaim) (p : Int) : Int := ((l.filter fun x => decide (x.Payer = p)).map (·.Open)).sum
def looseS (xs : List TIncome) (ls : List Int) (p : Int) : Int := (((xs.zip ls).filter fun q => decide (q.1.Payer = p)).map (·.2)).sum
theorem owedS_cons (c : TClaim) (l : List TClaim) (p : Int) : owedS (c :: l) p = (if c.Payer = p then c.Open else 0) + owedS l p := by
  unfold owedS
  rw [List.filter_cons]
  by_cases h : c.Payer = p <;> simp [h]
theorem looseS_cons (y : TIncome) (xs : List TIncome) (a : Int) (ls : List Int) (p : Int) : looseS (y :: xs) (a :: ls) p = (if y.Payer = p then a else 0) + looseS xs ls p := by
  unfold looseS
  rw [List.zip_cons_cons, List.filter_cons]
  by_cases h : y.Payer = p <;> simp [h]
theorem owedS_set (p : Int) : ∀ (l : List TClaim) (k : Nat) (x y : TClaim), l[k]? = some x → y.Payer = x.Payer → owedS (l.set k y) p = owedS l p + if x.Payer = p then y.Open - x.Open else 0
  | [], k, x, y, h, _ => by simp at h
  | a :: l, 0, x, y, h, e => by
    simp only [List.getElem?_cons_zero, Option.some.injEq] at h
    subst h
    rw [List.set_cons_zero, owedS_cons, owedS_cons, e]
    split <;> omega
  | a :: l, k + 1, x, y, h, e => by
    rw [List.getElem?_cons_succ] at h
    rw [List.set_cons_succ, owedS_cons, owedS_cons, owedS_set p l k x y h e]
    omega
theorem looseS_set (p : Int) : ∀ (xs : List TIncome) (ls : List Int) (i : Nat) (y : TIncome) (lo n : Int), xs[i]? = some y → ls[i]? = some lo → looseS xs (ls.set i n) p = looseS xs ls p + if y.Payer = p then n - lo else 0
  | [], ls, i, y, lo, n, h, _ => by simp at h
  | x :: xs, [], i, y, lo, n, _, h => by simp at h
  | x :: xs, a :: ls, 0, y, lo, n, h, g => by
    simp only [List.getElem?_cons_zero, Option.some.injEq] at h g
    subst h; subst g
    rw [List.set_cons_zero, looseS_cons, looseS_cons]
    split <;> omega
  | x :: xs, a :: ls, i + 1, y, lo, n, h, g => by
    rw [List.getElem?_cons_succ] at h g
    rw [List.set_cons_succ, looseS_cons, looseS_cons, looseS_set p xs ls i y lo n h g]
    omega
theorem looseS_snoc (p : Int) : ∀ (xs : List TIncome) (ls : List Int) (y : TIncome) (n : Int), ls.length = xs.length → looseS (xs ++ [y]) (ls ++ [n]) p = looseS xs ls p + if y.Payer = p then n else 0
  | [], [], y, n, _ => by
    rw [List.nil_append, List.nil_append, looseS_cons]
    simp [looseS]
  | [], a :: ls, y, n, h => by simp at h
  | x :: xs, [], y, n, h => by simp at h
  | x :: xs, a :: ls, y, n, h => by
    rw [List.cons_append, List.cons_append, looseS_cons, looseS_cons, looseS_snoc p xs ls y n (by simpa using h)]
    omega
def amounts (ms : List TMatch) : Int := (ms.map (·.Amount)).sum
theorem amounts_snoc (ms : List TMatch) (m : TMatch) : amounts (ms ++ [m]) = amounts ms + m.Amount := by simp [amounts]
theorem owedD_eq {c : TCash} (h : cashE c = 0) (p : Int) : owedD c p = owedS c.Claims p := by rw [owedD, if_pos h]; rfl
theorem looseD_eq {c : TCash} (h : cashE c = 0) (p : Int) : looseD c p = looseS c.Incomes c.Loose p := by rw [looseD, if_pos h]; rfl
/-- What an income changes. -/
theorem taken_sums {c : TCash} {x : TIncome} (hp : Pos c) (hl : c.Loose.length = c.Incomes.length) (hx : 0 ≤ x.Amount) :
    ∃ new, (taken c x).Matches = c.Matches ++ new ∧ (∀ m, m ∈ new → ∃ (k : Nat) (z : TClaim), c.Claims[k]? = some z ∧ m.Claim = z.ID ∧ z.Payer = x.Payer ∧ m.Amount ≤ z.Open) ∧ ∀ p, owedS (taken c x).Claims p = owedS c.Claims p - (if x.Payer = p then amounts new else 0) ∧ looseS (taken c x).Incomes (taken c x).Loose p = looseS c.Incomes c.Loose p + (if x.Payer = p then x.Amount - amounts new else 0) := by
  refine taken_ind (fun d => ∃ new, d.Matches = c.Matches ++ new ∧ (∀ m, m ∈ new → ∃ (k : Nat) (z : TClaim), c.Claims[k]? = some z ∧ m.Claim = z.ID ∧ z.Payer = x.Payer ∧ m.Amount ≤ z.Open) ∧ ∀ p, owedS d.Claims p = owedS c.Claims p - (if x.Payer = p then amounts new else 0) ∧ looseS d.Incomes d.Loose p = looseS c.Incomes c.Loose p + (if x.Payer = p then x.Amount - amounts new else 0)) c x (start_pos hp hx) ⟨[], by simp [start], by simp, fun p => ?_⟩ fun d k hd h hpay => ?_
  · refine ⟨by simp [start, amounts], ?_⟩
    show looseS (c.Incomes ++ [x]) (c.Loose ++ [x.Amount]) p = _
    rw [looseS_snoc p _ _ _ _ hl]
    simp [amounts]
  · cases hz : d.Claims[k]? with
    | none => rw [hz] at hpay; cases hpay
    | some z =>
    rw [hz] at hpay
    have ez : z.Payer = x.Payer := Option.some.inj hpay
    have hy : d.Incomes[c.Incomes.length]? = some x := by rw [hd.inc]; simp [start]
    have lt : c.Incomes.length < d.Loose.length := by rw [hd.ln]; simp [start, hl]
    obtain ⟨lo, hlo⟩ : ∃ lo, d.Loose[c.Incomes.length]? = some lo := ⟨_, List.getElem?_eq_getElem lt⟩
    obtain ⟨new, h1, h2, h3⟩ := h
    by_cases hn : min lo z.Open = 0
    · have e : meet d c.Incomes.length k = d := by
        unfold meet
        rw [hlo, hz, hy]
        simp only
        rw [if_pos hn]
      rw [e]
      exact ⟨new, h1, h2, h3⟩
    rw [meet_at hlo hz hy hn]
    obtain ⟨n, hnd⟩ : ∃ n, n = min lo z.Open := ⟨_, rfl⟩
    rw [← hnd]
    obtain ⟨z0, hz0, hzo, _, hze⟩ := hd.back hz
    refine ⟨new ++ [⟨x.Number, z.ID, n⟩], by simp [h1], fun m hm => ?_, fun p => ?_⟩
    · rcases List.mem_append.1 hm with hm | hm
      · exact h2 m hm
      · rw [List.mem_singleton.1 hm]
        refine ⟨k, z0, hz0, by simp only; rw [hze], ?_, ?_⟩
        · rw [hze] at ez; exact ez
        · simp only; omega
    · obtain ⟨g1, g2⟩ := h3 p
      simp only
      rw [owedS_set p _ k z { z with Open := z.Open - n } hz rfl, looseS_set p _ _ _ x lo _ hy hlo, amounts_snoc, g1, g2]
      simp only [ez]
      by_cases c1 : x.Payer = p
      · simp only [if_pos c1]
        omega
      · simp only [if_neg c1]
        omega

/-! ### What it goes to first -/
theorem meet_more (c : TCash) (i k : Nat) : ∃ r, (meet c i k).Matches = c.Matches ++ r := by
  unfold meet
  split
  · split
    · exact ⟨[], by simp⟩
    · exact ⟨_, rfl⟩
  · exact ⟨[], by simp⟩
theorem meets_more (i : Nat) : ∀ (ks : List Nat) (c : TCash), ∃ r, (meets c i ks).Matches = c.Matches ++ r
  | [], c => ⟨[], by simp [meets]⟩
  | k :: ks, c => by
    obtain ⟨r, hr⟩ := meet_more c i k
    obtain ⟨r2, hr2⟩ := meets_more i ks (meet c i k)
    exact ⟨r ++ r2, by rw [← List.append_assoc, ← hr]; exact hr2⟩
theorem mid2_more (c : TCash) (x : TIncome) : ∃ r, (mid2 c x).Matches = (mid1 c x).Matches ++ r := by
  unfold mid2
  split
  · exact meets_more _ _ _
  · exact ⟨[], by simp⟩
theorem first_named {c : TCash} {x : TIncome} {k : Nat} {y : TClaim} (hc : CashOk c) (hx : 0 < x.Amount) (hy : c.Claims[k]? = some y) (hid : y.ID = x.Claim) (hp : y.Payer = x.Payer) (ho : 0 < y.Open) :
    ∃ m r, (taken c x).Matches = c.Matches ++ m :: r ∧ m.Claim = x.Claim ∧ m.Amount = min x.Amount y.Open := by
  obtain ⟨k', hk'⟩ := payAt_mem (List.mem_of_getElem? hy)
  obtain ⟨y', hy1, hy2⟩ := payAt_some hk'
  have ek := id_inj hc.pays.2 hy1 hy hy2
  subst ek
  rw [hid] at hk'
  have e1 : (mid1 c x).Matches = c.Matches ++ [⟨x.Number, y.ID, min x.Amount y.Open⟩] := by
    unfold mid1
    rw [hk']
    simp only
    rw [if_pos (by rw [hy, ← hp]; rfl), meet_at (c := start c x) (lo := x.Amount) (x := y) (y := x) (by simp [start, hc.len]) hy (by simp [start]) (by omega)]
    rfl
  obtain ⟨r1, hr1⟩ := mid2_more c x
  obtain ⟨r2, hr2⟩ := meets_more c.Incomes.length (openK (mid2 c x).Claims x.Payer) (mid2 c x)
  refine ⟨⟨x.Number, y.ID, min x.Amount y.Open⟩, r1 ++ r2, ?_, hid, rfl⟩
  rw [taken_eq, hr2, hr1, e1]
  simp
theorem first_same {c : TCash} {x : TIncome} (hc : CashOk c) (hx : 0 < x.Amount) (hno : ∀ y, y ∈ c.Claims → y.ID = x.Claim → y.Payer = x.Payer → ¬ 0 < y.Open) (hs : (sameK c.Claims x.Payer x.Amount).length = 1) :
    ∃ m, (taken c x).Matches = c.Matches ++ [m] ∧ m.Amount = x.Amount := by
  have ps := start_pos hc.pos (x := x) (by omega)
  have h0 : (start c x).Loose[c.Incomes.length]? = some x.Amount := by simp [start, hc.len]
  have hy : (start c x).Incomes[c.Incomes.length]? = some x := by simp [start]
  have e1 : mid1 c x = start c x := by
    unfold mid1
    cases hk : payAt c.Claims x.Claim with
    | none => rfl
    | some k =>
      simp only
      split
      · rename_i hpay
        obtain ⟨z, hz, hid⟩ := payAt_some hk
        rw [hz] at hpay
        have ez : z.Payer = x.Payer := Option.some.inj hpay
        have := hno z (List.mem_of_getElem? hz) hid ez
        have hz' : (start c x).Claims[k]? = some z := hz
        unfold meet
        rw [h0, hz', hy]
        simp only
        have := hc.pos.1 z (List.mem_of_getElem? hz)
        rw [if_pos (by omega)]
      · rfl
  obtain ⟨k, hk⟩ : ∃ k, sameK c.Claims x.Payer x.Amount = [k] := by
    match h : sameK c.Claims x.Payer x.Amount, hs with
    | [k], _ => exact ⟨k, rfl⟩
  have ex : exactK (start c x).Claims x.Payer x.Amount = [k] := by
    rw [exact_same _ _ hx]
    show only (sameK c.Claims x.Payer x.Amount) = [k]
    rw [hk]
    rfl
  have hm : k ∈ sameK c.Claims x.Payer x.Amount := by rw [hk]; simp
  obtain ⟨z, hz, hzo⟩ : ∃ z, c.Claims[k]? = some z ∧ z.Open = x.Amount := by
    unfold sameK at hm
    have := (List.mem_filter.1 hm).2
    cases hz : c.Claims[k]? with
    | none => rw [hz] at this; cases this
    | some z =>
      rw [hz] at this
      simp at this
      exact ⟨z, rfl, this.2⟩
  have e2 : mid2 c x = meet (start c x) c.Incomes.length k := by
    unfold mid2
    rw [e1, h0, if_pos (by rfl), ex]
    rfl
  have hz' : (start c x).Claims[k]? = some z := hz
  have e3 := meet_at h0 hz' hy (by omega)
  rw [hzo, show min x.Amount x.Amount = x.Amount by omega, show x.Amount - x.Amount = 0 by omega] at e3
  have p2 := (mid2_fall ps).pos ps
  have l2 : (mid2 c x).Loose[c.Incomes.length]? = some 0 := by
    rw [e2, e3]
    exact List.getElem?_set_self (List.getElem?_eq_some_iff.1 h0).1
  refine ⟨⟨x.Number, z.ID, x.Amount⟩, ?_, rfl⟩
  rw [taken_eq, meets_no l2 p2.1, e2, e3]
  rfl
theorem same_count (l : List TClaim) (p n : Int) : (sameK l p n).length = l.countP fun y => decide (y.Payer = p) && decide (y.Open = n) := by
  unfold sameK
  rw [← List.countP_eq_length_filter]
  have key : ∀ m, m ≤ l.length → (List.range m).countP (fun k => match l[k]? with | some x => decide (x.Payer = p) && decide (x.Open = n) | none => false) = (l.take m).countP fun y => decide (y.Payer = p) && decide (y.Open = n) := fun m => by
    induction m with
    | zero => intro _; rfl
    | succ m ih =>
      intro hm
      have hx : l[m]? = some l[m] := List.getElem?_eq_getElem (by omega)
      rw [List.range_succ, List.countP_append, ih (by omega), take_snoc hx, List.countP_append, List.countP_singleton, List.countP_singleton, hx]
  have h := key l.length (Nat.le_refl _)
  rw [List.take_length] at h
  exact h
end Go.Proofs.YtgapbmaehfdkoaaGreatDoor
