/- Receipts: what an income and a claim do. Plain. -/
import Derived.Test.YtgapbmaehfdkoaaGreatDoorCashM
set_option linter.unusedSimpArgs false
set_option linter.unusedVariables false
namespace Go.Proofs.YtgapbmaehfdkoaaGreatDoor

/-- What has fallen at most: the same claims and incomes, less open, less loose. -/
structure Fall (c d : TCash) : Prop where
  inc : d.Incomes = c.Incomes
  cl : ∀ (k : Nat) (x : TClaim), c.Claims[k]? = some x → ∃ n : Int, n ≤ x.Open ∧ (0 ≤ x.Open → 0 ≤ n) ∧ d.Claims[k]? = some { x with Open := n }
  cn : d.Claims.length = c.Claims.length
  lo : ∀ (i : Nat) (l : Int), c.Loose[i]? = some l → ∃ n : Int, n ≤ l ∧ (0 ≤ l → 0 ≤ n) ∧ d.Loose[i]? = some n
  ln : d.Loose.length = c.Loose.length
theorem Fall.refl (c : TCash) : Fall c c := ⟨rfl, fun k x h => ⟨x.Open, Int.le_refl _, fun h => h, h⟩, rfl, fun i l h => ⟨l, Int.le_refl _, fun h => h, h⟩, rfl⟩
theorem Fall.trans {a b c : TCash} (h : Fall a b) (g : Fall b c) : Fall a c := by
  refine ⟨g.inc.trans h.inc, fun k x hx => ?_, g.cn.trans h.cn, fun i l hl => ?_, g.ln.trans h.ln⟩
  · obtain ⟨n, h1, h2, h3⟩ := h.cl k x hx
    obtain ⟨n', h4, h5, h6⟩ := g.cl k _ h3
    exact ⟨n', by simp only at h4; omega, by simp only at h5; omega, h6⟩
  · obtain ⟨n, h1, h2, h3⟩ := h.lo i l hl
    obtain ⟨n', h4, h5, h6⟩ := g.lo i _ h3
    exact ⟨n', by omega, by omega, h6⟩
theorem meet_fall (c : TCash) (i k : Nat) (hp : ∀ x, x ∈ c.Claims → 0 ≤ x.Open) (hq : ∀ l, l ∈ c.Loose → 0 ≤ l) : Fall c (meet c i k) := by
  cases hl : c.Loose[i]? with
  | none => unfold meet; rw [hl]; exact .refl c
  | some lo =>
  cases hx : c.Claims[k]? with
  | none => unfold meet; rw [hl, hx]; exact .refl c
  | some x =>
  cases hy : c.Incomes[i]? with
  | none => unfold meet; rw [hl, hx, hy]; exact .refl c
  | some y =>
  by_cases hn : min lo x.Open = 0
  · unfold meet
    rw [hl, hx, hy]
    simp only
    rw [if_pos hn]
    exact .refl c
  rw [meet_at hl hx hy hn]
  have px := hp x (List.mem_of_getElem? hx)
  have pl := hq lo (List.mem_of_getElem? hl)
  refine ⟨rfl, fun j z hz => ?_, by simp, fun j l hj => ?_, by simp⟩
  · by_cases e : k = j
    · subst e
      rw [hx] at hz
      cases hz
      exact ⟨x.Open - min lo x.Open, by omega, by omega, List.getElem?_set_self (List.getElem?_eq_some_iff.1 hx).1⟩
    · exact ⟨z.Open, Int.le_refl _, fun h => h, (List.getElem?_set_ne e).trans hz⟩
  · by_cases e : i = j
    · subst e
      rw [hl] at hj
      cases hj
      exact ⟨lo - min lo x.Open, by omega, by omega, List.getElem?_set_self (List.getElem?_eq_some_iff.1 hl).1⟩
    · exact ⟨l, Int.le_refl _, fun h => h, (List.getElem?_set_ne e).trans hj⟩
/-- What is open and loose is not below 0. -/
def Pos (c : TCash) : Prop := (∀ x, x ∈ c.Claims → 0 ≤ x.Open) ∧ ∀ l, l ∈ c.Loose → 0 ≤ l
theorem Fall.pos {c d : TCash} (h : Fall c d) (hp : Pos c) : Pos d := by
  refine ⟨fun x hx => ?_, fun l hl => ?_⟩
  · obtain ⟨k, hk⟩ := List.getElem?_of_mem hx
    have lt := (List.getElem?_eq_some_iff.1 hk).1
    rw [h.cn] at lt
    obtain ⟨n, _, h2, h3⟩ := h.cl k _ (List.getElem?_eq_getElem lt)
    rw [hk] at h3
    cases h3
    exact h2 (hp.1 _ (List.getElem_mem lt))
  · obtain ⟨k, hk⟩ := List.getElem?_of_mem hl
    have lt := (List.getElem?_eq_some_iff.1 hk).1
    rw [h.ln] at lt
    obtain ⟨n, _, h2, h3⟩ := h.lo k _ (List.getElem?_eq_getElem lt)
    rw [hk] at h3
    cases h3
    exact h2 (hp.2 _ (List.getElem_mem lt))
theorem CashOk.pos {c : TCash} (h : CashOk c) : Pos c := by
  refine ⟨fun x hx => (payB_iff.1 (h.pays.1 x hx)).2.2.2.1.1, fun l hl => ?_⟩
  obtain ⟨i, hi⟩ := List.getElem?_of_mem hl
  have lt := (List.getElem?_eq_some_iff.1 hi).1
  rw [h.len] at lt
  exact (h.used i _ l (List.getElem?_eq_getElem lt) hi).1
theorem Fall.payer {c d : TCash} (h : Fall c d) (k : Nat) : (d.Claims[k]?).map (·.Payer) = (c.Claims[k]?).map (·.Payer) := by
  cases hk : c.Claims[k]? with
  | none =>
    rw [List.getElem?_eq_none (by rw [h.cn]; exact List.getElem?_eq_none_iff.1 hk)]
  | some x =>
    obtain ⟨n, _, _, h3⟩ := h.cl k x hk
    rw [h3]
    rfl

/-- The matches, what is open, and what is loose. -/
def pot (c : TCash) : Nat := c.Matches.length + c.Claims.countP (fun x => decide (0 < x.Open)) + c.Loose.countP (fun l => decide (0 < l))
theorem countP_set1 {α : Type} (p : α → Bool) : ∀ (l : List α) (k : Nat) (x y : α), l[k]? = some x → (l.set k y).countP p + (if p x then 1 else 0) = l.countP p + (if p y then 1 else 0)
  | [], k, x, y, h => by simp at h
  | a :: l, 0, x, y, h => by
    simp only [List.getElem?_cons_zero, Option.some.injEq] at h
    subst h
    rw [List.set_cons_zero, List.countP_cons, List.countP_cons]
    omega
  | a :: l, k + 1, x, y, h => by
    rw [List.getElem?_cons_succ] at h
    have := countP_set1 p l k x y h
    rw [List.set_cons_succ, List.countP_cons, List.countP_cons]
    omega
theorem meet_pot (c : TCash) (i k : Nat) (hp : Pos c) : pot (meet c i k) ≤ pot c := by
  cases hl : c.Loose[i]? with
  | none => unfold meet; rw [hl]; exact Nat.le_refl _
  | some lo =>
  cases hx : c.Claims[k]? with
  | none => unfold meet; rw [hl, hx]; exact Nat.le_refl _
  | some x =>
  cases hy : c.Incomes[i]? with
  | none => unfold meet; rw [hl, hx, hy]; exact Nat.le_refl _
  | some y =>
  by_cases hn : min lo x.Open = 0
  · unfold meet
    rw [hl, hx, hy]
    simp only
    rw [if_pos hn]
    exact Nat.le_refl _
  rw [meet_at hl hx hy hn]
  have px := hp.1 x (List.mem_of_getElem? hx)
  have pl := hp.2 lo (List.mem_of_getElem? hl)
  have c1 := countP_set1 (fun z : TClaim => decide (0 < z.Open)) c.Claims k x { x with Open := x.Open - min lo x.Open } hx
  have c2 := countP_set1 (fun z : Int => decide (0 < z)) c.Loose i lo (lo - min lo x.Open) hl
  unfold pot
  simp only [List.length_append, List.length_singleton]
  have d1 : decide (0 < x.Open) = true := decide_eq_true (by omega)
  have d2 : decide (0 < lo) = true := decide_eq_true (by omega)
  simp only [d1, d2, if_true] at c1 c2
  by_cases hle : lo ≤ x.Open
  · have d3 : decide (0 < lo - min lo x.Open) = false := decide_eq_false (by omega)
    simp only [d3, Bool.false_eq_true, if_false] at c2
    have : (if decide (0 < x.Open - min lo x.Open) = true then 1 else 0) ≤ 1 := by split <;> omega
    omega
  · have d3 : decide (0 < x.Open - min lo x.Open) = false := decide_eq_false (by omega)
    simp only [d3, Bool.false_eq_true, if_false] at c1
    have : (if decide (0 < lo - min lo x.Open) = true then 1 else 0) ≤ 1 := by split <;> omega
    omega

/-! ### All that an income does -/
def start (c : TCash) (x : TIncome) : TCash := { c with Incomes := c.Incomes ++ [x], Loose := c.Loose ++ [x.Amount] }
theorem meets_ind (P : TCash → Prop) (i : Nat) : ∀ (ks : List Nat) (c : TCash), P c → (∀ d k, P d → k ∈ ks → P (meet d i k)) → P (meets c i ks)
  | [], c, h, _ => h
  | k :: ks, c, h, hs => by
    have := meets_ind P i ks (meet c i k) (hs c k h (List.mem_cons_self ..)) fun d j hd hj => hs d j hd (List.mem_cons_of_mem _ hj)
    exact this
theorem exactK_mem {l : List TClaim} {p n : Int} {k : Nat} (h : k ∈ exactK l p n) : k ∈ openK l p := by
  unfold exactK at h
  have : ∀ ks : List Nat, k ∈ only ks → k ∈ ks := fun ks hk => by
    match ks, hk with
    | [], hk => cases hk
    | [a], hk => exact hk
    | a :: b :: r, hk => cases hk
  exact (List.mem_filter.1 (this _ h)).1
theorem openK_payer {l : List TClaim} {p : Int} {k : Nat} (h : k ∈ openK l p) : (l[k]?).map (·.Payer) = some p := by
  obtain ⟨x, h1, h2, _⟩ := openK_mem.1 h
  rw [h1, ← h2]
  rfl
def mid1 (c : TCash) (x : TIncome) : TCash := match payAt c.Claims x.Claim with
  | some k => if ((c.Claims[k]?).map (·.Payer)) = some x.Payer then meet (start c x) c.Incomes.length k else start c x
  | none => start c x
def mid2 (c : TCash) (x : TIncome) : TCash := if ((mid1 c x).Loose[c.Incomes.length]?).getD 0 = x.Amount then meets (mid1 c x) c.Incomes.length (exactK (mid1 c x).Claims x.Payer x.Amount) else mid1 c x
theorem taken_eq (c : TCash) (x : TIncome) : taken c x = meets (mid2 c x) c.Incomes.length (openK (mid2 c x).Claims x.Payer) := rfl
theorem taken_ind (P : TCash → Prop) (c : TCash) (x : TIncome) (hp : Pos (start c x)) (h0 : P (start c x)) (hs : ∀ (d : TCash) (k : Nat), Fall (start c x) d → P d → ((d.Claims[k]?).map (·.Payer)) = some x.Payer → P (meet d c.Incomes.length k)) : P (taken c x) := by
  obtain ⟨P', hP'⟩ : ∃ P' : TCash → Prop, P' = fun d => Fall (start c x) d ∧ P d := ⟨_, rfl⟩
  have st : ∀ (d : TCash) (k : Nat), P' d → ((d.Claims[k]?).map (·.Payer)) = some x.Payer → P' (meet d c.Incomes.length k) := fun d k hd hk => by
    rw [hP'] at hd ⊢
    have := hd.1.pos hp
    exact ⟨hd.1.trans (meet_fall d _ k this.1 this.2), hs d k hd.1 hd.2 hk⟩
  have pay : ∀ (d : TCash) (k : Nat), P' d → ∀ e : TCash, P' e → ((d.Claims[k]?).map (·.Payer)) = some x.Payer → ((e.Claims[k]?).map (·.Payer)) = some x.Payer := fun d k hd e he h => by
    rw [hP'] at hd he
    rw [he.1.payer, ← hd.1.payer]
    exact h
  have ms : ∀ (d : TCash) (ks : List Nat), P' d → (∀ k, k ∈ ks → ((d.Claims[k]?).map (·.Payer)) = some x.Payer) → P' (meets d c.Incomes.length ks) := fun d ks hd hk =>
    meets_ind P' _ ks d hd fun e k he hke => st e k he (pay d k hd e he (hk k hke))
  have s0 : P' (start c x) := by rw [hP']; exact ⟨.refl _, h0⟩
  have fin : P' (taken c x) := by
    have s1 : P' (mid1 c x) := by
      unfold mid1
      split
      · split
        · rename_i k _ h
          exact st _ k s0 h
        · exact s0
      · exact s0
    have s2 : P' (mid2 c x) := by
      unfold mid2
      split
      · exact ms _ _ s1 fun k hk => openK_payer (exactK_mem hk)
      · exact s1
    rw [taken_eq]
    exact ms _ _ s2 fun k hk => openK_payer hk
  rw [hP'] at fin
  exact fin.2
theorem start_pos {c : TCash} {x : TIncome} (h : Pos c) (hx : 0 ≤ x.Amount) : Pos (start c x) := by
  refine ⟨h.1, fun l hl => ?_⟩
  rcases List.mem_append.1 hl with hl | hl
  · exact h.2 l hl
  · rw [List.mem_singleton.1 hl]; exact hx
theorem taken_fall {c : TCash} {x : TIncome} (hp : Pos c) (hx : 0 ≤ x.Amount) : Fall (start c x) (taken c x) :=
  taken_ind (Fall (start c x)) c x (start_pos hp hx) (.refl _) fun d k hd _ _ => by
    have := hd.pos (start_pos hp hx)
    exact hd.trans (meet_fall d _ k this.1 this.2)
theorem taken_pot {c : TCash} {x : TIncome} (hp : Pos c) (hx : 0 ≤ x.Amount) : pot (taken c x) ≤ pot c + 1 := by
  have h0 : pot (start c x) ≤ pot c + 1 := by
    unfold pot start
    simp only [List.countP_append, List.countP_singleton]
    split <;> omega
  exact taken_ind (fun d => pot d ≤ pot c + 1) c x (start_pos hp hx) h0 fun d k hd h _ => by
    have := meet_pot d c.Incomes.length k (hd.pos (start_pos hp hx))
    omega
theorem last_lt {c : TCash} (h : CashOk c) {x : TIncome} (hn : lastN c < x.Number) (hd : lastD c ≤ x.Day) : ∀ y, y ∈ c.Incomes → y.Number < x.Number ∧ y.Day ≤ x.Day := fun y hy => by
  obtain ⟨l, hl⟩ : ∃ l, l = c.Incomes := ⟨_, rfl⟩
  have hp := h.incs.2
  unfold lastN lastD at *
  rw [← hl] at hy hn hd hp
  rcases List.eq_nil_or_concat l with rfl | ⟨l', z, rfl⟩
  · cases hy
  · rw [List.concat_eq_append] at *
    simp only [List.getLast?_append, List.getLast?_singleton, Option.some_or, Option.map_some, Option.getD_some] at hn hd
    rcases List.mem_append.1 hy with hy | hy
    · have := (List.pairwise_append.1 hp).2.2 y hy z (by simp)
      omega
    · rw [List.mem_singleton.1 hy]; omega
theorem taken_ok {c : TCash} (h : CashOk c) {x : TIncome} (hx : incB x = true) (hn : lastN c < x.Number) (hd : lastD c ≤ x.Day) : CashOk (taken c x) := by
  have h0 := income_ok h hx (last_lt h hn hd)
  refine taken_ind CashOk c x h0.pos h0 fun d k hd hk hpay => ?_
  cases hz : d.Claims[k]? with
  | none => rw [hz] at hpay; cases hpay
  | some z =>
    rw [hz] at hpay
    have ez : z.Payer = x.Payer := Option.some.inj hpay
    have hy : d.Incomes[c.Incomes.length]? = some x := by rw [hd.inc]; simp [start]
    have lt : c.Incomes.length < d.Loose.length := by rw [hk.len]; exact (List.getElem?_eq_some_iff.1 hy).1
    exact meet_ok hk (List.getElem?_eq_getElem lt) hz hy ez.symm
theorem cashE_ok {c : TCash} : cashE c = 0 ↔ (c.Claims.length ≤ 60 ∧ c.Incomes.length ≤ 100 ∧ c.Matches.length ≤ 160) ∧ CashOk c := by
  unfold cashE
  by_cases h1 : c.Claims.length ≤ 60 ∧ c.Incomes.length ≤ 100 ∧ c.Matches.length ≤ 160
  · rw [if_pos h1]
    cases h2 : paysB 0 c.Claims
    · simp only [Bool.false_eq_true, if_false]
      constructor
      · intro h; omega
      · rintro ⟨_, h⟩
        have : paysB 0 c.Claims = true := (paysB_iff _ _).2 ⟨fun x hx => ⟨h.pays.1 x hx, by have := payB_iff.1 (h.pays.1 x hx); omega⟩, h.pays.2⟩
        rw [this] at h2
        cases h2
    · simp only [if_true]
      cases h3 : incsB 0 0 c.Incomes && booksB c
      · simp only [Bool.false_eq_true, if_false]
        constructor
        · intro h; omega
        · rintro ⟨_, h⟩
          have e1 : incsB 0 0 c.Incomes = true := (incsB_iff _ _ _).2 ⟨fun x hx => by
            have hb := h.incs.1 x hx
            refine ⟨hb, ?_⟩
            simp only [incB, Bool.and_eq_true] at hb
            have a1 := btw_iff.1 hb.1.1.1.1
            have a2 := btw_iff.1 hb.1.1.2
            omega, h.incs.2⟩
          have e2 : booksB c = true := (booksB_iff c).2 ⟨h.len, h.mates, h.got, h.used⟩
          rw [e1, e2] at h3
          cases h3
      · simp only [if_true, true_iff]
        rw [Bool.and_eq_true] at h3
        have p := (paysB_iff _ _).1 h2
        have q := (incsB_iff _ _ _).1 h3.1
        have b := (booksB_iff c).1 h3.2
        exact ⟨h1, ⟨fun x hx => (p.1 x hx).1, p.2⟩, ⟨fun x hx => (q.1 x hx).1, q.2⟩, b.len, b.mates, b.got, b.used⟩
  · rw [if_neg h1]
    constructor
    · intro h; omega
    · rintro ⟨h, _⟩; exact absurd h h1
end Go.Proofs.YtgapbmaehfdkoaaGreatDoor
