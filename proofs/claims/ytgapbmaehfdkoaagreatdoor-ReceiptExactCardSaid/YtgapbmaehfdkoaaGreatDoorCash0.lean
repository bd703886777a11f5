/- Receipts: what is specified. Plain. -/
import Derived.Test.YtgapbmaehfdkoaaGreatDoorPl27
set_option linter.unusedSimpArgs false
set_option linter.unusedVariables false
namespace Go.Proofs.YtgapbmaehfdkoaaGreatDoor

def payB (c : TClaim) : Bool := btw c.ID 1 1000000 && btw c.Payer 1 1000000 && btw c.Amount 1 1000000000000 && btw c.Open 0 c.Amount && btw c.Day 0 36000 && codeB c.Code
def incB (x : TIncome) : Bool := btw x.Number 1 1000000 && btw x.Payer 1 1000000 && btw x.Day 0 36000 && btw x.Amount 1 1000000000000 && btw x.Claim 0 1000000
def paysB : Int → List TClaim → Bool
  | _, [] => true
  | p, c :: l => payB c && decide (p < c.ID) && paysB c.ID l
def incsB : Int → Int → List TIncome → Bool
  | _, _, [] => true
  | n, d, x :: l => incB x && decide (n < x.Number) && decide (d ≤ x.Day) && incsB x.Number x.Day l
def payAt (l : List TClaim) (id : Int) : Option Nat := l.findIdx? fun c => decide (c.ID = id)
def incAt (l : List TIncome) (n : Int) : Option Nat := l.findIdx? fun x => decide (x.Number = n)
/-- What is matched with a claim; what is used of an income. -/
def gotS (ms : List TMatch) (id : Int) : Int := ((ms.filter fun m => decide (m.Claim = id)).map (·.Amount)).sum
def usedS (ms : List TMatch) (n : Int) : Int := ((ms.filter fun m => decide (m.Income = n)).map (·.Amount)).sum
def mateB (cs : List TClaim) (xs : List TIncome) (m : TMatch) : Bool := decide (0 < m.Amount) && cs.any fun c => decide (c.ID = m.Claim) && xs.any fun x => decide (x.Number = m.Income) && decide (x.Payer = c.Payer)
def booksB (c : TCash) : Bool := decide (c.Loose.length = c.Incomes.length) && c.Matches.all (mateB c.Claims c.Incomes) && (c.Claims.all fun x => decide (gotS c.Matches x.ID = x.Amount - x.Open)) && ((c.Incomes.zip c.Loose).all fun p => decide (0 ≤ p.2) && decide (usedS c.Matches p.1.Number ≤ p.1.Amount - p.2))
/-- The number of the first error of cash. -/
def cashE (c : TCash) : Int := if c.Claims.length ≤ 60 ∧ c.Incomes.length ≤ 100 ∧ c.Matches.length ≤ 160 then (if paysB 0 c.Claims then (if incsB 0 0 c.Incomes && booksB c then 0 else 70) else 69) else 3

/-- Income i counts for claim k, as far as it goes. -/
def meet (c : TCash) (i k : Nat) : TCash := match c.Loose[i]?, c.Claims[k]?, c.Incomes[i]? with
  | some l, some x, some y => if min l x.Open = 0 then c else { c with Loose := c.Loose.set i (l - min l x.Open), Claims := c.Claims.set k { x with Open := x.Open - min l x.Open }, Matches := c.Matches ++ [⟨y.Number, x.ID, min l x.Open⟩] }
  | _, _, _ => c
def meets (c : TCash) (i : Nat) (ks : List Nat) : TCash := ks.foldl (fun c k => meet c i k) c
def dayAt (l : List TClaim) (k : Nat) : Int := (l[k]?.map (·.Day)).getD 0
/-- Where the open claims of a payer are, the oldest first. -/
def openK (l : List TClaim) (payer : Int) : List Nat := ssort (fun a b => decide (dayAt l a < dayAt l b)) ((List.range l.length).filter fun k => match l[k]? with | some x => decide (x.Payer = payer) && decide (0 < x.Open) | none => false)
def only (ks : List Nat) : List Nat := match ks with
  | [k] => [k]
  | _ => []
def exactK (l : List TClaim) (payer n : Int) : List Nat := only ((openK l payer).filter fun k => match l[k]? with | some x => decide (x.Open = n) | none => false)

/-! ### The oldest open claim is the first of the open ones -/
theorem dayAt_set {l : List TClaim} {k : Nat} {x y : TClaim} (hx : l[k]? = some x) (hd : y.Day = x.Day) : dayAt (l.set k y) = dayAt l := by
  funext j
  unfold dayAt
  by_cases e : k = j
  · subst e
    rw [List.getElem?_set_self (List.getElem?_eq_some_iff.1 hx).1, hx]
    simp [hd]
  · rw [List.getElem?_set_ne e]
theorem dayOrd (f : Nat → Int) : SOrd (fun a b : Nat => decide (f a < f b)) := ⟨fun a b h => by simp at h ⊢; omega, fun a b c h1 h2 => by simp at h1 h2 ⊢; omega⟩
/-- A claim that is paid is not open any more; the others stay as they were. -/
theorem openK_set {l : List TClaim} {k : Nat} {x y : TClaim} {p : Int} (hx : l[k]? = some x) (hy : y.Day = x.Day) (hz : y.Open = 0) : openK (l.set k y) p = (openK l p).filter fun j => decide (j ≠ k) := by
  unfold openK
  rw [dayAt_set hx hy, ssort_filter (dayOrd _), List.length_set, List.filter_filter]
  congr 1
  apply List.filter_congr
  intro j _
  by_cases e : j = k
  · subst e
    rw [List.getElem?_set_self (List.getElem?_eq_some_iff.1 hx).1]
    simp [hz]
  · rw [List.getElem?_set_ne (Ne.symm e)]
    simp [e]
theorem openK_mem {l : List TClaim} {k : Nat} {p : Int} : k ∈ openK l p ↔ ∃ x, l[k]? = some x ∧ x.Payer = p ∧ 0 < x.Open := by
  unfold openK
  rw [ssort_mem, List.mem_filter, List.mem_range]
  constructor
  · rintro ⟨h1, h2⟩
    rw [List.getElem?_eq_getElem h1] at h2 ⊢
    simp only [Bool.and_eq_true, decide_eq_true_eq] at h2
    exact ⟨_, rfl, h2⟩
  · rintro ⟨x, hx, h⟩
    refine ⟨(List.getElem?_eq_some_iff.1 hx).1, ?_⟩
    rw [hx]
    simpa using h
theorem ssort_perm {α : Type} {lt : α → α → Bool} (l : List α) : (ssort lt l).Perm l := by
  induction l using snocRec with
  | h0 => exact .nil
  | h1 l x ih =>
    rw [ssort_snoc]
    have ins : ∀ L : List α, (insR lt x L).Perm (x :: L) := fun L => by
      induction L with
      | nil => exact .refl _
      | cons y L ih =>
        rw [insR]
        split
        · exact .refl _
        · exact (ih.cons y).trans (.swap x y L)
    exact (ins _).trans ((ih.cons x).trans (List.perm_append_singleton x l).symm)
theorem openK_nodup (l : List TClaim) (p : Int) : (openK l p).Nodup := (ssort_perm _).nodup_iff.2 (List.nodup_range.filter _)

/-- As the reference looks: the first index of the least day. -/
def oldStep (l : List TClaim) (p : Int) (best : Option Nat) (k : Nat) : Option Nat := match l[k]? with
  | some x => if decide (x.Payer = p) && decide (0 < x.Open) then (match best with | none => some k | some b => if dayAt l k < dayAt l b then some k else some b) else best
  | none => best
def oldestK (l : List TClaim) (p : Int) : Option Nat := (List.range l.length).foldl (oldStep l p) none
theorem insR_head {α : Type} {lt : α → α → Bool} {x : α} : ∀ L : List α, (insR lt x L).head? = match L.head? with | none => some x | some y => if lt x y then some x else some y
  | [] => rfl
  | y :: L => by
    rw [insR]
    simp only [List.head?_cons]
    split <;> rfl
theorem oldest_head (l : List TClaim) (p : Int) : oldestK l p = (openK l p).head? := by
  unfold oldestK openK
  have key : ∀ n : Nat, (List.range n).foldl (oldStep l p) none = (ssort (fun a b => decide (dayAt l a < dayAt l b)) ((List.range n).filter fun k => match l[k]? with | some x => decide (x.Payer = p) && decide (0 < x.Open) | none => false)).head? := fun n => by
    induction n with
    | zero => rfl
    | succ n ih =>
      rw [List.range_succ, List.foldl_append, ih, List.filter_append]
      simp only [List.foldl_cons, List.foldl_nil]
      unfold oldStep
      cases hx : l[n]? with
      | none => simp [hx]
      | some x =>
        simp only
        cases hb : decide (x.Payer = p) && decide (0 < x.Open)
        · simp [hx, hb]
        · have e : ([n].filter fun k => match l[k]? with | some x => decide (x.Payer = p) && decide (0 < x.Open) | none => false) = [n] := by simp [hx, hb]
          rw [e, ssort_snoc, insR_head, if_pos rfl]
          cases (ssort (fun a b => decide (dayAt l a < dayAt l b)) ((List.range n).filter fun k => match l[k]? with | some x => decide (x.Payer = p) && decide (0 < x.Open) | none => false)).head? with
          | none => rfl
          | some b =>
            by_cases h : dayAt l n < dayAt l b <;> simp [h]
  exact key _

/-! ### Oldest by oldest is all in their order -/
theorem meet_no {c : TCash} {i : Nat} (h : c.Loose[i]? = some 0) (hp : ∀ x, x ∈ c.Claims → 0 ≤ x.Open) (k : Nat) : meet c i k = c := by
  unfold meet
  rw [h]
  cases hx : c.Claims[k]? with
  | none => rfl
  | some x =>
    cases hy : c.Incomes[i]? with
    | none => rfl
    | some y =>
      have := hp x (List.mem_of_getElem? hx)
      simp only
      rw [if_pos (by omega)]
theorem meets_no {c : TCash} {i : Nat} (h : c.Loose[i]? = some 0) (hp : ∀ x, x ∈ c.Claims → 0 ≤ x.Open) : ∀ ks : List Nat, meets c i ks = c
  | [] => rfl
  | k :: ks => by
    have := meets_no h hp ks
    unfold meets at this ⊢
    rw [List.foldl_cons, meet_no h hp k, this]
theorem meet_at {c : TCash} {i k : Nat} {lo : Int} {x : TClaim} {y : TIncome} (h1 : c.Loose[i]? = some lo) (h2 : c.Claims[k]? = some x) (h3 : c.Incomes[i]? = some y) (hn : ¬ min lo x.Open = 0) :
    meet c i k = { c with Loose := c.Loose.set i (lo - min lo x.Open), Claims := c.Claims.set k { x with Open := x.Open - min lo x.Open }, Matches := c.Matches ++ [⟨y.Number, x.ID, min lo x.Open⟩] } := by
  unfold meet
  rw [h1, h2, h3]
  simp only
  rw [if_neg hn]
def chase (i : Nat) (p : Int) : Nat → TCash → TCash
  | 0, c => c
  | f + 1, c => if 0 < (c.Loose[i]?).getD 0 then (match oldestK c.Claims p with | none => c | some k => chase i p f (meet c i k)) else c
theorem chase_no {c : TCash} {i : Nat} (p : Int) (h : c.Loose[i]? = some 0) : ∀ f, chase i p f c = c
  | 0 => rfl
  | f + 1 => by rw [chase, h, if_neg (by simp)]
theorem chase_meets (i : Nat) (p : Int) (y : TIncome) : ∀ (ks : List Nat) (c : TCash) (lo : Int), openK c.Claims p = ks → c.Loose[i]? = some lo → 0 ≤ lo → c.Incomes[i]? = some y → (∀ x, x ∈ c.Claims → 0 ≤ x.Open) → ∀ f, ks.length < f → chase i p f c = meets c i ks
  | ks, c, lo, hk, hl, h0, hy, hp, 0, hf => by omega
  | [], c, lo, hk, hl, h0, hy, hp, f + 1, hf => by
    rw [chase, oldest_head, hk]
    simp only [List.head?_nil]
    split <;> rfl
  | k :: ks, c, lo, hk, hl, h0, hy, hp, f + 1, hf => by
    by_cases hz : lo = 0
    · subst hz
      rw [chase_no p hl, meets_no hl hp]
    have hmem : k ∈ openK c.Claims p := by rw [hk]; simp
    obtain ⟨x, hx, _, hxo⟩ := openK_mem.1 hmem
    have nd := openK_nodup c.Claims p
    rw [hk, List.nodup_cons] at nd
    have hn : ¬ min lo x.Open = 0 := by omega
    have em := meet_at hl hx hy hn
    have lti := (List.getElem?_eq_some_iff.1 hl).1
    have ltk := (List.getElem?_eq_some_iff.1 hx).1
    have e1 : chase i p (f + 1) c = chase i p f (meet c i k) := by
      rw [chase, hl, oldest_head, hk]
      simp only [Option.getD_some, List.head?_cons]
      rw [if_pos (by omega)]
    have e2 : meets c i (k :: ks) = meets (meet c i k) i ks := rfl
    have hp' : ∀ z, z ∈ (meet c i k).Claims → 0 ≤ z.Open := fun z hz => by
      rw [em] at hz
      rcases List.mem_or_eq_of_mem_set hz with h | h
      · exact hp z h
      · rw [h]
        show 0 ≤ x.Open - min lo x.Open
        omega
    have hl' : (meet c i k).Loose[i]? = some (lo - min lo x.Open) := by
      rw [em]
      exact List.getElem?_set_self lti
    rw [e1, e2]
    by_cases hle : lo ≤ x.Open
    · rw [show lo - min lo x.Open = 0 by omega] at hl'
      rw [chase_no p hl', meets_no hl' hp']
    · have hy' : (meet c i k).Incomes[i]? = some y := by rw [em]; exact hy
      refine chase_meets i p y ks (meet c i k) _ ?_ hl' (by omega) hy' hp' f (by simp at hf; omega)
      rw [em]
      show openK (c.Claims.set k { x with Open := x.Open - min lo x.Open }) p = ks
      rw [openK_set (y := { x with Open := x.Open - min lo x.Open }) hx rfl (by show x.Open - min lo x.Open = 0; omega), hk, List.filter_cons, if_neg (by simp)]
      exact List.filter_eq_self.2 fun j hj => by
        simp only [decide_eq_true_eq]
        rintro rfl
        exact nd.1 hj

/-! ### The only one of just an amount -/
def sameK (l : List TClaim) (p n : Int) : List Nat := (List.range l.length).filter fun k => match l[k]? with | some x => decide (x.Payer = p) && decide (x.Open = n) | none => false
theorem only_ssort {lt : Nat → Nat → Bool} (ks : List Nat) : only (ssort lt ks) = only ks := by
  match ks with
  | [] => rfl
  | [k] => rfl
  | a :: b :: r =>
    have h := ssort_len (lt := lt) (a :: b :: r)
    match hs : ssort lt (a :: b :: r), h with
    | [], h => simp at h
    | [x], h => simp at h
    | x :: y :: z, _ => rfl
theorem exact_same (l : List TClaim) (p : Int) {n : Int} (hn : 0 < n) : exactK l p n = only (sameK l p n) := by
  unfold exactK
  unfold openK
  rw [ssort_filter (dayOrd _), only_ssort, List.filter_filter]
  congr 1
  unfold sameK
  apply List.filter_congr
  intro k _
  cases hx : l[k]? with
  | none => rfl
  | some x =>
    simp only
    by_cases h : x.Open = n
    · simp [h, hn]
    · simp [h]

/-! ### Cash that is right stays right where an income meets a claim -/
theorem paysB_iff : ∀ (l : List TClaim) (p : Int), paysB p l = true ↔ (∀ c, c ∈ l → payB c = true ∧ p < c.ID) ∧ l.Pairwise fun a b => a.ID < b.ID
  | [], p => by simp [paysB]
  | c :: l, p => by
    rw [paysB]
    simp only [Bool.and_eq_true, decide_eq_true_eq, paysB_iff l c.ID, List.pairwise_cons, List.forall_mem_cons]
    constructor
    · rintro ⟨⟨h1, h2⟩, h3, h4⟩
      exact ⟨⟨⟨h1, h2⟩, fun x hx => ⟨(h3 x hx).1, by have := (h3 x hx).2; omega⟩⟩, fun x hx => (h3 x hx).2, h4⟩
    · rintro ⟨⟨⟨h1, h2⟩, h3⟩, h4, h5⟩
      exact ⟨⟨h1, h2⟩, fun x hx => ⟨(h3 x hx).1, h4 x hx⟩, h5⟩
theorem incsB_iff : ∀ (l : List TIncome) (n d : Int), incsB n d l = true ↔ (∀ x, x ∈ l → incB x = true ∧ n < x.Number ∧ d ≤ x.Day) ∧ l.Pairwise fun a b => a.Number < b.Number ∧ a.Day ≤ b.Day
  | [], n, d => by simp [incsB]
  | x :: l, n, d => by
    rw [incsB]
    simp only [Bool.and_eq_true, decide_eq_true_eq, incsB_iff l x.Number x.Day, List.pairwise_cons, List.forall_mem_cons]
    constructor
    · rintro ⟨⟨⟨h1, h2⟩, h2'⟩, h3, h4⟩
      exact ⟨⟨⟨h1, h2, h2'⟩, fun z hz => ⟨(h3 z hz).1, by have := (h3 z hz).2; omega, by have := (h3 z hz).2; omega⟩⟩, fun z hz => (h3 z hz).2, h4⟩
    · rintro ⟨⟨⟨h1, h2, h2'⟩, h3⟩, h4, h5⟩
      exact ⟨⟨⟨h1, h2⟩, h2'⟩, fun z hz => ⟨(h3 z hz).1, h4 z hz⟩, h5⟩
theorem payB_iff {c : TClaim} : payB c = true ↔ (1 ≤ c.ID ∧ c.ID ≤ 1000000) ∧ (1 ≤ c.Payer ∧ c.Payer ≤ 1000000) ∧ (1 ≤ c.Amount ∧ c.Amount ≤ 1000000000000) ∧ (0 ≤ c.Open ∧ c.Open ≤ c.Amount) ∧ (0 ≤ c.Day ∧ c.Day ≤ 36000) ∧ codeB c.Code = true := by
  simp [payB, btw, and_assoc]
theorem gotS_snoc (ms : List TMatch) (m : TMatch) (id : Int) : gotS (ms ++ [m]) id = gotS ms id + if m.Claim = id then m.Amount else 0 := by
  unfold gotS
  rw [List.filter_append, List.map_append, List.sum_append]
  by_cases h : m.Claim = id <;> simp [h]
theorem usedS_snoc (ms : List TMatch) (m : TMatch) (n : Int) : usedS (ms ++ [m]) n = usedS ms n + if m.Income = n then m.Amount else 0 := by
  unfold usedS
  rw [List.filter_append, List.map_append, List.sum_append]
  by_cases h : m.Income = n <;> simp [h]
structure CashOk (c : TCash) : Prop where
  pays : (∀ x, x ∈ c.Claims → payB x = true) ∧ c.Claims.Pairwise fun a b => a.ID < b.ID
  incs : (∀ x, x ∈ c.Incomes → incB x = true) ∧ c.Incomes.Pairwise fun a b => a.Number < b.Number ∧ a.Day ≤ b.Day
  len : c.Loose.length = c.Incomes.length
  mates : ∀ m, m ∈ c.Matches → 0 < m.Amount ∧ ∃ x y, x ∈ c.Claims ∧ y ∈ c.Incomes ∧ x.ID = m.Claim ∧ y.Number = m.Income ∧ y.Payer = x.Payer
  got : ∀ x, x ∈ c.Claims → gotS c.Matches x.ID = x.Amount - x.Open
  used : ∀ (i : Nat) y lo, c.Incomes[i]? = some y → c.Loose[i]? = some lo → 0 ≤ lo ∧ usedS c.Matches y.Number ≤ y.Amount - lo
theorem id_inj {l : List TClaim} (h : l.Pairwise fun a b => a.ID < b.ID) {i j : Nat} {x y : TClaim} (hi : l[i]? = some x) (hj : l[j]? = some y) (e : x.ID = y.ID) : i = j := by
  obtain ⟨h1, h2⟩ := List.getElem?_eq_some_iff.1 hi
  obtain ⟨h3, h4⟩ := List.getElem?_eq_some_iff.1 hj
  rcases Nat.lt_trichotomy i j with hlt | rfl | hlt
  · have := List.pairwise_iff_getElem.1 h i j h1 h3 hlt
    rw [h2, h4] at this
    omega
  · rfl
  · have := List.pairwise_iff_getElem.1 h j i h3 h1 hlt
    rw [h2, h4] at this
    omega
theorem num_inj {l : List TIncome} (h : l.Pairwise fun a b => a.Number < b.Number ∧ a.Day ≤ b.Day) {i j : Nat} {x y : TIncome} (hi : l[i]? = some x) (hj : l[j]? = some y) (e : x.Number = y.Number) : i = j := by
  obtain ⟨h1, h2⟩ := List.getElem?_eq_some_iff.1 hi
  obtain ⟨h3, h4⟩ := List.getElem?_eq_some_iff.1 hj
  rcases Nat.lt_trichotomy i j with hlt | rfl | hlt
  · have := (List.pairwise_iff_getElem.1 h i j h1 h3 hlt).1
    rw [h2, h4] at this
    omega
  · rfl
  · have := (List.pairwise_iff_getElem.1 h j i h3 h1 hlt).1
    rw [h2, h4] at this
    omega

theorem meet_ok {c : TCash} (h : CashOk c) {i k : Nat} {lo : Int} {x : TClaim} {y : TIncome} (h1 : c.Loose[i]? = some lo) (h2 : c.Claims[k]? = some x) (h3 : c.Incomes[i]? = some y) (hp : y.Payer = x.Payer) : CashOk (meet c i k) := by
  by_cases hn : min lo x.Open = 0
  · have e : meet c i k = c := by
      unfold meet
      rw [h1, h2, h3]
      simp only
      rw [if_pos hn]
    rw [e]
    exact h
  have hx := payB_iff.1 (h.pays.1 x (List.mem_of_getElem? h2))
  have hl := h.used i y lo h3 h1
  have ltk := (List.getElem?_eq_some_iff.1 h2).1
  have lti := (List.getElem?_eq_some_iff.1 h1).1
  rw [meet_at h1 h2 h3 hn]
  obtain ⟨n, hn'⟩ : ∃ n, n = min lo x.Open := ⟨_, rfl⟩
  rw [← hn'] at hn ⊢
  have bn : 0 < n ∧ n ≤ lo ∧ n ≤ x.Open := by omega
  obtain ⟨x', hx'⟩ : ∃ x' : TClaim, x' = { x with Open := x.Open - n } := ⟨_, rfl⟩
  rw [← hx']
  have i1 : x'.ID = x.ID := by rw [hx']
  have i2 : x'.Payer = x.Payer := by rw [hx']
  have i3 : x'.Open = x.Open - n := by rw [hx']
  have i4 : x'.Amount = x.Amount := by rw [hx']
  have mem : ∀ z, z ∈ c.Claims.set k x' → z = x' ∨ ∃ j, ¬ j = k ∧ c.Claims[j]? = some z := fun z hz => by
    obtain ⟨j, hj⟩ := List.getElem?_of_mem hz
    by_cases e : k = j
    · subst e
      rw [List.getElem?_set_self ltk] at hj
      exact .inl (Option.some.inj hj).symm
    · rw [List.getElem?_set_ne e] at hj
      exact .inr ⟨j, fun e' => e e'.symm, hj⟩
  have back : ∀ z, z ∈ c.Claims → ∃ z', z' ∈ c.Claims.set k x' ∧ z'.ID = z.ID ∧ z'.Payer = z.Payer := fun z hz => by
    obtain ⟨j, hj⟩ := List.getElem?_of_mem hz
    by_cases e : k = j
    · subst e
      rw [h2] at hj
      cases hj
      exact ⟨x', List.mem_of_getElem? (List.getElem?_set_self ltk), i1, i2⟩
    · exact ⟨z, List.mem_of_getElem? ((List.getElem?_set_ne e).trans hj), rfl, rfl⟩
  refine ⟨⟨fun z hz => ?_, ?_⟩, h.incs, by rw [List.length_set]; exact h.len, fun m hm => ?_, fun z hz => ?_, fun j w l hj hl' => ?_⟩
  · rcases mem z hz with rfl | ⟨j, _, hj⟩
    · refine payB_iff.2 ?_
      rw [hx']
      simp only
      exact ⟨hx.1, hx.2.1, hx.2.2.1, by omega, hx.2.2.2.2⟩
    · exact h.pays.1 z (List.mem_of_getElem? hj)
  · have e : (c.Claims.set k x').map (·.ID) = c.Claims.map (·.ID) := by
      apply List.ext_getElem?
      intro j
      rw [List.getElem?_map, List.getElem?_map]
      by_cases e : k = j
      · subst e
        rw [List.getElem?_set_self ltk, h2]
        simp [i1]
      · rw [List.getElem?_set_ne e]
    have p1 : (c.Claims.map (·.ID)).Pairwise (· < ·) := List.pairwise_map.2 h.pays.2
    rw [← e] at p1
    exact List.pairwise_map.1 p1
  · rcases List.mem_append.1 hm with hm | hm
    · obtain ⟨q1, z, w, q2, q3, q4, q5, q6⟩ := h.mates m hm
      obtain ⟨z', q7, q8, q9⟩ := back z q2
      exact ⟨q1, z', w, q7, q3, by omega, q5, by omega⟩
    · rw [List.mem_singleton.1 hm]
      exact ⟨bn.1, x', y, List.mem_of_getElem? (List.getElem?_set_self ltk), List.mem_of_getElem? h3, i1, rfl, by omega⟩
  · rw [gotS_snoc]
    rcases mem z hz with rfl | ⟨j, hjk, hj⟩
    · have := h.got x (List.mem_of_getElem? h2)
      rw [i1, if_pos rfl, this, i3, i4]
      simp only
      omega
    · have := h.got z (List.mem_of_getElem? hj)
      rw [if_neg (fun e => hjk (id_inj h.pays.2 h2 hj e).symm), this]
      omega
  · rw [usedS_snoc]
    by_cases e : i = j
    · subst e
      rw [h3] at hj
      cases hj
      rw [List.getElem?_set_self lti] at hl'
      cases hl'
      rw [if_pos rfl]
      simp only
      omega
    · rw [List.getElem?_set_ne e] at hl'
      have := h.used j w l hj hl'
      rw [if_neg (fun e' => e (num_inj h.incs.2 h3 hj e'))]
      omega

/-- What is specified of taking an income in. -/
def taken (c : TCash) (x : TIncome) : TCash :=
  let c0 : TCash := { c with Incomes := c.Incomes ++ [x], Loose := c.Loose ++ [x.Amount] }
  let n := c.Incomes.length
  let c1 := match payAt c.Claims x.Claim with
    | some k => if ((c.Claims[k]?).map (·.Payer)) = some x.Payer then meet c0 n k else c0
    | none => c0
  let c2 := if (c1.Loose[n]?).getD 0 = x.Amount then meets c1 n (exactK c1.Claims x.Payer x.Amount) else c1
  meets c2 n (openK c2.Claims x.Payer)
def lastN (c : TCash) : Int := ((c.Incomes.getLast?).map (·.Number)).getD 0
def lastD (c : TCash) : Int := ((c.Incomes.getLast?).map (·.Day)).getD 0
def noCash : TCash := ⟨[], [], [], []⟩
def takeD (c : TCash) (x : TIncome) : TCash × List TMatch × Int :=
  if cashE c = 0 then (if incB x then (if lastN c < x.Number then (if lastD c ≤ x.Day then (if c.Incomes.length < 100 then (if (taken c x).Matches.length ≤ 160 then (taken c x, (taken c x).Matches.drop c.Matches.length, 0) else (noCash, [], 3)) else (noCash, [], 3)) else (noCash, [], 8)) else (noCash, [], 65)) else (noCash, [], 70)) else (noCash, [], cashE c)
def newD (l : List TClaim) : TCash × Int := if l.length ≤ 60 then (if paysB 0 l && (l.all fun c => decide (c.Open = c.Amount)) then (⟨l, [], [], []⟩, 0) else (noCash, 69)) else (noCash, 3)
def looseD (c : TCash) (p : Int) : Int := if cashE c = 0 then (((c.Incomes.zip c.Loose).filter fun q => decide (q.1.Payer = p)).map (·.2)).sum else 0
def owedD (c : TCash) (p : Int) : Int := if cashE c = 0 then ((c.Claims.filter fun x => decide (x.Payer = p)).map (·.Open)).sum else 0
def refundD (c : TCash) (n : Int) : TCash × Int × Int := if cashE c = 0 then (match incAt c.Incomes n with
  | none => (noCash, 0, 6)
  | some i => if (c.Loose[i]?).getD 0 = 0 then (noCash, 0, 10) else ({ c with Loose := c.Loose.set i 0 }, (c.Loose[i]?).getD 0, 0)) else (noCash, 0, cashE c)
theorem meet_len (c : TCash) (i k : Nat) : (meet c i k).Claims.length = c.Claims.length ∧ (meet c i k).Loose.length = c.Loose.length ∧ (meet c i k).Incomes = c.Incomes := by
  unfold meet
  split
  · split
    · exact ⟨rfl, rfl, rfl⟩
    · simp
  · exact ⟨rfl, rfl, rfl⟩

/-- An income that was just taken in, with nothing matched. -/
theorem income_ok {c : TCash} (h : CashOk c) {x : TIncome} (hx : incB x = true) (hn : ∀ y, y ∈ c.Incomes → y.Number < x.Number ∧ y.Day ≤ x.Day) : CashOk { c with Incomes := c.Incomes ++ [x], Loose := c.Loose ++ [x.Amount] } := by
  have none0 : usedS c.Matches x.Number = 0 := by
    unfold usedS
    have e : (c.Matches.filter fun m => decide (m.Income = x.Number)) = [] := List.filter_eq_nil_iff.2 fun m hm => by
      obtain ⟨_, _, y, _, h3, _, h5, _⟩ := h.mates m hm
      have := (hn y h3).1
      simp only [decide_eq_true_eq]
      omega
    rw [e]
    rfl
  have hb : 1 ≤ x.Amount := by
    simp only [incB, Bool.and_eq_true] at hx
    exact (btw_iff.1 hx.1.2).1
  refine ⟨h.pays, ⟨fun y hy => ?_, List.pairwise_append.2 ⟨h.incs.2, by simp, fun a ha b hb' => ?_⟩⟩, ?_, fun m hm => ?_, h.got, fun i y lo hi hl => ?_⟩
  · rcases List.mem_append.1 hy with hy | hy
    · exact h.incs.1 y hy
    · rw [List.mem_singleton.1 hy]; exact hx
  · rw [List.mem_singleton.1 hb']
    exact hn a ha
  · simp [h.len]
  · obtain ⟨q1, z, y, q2, q3, q4, q5, q6⟩ := h.mates m hm
    exact ⟨q1, z, y, q2, List.mem_append_left _ q3, q4, q5, q6⟩
  · by_cases e : i < c.Incomes.length
    · have hi : c.Incomes[i]? = some y := by rwa [List.getElem?_append_left e] at hi
      have hl : c.Loose[i]? = some lo := by rwa [List.getElem?_append_left (by rw [h.len]; exact e)] at hl
      exact h.used i y lo hi hl
    · have lt := (List.getElem?_eq_some_iff.1 hi).1
      rw [List.length_append, List.length_singleton] at lt
      have ei : i = c.Incomes.length := by omega
      subst ei
      rw [List.getElem?_append_right (Nat.le_refl _), Nat.sub_self] at hi
      rw [List.getElem?_append_right (by rw [h.len]; exact Nat.le_refl _), h.len, Nat.sub_self] at hl
      simp only [List.getElem?_cons_zero, Option.some.injEq] at hi hl
      subst hi
      subst hl
      show 0 ≤ x.Amount ∧ usedS c.Matches x.Number ≤ x.Amount - x.Amount
      omega
end Go.Proofs.YtgapbmaehfdkoaaGreatDoor
