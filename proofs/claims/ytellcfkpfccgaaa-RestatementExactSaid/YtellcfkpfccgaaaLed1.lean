/- Ledgers: what they are, no program in sight. -/
import Derived.Test.YtellcfkpfccgaaaTypes
import Derived.Test.YtellcfkpfccgaaaPaC
set_option linter.unusedSimpArgs false
set_option linter.unusedVariables false
namespace Go.Proofs.Ytellcfkpfccgaaa
open Go.PA

abbrev postsL (l : List TPosting) : AV := .list 8 (encL TPosting.cells l)
theorem cP (p : TPosting) : p.cells = [iv p.Number, iv p.Day, iv p.Entity, iv p.Debit, iv p.Credit, iv p.Amount, iv p.Partner, iv p.Ref] := rfl
theorem imm_posts (l : List TPosting) : Imm (postsL l) := imm_encL _ TPosting.imm _

def betw (n lo hi : Int) : Bool := decide (lo ≤ n) && decide (n ≤ hi)
theorem betw_iff {n lo hi : Int} : betw n lo hi = true ↔ lo ≤ n ∧ n ≤ hi := by simp [betw]
def classI (a : Int) : Int := if 100 ≤ a ∧ a ≤ 599 then a / 100 else 0
theorem classI_pos (a : Int) : 0 < classI a ↔ 100 ≤ a ∧ a ≤ 599 := by
  unfold classI
  split <;> omega

theorem classI_nat' (n : Int) : 0 ≤ classI n ∧ classI n ≤ 5 := by
  unfold classI
  split <;> omega
/-- A valid posting. -/
def postB (p : TPosting) : Bool :=
  betw p.Number 1 1000000 && betw p.Day 0 36000 && betw p.Entity 1 10 && betw p.Debit 100 599 && betw p.Credit 100 599 && !decide (p.Debit = p.Credit) && betw p.Amount 1 1000000000000 && betw p.Partner 0 10 && !decide (p.Partner = p.Entity) && betw p.Ref 0 1000000
structure PostOk (p : TPosting) : Prop where
  num : 1 ≤ p.Number ∧ p.Number ≤ 1000000
  day : 0 ≤ p.Day ∧ p.Day ≤ 36000
  ent : 1 ≤ p.Entity ∧ p.Entity ≤ 10
  deb : 100 ≤ p.Debit ∧ p.Debit ≤ 599
  cre : 100 ≤ p.Credit ∧ p.Credit ≤ 599
  ne : p.Debit ≠ p.Credit
  amt : 1 ≤ p.Amount ∧ p.Amount ≤ 1000000000000
  par : 0 ≤ p.Partner ∧ p.Partner ≤ 10
  pne : p.Partner ≠ p.Entity
  ref : 0 ≤ p.Ref ∧ p.Ref ≤ 1000000
theorem postB_iff (p : TPosting) : postB p = true ↔ PostOk p := by
  simp only [postB, Bool.and_eq_true, betw_iff, Bool.not_eq_true', decide_eq_false_iff_not]
  constructor
  · rintro ⟨⟨⟨⟨⟨⟨⟨⟨⟨h1, h2⟩, h3⟩, h4⟩, h5⟩, h6⟩, h7⟩, h8⟩, h9⟩, h10⟩
    exact ⟨h1, h2, h3, h4, h5, h6, h7, h8, h9, h10⟩
  · rintro ⟨h1, h2, h3, h4, h5, h6, h7, h8, h9, h10⟩
    exact ⟨⟨⟨⟨⟨⟨⟨⟨⟨h1, h2⟩, h3⟩, h4⟩, h5⟩, h6⟩, h7⟩, h8⟩, h9⟩, h10⟩

/-- What moves the accounts: the amount is in bounds, and so are the accounts. -/
structure Fine (p : TPosting) : Prop where
  deb : 100 ≤ p.Debit ∧ p.Debit ≤ 599
  cre : 100 ≤ p.Credit ∧ p.Credit ≤ 599
  amt : 1 ≤ p.Amount ∧ p.Amount ≤ 1000000000000
theorem PostOk.fine {p : TPosting} (h : PostOk p) : Fine p := ⟨h.deb, h.cre, h.amt⟩
def FineL (l : List TPosting) : Prop := (∀ p, p ∈ l → Fine p) ∧ l.length ≤ 9000

/-! ### Balances -/

/-- Which postings count: of an entity (or of any, for 0), from a day to a day. -/
def ofB (e from_ to : Int) (p : TPosting) : Bool := (decide (e = 0) || decide (p.Entity = e)) && (decide (from_ ≤ p.Day) && decide (p.Day ≤ to))

/-- What a posting adds to what a test takes. -/
def addP (q : Int → Bool) (p : TPosting) : Int := (if q p.Debit = true then p.Amount else 0) - (if q p.Credit = true then p.Amount else 0)
/-- The sum of the accounts that a test takes. -/
def netP (q : Int → Bool) (f : TPosting → Bool) : List TPosting → Int
  | [] => 0
  | p :: l => (if f p = true then addP q p else 0) + netP q f l
theorem netP_app (q : Int → Bool) (f : TPosting → Bool) (l m : List TPosting) : netP q f (l ++ m) = netP q f l + netP q f m := by
  induction l with
  | nil => simp [netP]
  | cons p l ih => simp only [List.cons_append, netP, ih]; omega
theorem netP_snoc (q : Int → Bool) (f : TPosting → Bool) (l : List TPosting) (p : TPosting) : netP q f (l ++ [p]) = netP q f l + (if f p = true then addP q p else 0) := by
  rw [netP_app]; simp [netP]
/-- The balance of an account. -/
abbrev bal (f : TPosting → Bool) (l : List TPosting) (a : Int) : Int := netP (fun b => decide (b = a)) f l
/-- The balance of a class. -/
abbrev cls (f : TPosting → Bool) (l : List TPosting) (c : Int) : Int := netP (fun b => decide (classI b = c)) f l

theorem addP_bound (q : Int → Bool) {p : TPosting} (h : Fine p) : -1000000000000 ≤ addP q p ∧ addP q p ≤ 1000000000000 := by
  have := h.amt
  unfold addP
  split <;> split <;> omega
theorem netP_bound (q : Int → Bool) (f : TPosting → Bool) : ∀ (l : List TPosting), (∀ p, p ∈ l → Fine p) → -(1000000000000 * (l.length : Int)) ≤ netP q f l ∧ netP q f l ≤ 1000000000000 * (l.length : Int)
  | [], _ => by simp [netP]
  | p :: l, h => by
    have h1 := addP_bound q (h p (by simp))
    have h2 := netP_bound q f l fun p hp => h p (by simp [hp])
    simp only [netP, List.length_cons]
    split <;> omega

/-! ### Books: a map of balances -/

theorem getM_putM {β : Type} (l : List (Int × β)) (k a : Int) (v : β) : getM (putM l k v) a = if a = k then some v else getM l a := by
  induction l with
  | nil =>
    simp only [putM, getM]
    by_cases h : a = k
    · subst h; simp
    · rw [if_neg (fun e => h e.symm), if_neg h]
  | cons e l ih =>
    simp only [putM]
    by_cases h : e.1 = k
    · rw [if_pos h]
      simp only [getM]
      by_cases h' : a = k
      · subst h'; simp
      · rw [if_neg (fun e => h' e.symm), if_neg h', if_neg (fun e' => h' (e'.symm.trans h))]
    · rw [if_neg h]
      simp only [getM, ih]
      by_cases h' : e.1 = a
      · rw [if_pos h', if_pos h', if_neg (fun e' => h (h'.trans e'))]
      · rw [if_neg h', if_neg h']
abbrev getZ (m : List (Int × Int)) (a : Int) : Int := (getM m a).getD 0
theorem getZ_putM (l : List (Int × Int)) (k a v : Int) : getZ (putM l k v) a = if a = k then v else getZ l a := by
  unfold getZ
  rw [getM_putM]
  split <;> rfl

/-- The sum of the entries that a test takes; the sum of all sizes. -/
def sumM (q : Int → Bool) : List (Int × Int) → Int
  | [] => 0
  | e :: m => (if q e.1 = true then e.2 else 0) + sumM q m
def absM : List (Int × Int) → Int
  | [] => 0
  | e :: m => (if e.2 < 0 then -e.2 else e.2) + absM m
theorem absM_nonneg : ∀ m : List (Int × Int), 0 ≤ absM m
  | [] => by simp [absM]
  | e :: m => by
    have := absM_nonneg m
    unfold absM
    split <;> omega
theorem sumM_abs (q : Int → Bool) : ∀ m : List (Int × Int), -absM m ≤ sumM q m ∧ sumM q m ≤ absM m
  | [] => by simp [sumM, absM]
  | e :: m => by
    have := sumM_abs q m
    unfold sumM absM
    split <;> split <;> omega
theorem getZ_abs : ∀ (m : List (Int × Int)) (a : Int), -absM m ≤ getZ m a ∧ getZ m a ≤ absM m
  | [], a => by simp [getZ, getM, absM]
  | e :: m, a => by
    have h1 := getZ_abs m a
    have h2 := absM_nonneg m
    simp only [getZ, getM, absM] at h1 ⊢
    by_cases h : e.1 = a
    · rw [if_pos h, Option.getD_some]
      split <;> omega
    · rw [if_neg h]
      split <;> omega
theorem sumM_put (q : Int → Bool) (k x : Int) : ∀ m : List (Int × Int), sumM q (putM m k (getZ m k + x)) = sumM q m + (if q k = true then x else 0)
  | [] => by simp [putM, sumM, getZ, getM]
  | e :: m => by
    simp only [putM, getZ, getM]
    by_cases h : e.1 = k
    · subst h
      simp only [if_true, Option.getD_some, sumM]
      split <;> omega
    · have ih := sumM_put q k x m
      simp only [if_neg h, sumM]
      simp only [getZ] at ih
      rw [ih]
      omega
theorem absM_put (k x : Int) : ∀ m : List (Int × Int), absM (putM m k (getZ m k + x)) ≤ absM m + (if x < 0 then -x else x)
  | [] => by simp [putM, absM, getZ, getM]
  | e :: m => by
    simp only [putM, getZ, getM]
    by_cases h : e.1 = k
    · subst h
      simp only [if_true, Option.getD_some, absM]
      repeat' split
      all_goals omega
    · have ih := absM_put k x m
      simp only [if_neg h, absM]
      simp only [getZ] at ih
      omega
theorem sumM_erase (q : Int → Bool) : ∀ (m : List (Int × Int)) (i : Nat) (e : Int × Int), m[i]? = some e → sumM q m = (if q e.1 = true then e.2 else 0) + sumM q (m.eraseIdx i)
  | [], i, e, h => by simp at h
  | a :: m, 0, e, h => by simp at h; subst h; rfl
  | a :: m, i + 1, e, h => by
    have := sumM_erase q m i e (by simpa using h)
    simp only [List.eraseIdx_cons_succ, sumM, this]
    omega
theorem absM_erase : ∀ (m : List (Int × Int)) (i : Nat), absM (m.eraseIdx i) ≤ absM m
  | [], i => by simp [absM]
  | a :: m, 0 => by
    simp only [List.eraseIdx_cons_zero, absM]
    split <;> omega
  | a :: m, i + 1 => by
    have := absM_erase m i
    simp only [List.eraseIdx_cons_succ, absM]
    omega

/-- A posting's books. -/
def bookP (m : List (Int × Int)) (p : TPosting) : List (Int × Int) := putM (putM m p.Debit (getZ m p.Debit + p.Amount)) p.Credit (getZ (putM m p.Debit (getZ m p.Debit + p.Amount)) p.Credit + -p.Amount)
/-- The books of postings. -/
def books (f : TPosting → Bool) (l : List TPosting) : List (Int × Int) := l.foldl (fun m p => if f p = true then bookP m p else m) []
theorem books_snoc (f : TPosting → Bool) (l : List TPosting) (p : TPosting) : books f (l ++ [p]) = if f p = true then bookP (books f l) p else books f l := by
  simp [books]
theorem sumM_book (q : Int → Bool) (m : List (Int × Int)) (p : TPosting) : sumM q (bookP m p) = sumM q m + addP q p := by
  unfold bookP addP
  rw [sumM_put, sumM_put]
  split <;> split <;> omega
theorem getZ_book (m : List (Int × Int)) (p : TPosting) (a : Int) : getZ (bookP m p) a = getZ m a + addP (fun b => decide (b = a)) p := by
  unfold bookP addP
  rw [getZ_putM, getZ_putM, getZ_putM]
  by_cases h1 : p.Debit = a <;> by_cases h2 : p.Credit = a
  · subst h1; simp [h2]; omega
  · subst h1
    have h2' : ¬ p.Debit = p.Credit := fun e => h2 e.symm
    simp [h2, h2']
  · subst h2
    have h1' : ¬ p.Credit = p.Debit := fun e => h1 e.symm
    simp [h1, h1']
  · have h1' : ¬ a = p.Debit := fun e => h1 e.symm
    have h2' : ¬ a = p.Credit := fun e => h2 e.symm
    simp [h1, h2, h1', h2']
theorem absM_book (m : List (Int × Int)) {p : TPosting} (h : Fine p) : absM (bookP m p) ≤ absM m + 2000000000000 := by
  have := h.amt
  unfold bookP
  have h1 := absM_put p.Credit (-p.Amount) (putM m p.Debit (getZ m p.Debit + p.Amount))
  have h2 := absM_put p.Debit p.Amount m
  rw [if_pos (by omega)] at h1
  rw [if_neg (by omega)] at h2
  omega

theorem snoc_ind {α : Type} {P : List α → Prop} (h0 : P []) (h1 : ∀ l a, P l → P (l ++ [a])) (l : List α) : P l := by
  have : ∀ l : List α, P l.reverse := fun l => by
    induction l with
    | nil => exact h0
    | cons a l ih => rw [List.reverse_cons]; exact h1 _ _ ih
  simpa using this l.reverse

theorem books_sum (q : Int → Bool) (f : TPosting → Bool) (l : List TPosting) : sumM q (books f l) = netP q f l := by
  induction l using snoc_ind with
  | h0 => rfl
  | h1 l p ih =>
    rw [books_snoc, netP_snoc]
    split
    · rw [sumM_book, ih]
    · rw [ih]; simp
theorem books_get (f : TPosting → Bool) (l : List TPosting) (a : Int) : getZ (books f l) a = bal f l a := by
  induction l using snoc_ind with
  | h0 => rfl
  | h1 l p ih =>
    rw [books_snoc, bal, netP_snoc]
    split
    · rw [getZ_book, ih]
    · rw [ih]; simp
theorem books_abs (f : TPosting → Bool) (l : List TPosting) (h : ∀ p, p ∈ l → Fine p) : absM (books f l) ≤ 2000000000000 * (l.length : Int) := by
  induction l using snoc_ind with
  | h0 => simp [books, absM]
  | h1 l p ih =>
    have ih := ih fun p hp => h p (by simp [hp])
    have := absM_book (books f l) (h p (by simp))
    rw [books_snoc, List.length_append, List.length_singleton]
    split <;> omega
/-- All accounts lie from 100 to 599. -/
theorem books_keys (f : TPosting → Bool) (l : List TPosting) (h : ∀ p, p ∈ l → Fine p) : ∀ e, e ∈ books f l → 100 ≤ e.1 ∧ e.1 ≤ 599 := by
  have put : ∀ (m : List (Int × Int)) (k v : Int), (100 ≤ k ∧ k ≤ 599) → (∀ e, e ∈ m → 100 ≤ e.1 ∧ e.1 ≤ 599) → ∀ e, e ∈ putM m k v → 100 ≤ e.1 ∧ e.1 ≤ 599 := by
    intro m k v hk
    induction m with
    | nil => intro _ e he; simp [putM] at he; subst he; exact hk
    | cons a m ih =>
      intro hm e he
      simp only [putM] at he
      split at he
      · rcases List.mem_cons.1 he with rfl | he
        · exact hk
        · exact hm e (by simp [he])
      · rcases List.mem_cons.1 he with rfl | he
        · exact hm e (by simp)
        · exact ih (fun e he => hm e (by simp [he])) e he
  induction l using snoc_ind with
  | h0 => simp [books]
  | h1 l p ih =>
    have ih := ih fun p hp => h p (by simp [hp])
    have hp := h p (by simp)
    rw [books_snoc]
    split
    · exact put _ _ _ hp.cre (put _ _ _ hp.deb ih)
    · exact ih
theorem bal_out (f : TPosting → Bool) (l : List TPosting) (h : ∀ p, p ∈ l → Fine p) (a : Int) (ha : a < 100 ∨ 599 < a) : bal f l a = 0 := by
  induction l with
  | nil => rfl
  | cons p l ih =>
    have hp := h p (by simp)
    have := hp.deb
    have := hp.cre
    have h1 : ¬ p.Debit = a := by omega
    have h2 : ¬ p.Credit = a := by omega
    rw [bal, netP, ← bal, ih fun p hp => h p (by simp [hp])]
    simp [addP, h1, h2]

/-- The balances that are not 0, ascending by account. -/
def listG (g : Int → Int) (from_ : Nat) : Nat → List TBalance
  | 0 => []
  | n + 1 => listG g from_ n ++ (if g ((from_ + n : Nat) : Int) = 0 then [] else [⟨((from_ + n : Nat) : Int), g ((from_ + n : Nat) : Int)⟩])

end Go.Proofs.Ytellcfkpfccgaaa
