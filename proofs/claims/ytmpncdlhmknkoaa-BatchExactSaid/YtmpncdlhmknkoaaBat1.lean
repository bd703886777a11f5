/- Queues of payments: what they are, no program in sight. -/
import Derived.Test.YtmpncdlhmknkoaaPlayAll
import Derived.Test.YtmpncdlhmknkoaaTypes
import Derived.Test.YtmpncdlhmknkoaaPaC
set_option linter.unusedSimpArgs false
set_option linter.unusedVariables false
namespace Go.Proofs.Ytmpncdlhmknkoaa
open Go.PA
open Go.RowKit

abbrev paysL (l : List TPayment) : AV := .list 5 (encL TPayment.cells l)
abbrev batsL (l : List TBatch) : AV := .list 3 (encL TBatch.cells l)
theorem imm_pays (l : List TPayment) : Imm (paysL l) := imm_encL _ TPayment.imm _
theorem imm_bats (l : List TBatch) : Imm (batsL l) := imm_encL _ TBatch.imm _
theorem cPy (p : TPayment) : p.cells = [iv p.Warrant, iv p.Payee, iv p.Amount, iv p.Due, iv p.Sub] := rfl
theorem cBt (b : TBatch) : b.cells = [iv b.Number, iv b.Day, paysL b.Payments] := rfl
theorem cQu (q : TQueue) : q.cells = [paysL q.Waiting, intsL q.Known, batsL q.Batches] := rfl
theorem imm_pay (c : TPayment) : Imm (.agg c.cells) := imm_agg.2 c.imm
theorem imm_bat (c : TBatch) : Imm (.agg c.cells) := imm_agg.2 c.imm
theorem imm_que (c : TQueue) : Imm (.agg c.cells) := imm_agg.2 c.imm

theorem drop_at {α : Type} {l : List α} {k : Nat} {e : α} (h : l[k]? = some e) : l.drop k = e :: l.drop (k + 1) := by
  obtain ⟨hk, rfl⟩ := List.getElem?_eq_some_iff.1 h
  exact List.drop_eq_getElem_cons hk
theorem take_at {α : Type} {l : List α} {k : Nat} {e : α} (h : l[k]? = some e) : l.take (k + 1) = l.take k ++ [e] := by
  rw [List.take_add_one, h]; rfl

/-! ### What they are -/
def amg (n lo hi : Int) : Bool := decide (lo ≤ n) && decide (n ≤ hi)
theorem amg_iff {n lo hi : Int} : amg n lo hi = true ↔ lo ≤ n ∧ n ≤ hi := by simp [amg]
theorem amg_no {n lo hi : Int} (h : ¬ (lo ≤ n ∧ n ≤ hi)) : amg n lo hi = false := Bool.eq_false_iff.2 fun e => h (amg_iff.1 e)
def payB (p : TPayment) : Bool := amg p.Warrant 1 1000000 && (amg p.Payee 1 1000000 && (amg p.Amount 1 1000000000000 && (amg p.Due 0 35990 && amg p.Sub 1 1000)))
structure PayOk (p : TPayment) : Prop where
  warrant : 1 ≤ p.Warrant ∧ p.Warrant ≤ 1000000
  payee : 1 ≤ p.Payee ∧ p.Payee ≤ 1000000
  amount : 1 ≤ p.Amount ∧ p.Amount ≤ 1000000000000
  due : 0 ≤ p.Due ∧ p.Due ≤ 35990
  sub : 1 ≤ p.Sub ∧ p.Sub ≤ 1000
theorem payB_iff (p : TPayment) : payB p = true ↔ PayOk p := by
  simp only [payB, Bool.and_eq_true, amg_iff]
  exact ⟨fun ⟨a, b, c, d, e⟩ => ⟨a, b, c, d, e⟩, fun ⟨a, b, c, d, e⟩ => ⟨a, b, c, d, e⟩⟩
def Bef (a b : TPayment) : Prop := a.Due < b.Due ∨ a.Due = b.Due ∧ a.Warrant < b.Warrant
instance (a b : TPayment) : Decidable (Bef a b) := by unfold Bef; infer_instance
def befB (a b : TPayment) : Bool := decide (Bef a b)
theorem befB_iff {a b : TPayment} : befB a b = true ↔ Bef a b := by simp [befB]
theorem Bef.trans {a b c : TPayment} (h : Bef a b) (k : Bef b c) : Bef a c := by unfold Bef at *; omega
theorem Bef.irrefl {a : TPayment} : ¬ Bef a a := by unfold Bef; omega
theorem Bef.tot {a b : TPayment} (h : a.Warrant ≠ b.Warrant) : Bef a b ∨ Bef b a := by unfold Bef; omega
def allO {α : Type} (o : Option α) (f : α → Bool) : Bool := match o with
  | none => true
  | some x => f x
theorem allO_iff {α : Type} {o : Option α} {f : α → Bool} : allO o f = true ↔ ∀ x, o = some x → f x = true := by
  cases o <;> simp [allO]
def ordFrom : Option TPayment → List TPayment → Bool
  | _, [] => true
  | o, p :: l => payB p && (allO o (fun x => befB x p) && ordFrom (some p) l)
def distFrom : List TPayment → List TPayment → Bool
  | _, [] => true
  | pre, p :: l => !(pre.any fun x => decide (x.Warrant = p.Warrant)) && distFrom (pre ++ [p]) l
def inK (K : List Int) (p : TPayment) : Bool := decide (p.Warrant ∈ K)
def ascB (K : List Int) (l : List TPayment) : Bool := ordFrom none l && (l.all (inK K) && distFrom [] l)
def knFrom : Option Int → List Int → Bool
  | _, [] => true
  | o, n :: l => amg n 1 1000000 && (allO o (fun x => decide (x < n)) && knFrom (some n) l)
def busB (d : Int) : Bool := amg d 0 36000 && decide (d % 7 < 5)
def batB (K : List Int) (i d : Int) (b : TBatch) : Bool := decide (b.Number = i + 1) && (decide (d ≤ b.Day) && (busB b.Day && (amg b.Payments.length 1 10 && ascB K b.Payments)))
def batsFrom (K : List Int) : Int → Int → List TBatch → Bool
  | _, _, [] => true
  | i, d, b :: l => batB K i d b && batsFrom K (i + 1) b.Day l
def checkQ (q : TQueue) : Int :=
  if 100 < q.Waiting.length ∨ 200 < q.Known.length ∨ 200 < q.Batches.length then 3 else if (knFrom none q.Known && (ascB q.Known q.Waiting && batsFrom q.Known 0 0 q.Batches)) = true then 0 else 64

theorem ordFrom_iff : ∀ (l : List TPayment) (o : Option TPayment), ordFrom o l = true ↔ (∀ p, p ∈ l → PayOk p) ∧ (∀ x, o = some x → ∀ p, p ∈ l → Bef x p) ∧ l.Pairwise Bef
  | [], o => by simp [ordFrom]
  | p :: l, o => by
    rw [ordFrom, Bool.and_eq_true, Bool.and_eq_true, ordFrom_iff l (some p), payB_iff, allO_iff, List.pairwise_cons]
    simp only [befB_iff, List.mem_cons]
    constructor
    · rintro ⟨h1, h2, h3, h4, h5⟩
      refine ⟨?_, ?_, h4 p rfl, h5⟩
      · rintro x (rfl | hx)
        · exact h1
        · exact h3 x hx
      · rintro x hx y (rfl | hy)
        · exact h2 x hx
        · exact (h2 x hx).trans (h4 p rfl y hy)
    · rintro ⟨h1, h2, h3, h4⟩
      refine ⟨h1 p (.inl rfl), fun x hx => h2 x hx p (.inl rfl), fun x hx => h1 x (.inr hx), ?_, h4⟩
      rintro x hx y hy
      cases hx
      exact h3 y hy
theorem distFrom_iff : ∀ (l pre : List TPayment), distFrom pre l = true ↔ (∀ p, p ∈ l → ∀ x, x ∈ pre → x.Warrant ≠ p.Warrant) ∧ (l.map (·.Warrant)).Nodup
  | [], pre => by simp [distFrom]
  | p :: l, pre => by
    rw [distFrom, Bool.and_eq_true, Bool.not_eq_true', distFrom_iff l, List.map_cons, List.nodup_cons, List.any_eq_false]
    simp only [decide_eq_true_eq, List.mem_append, List.mem_cons, List.not_mem_nil, or_false, List.mem_map, not_exists, not_and]
    constructor
    · rintro ⟨h1, h2, h3⟩
      refine ⟨?_, fun x hx e => h2 x hx p (.inr rfl) e.symm, h3⟩
      rintro x (rfl | hx) y hy
      · exact h1 y hy
      · exact h2 x hx y (.inl hy)
    · rintro ⟨h1, h2, h3⟩
      refine ⟨fun y hy => h1 p (.inl rfl) y hy, ?_, h3⟩
      rintro x hx y (hy | rfl)
      · exact h1 x (.inr hx) y hy
      · exact fun e => h2 x hx e.symm
structure AscOk (K : List Int) (l : List TPayment) : Prop where
  pay : ∀ p, p ∈ l → PayOk p
  ord : l.Pairwise Bef
  kn : ∀ p, p ∈ l → p.Warrant ∈ K
  nd : (l.map (·.Warrant)).Nodup
theorem ascB_iff {K : List Int} {l : List TPayment} : ascB K l = true ↔ AscOk K l := by
  rw [ascB, Bool.and_eq_true, Bool.and_eq_true, ordFrom_iff, distFrom_iff, List.all_eq_true]
  simp only [inK, decide_eq_true_eq]
  constructor
  · rintro ⟨⟨h1, _, h2⟩, h3, _, h4⟩
    exact ⟨h1, h2, h3, h4⟩
  · rintro ⟨h1, h2, h3, h4⟩
    exact ⟨⟨h1, by simp, h2⟩, h3, by simp, h4⟩
theorem knFrom_iff : ∀ (l : List Int) (o : Option Int), knFrom o l = true ↔ (∀ p, p ∈ l → 1 ≤ p ∧ p ≤ 1000000) ∧ (∀ x, o = some x → ∀ p, p ∈ l → x < p) ∧ l.Pairwise (· < ·)
  | [], o => by simp [knFrom]
  | p :: l, o => by
    rw [knFrom, Bool.and_eq_true, Bool.and_eq_true, knFrom_iff l (some p), amg_iff, allO_iff, List.pairwise_cons]
    simp only [decide_eq_true_eq, List.mem_cons]
    constructor
    · rintro ⟨h1, h2, h3, h4, h5⟩
      refine ⟨?_, ?_, h4 p rfl, h5⟩
      · rintro x (rfl | hx)
        · exact h1
        · exact h3 x hx
      · rintro x hx y (rfl | hy)
        · exact h2 x hx
        · exact Int.lt_trans (h2 x hx) (h4 p rfl y hy)
    · rintro ⟨h1, h2, h3, h4⟩
      refine ⟨h1 p (.inl rfl), fun x hx => h2 x hx p (.inl rfl), fun x hx => h1 x (.inr hx), ?_, h4⟩
      rintro x hx y hy
      cases hx
      exact h3 y hy
structure QOk (q : TQueue) : Prop where
  lw : q.Waiting.length ≤ 100
  lk : q.Known.length ≤ 200
  lb : q.Batches.length ≤ 200
  kn : ∀ w, w ∈ q.Known → 1 ≤ w ∧ w ≤ 1000000
  ks : q.Known.Pairwise (· < ·)
  asc : AscOk q.Known q.Waiting
  bats : batsFrom q.Known 0 0 q.Batches = true
theorem checkQ_iff {q : TQueue} : checkQ q = 0 ↔ QOk q := by
  unfold checkQ
  split
  · rename_i h
    exact ⟨fun e => absurd e (by decide), fun ⟨h1, h2, h3, _, _, _, _⟩ => by omega⟩
  · rename_i h
    split
    · rename_i h1
      rw [Bool.and_eq_true, Bool.and_eq_true, knFrom_iff, ascB_iff] at h1
      exact ⟨fun _ => ⟨by omega, by omega, by omega, h1.1.1, h1.1.2.2, h1.2.1, h1.2.2⟩, fun _ => rfl⟩
    · rename_i h1
      refine ⟨fun e => absurd e (by decide), fun ⟨_, _, _, h4, h5, h6, h7⟩ => absurd ?_ h1⟩
      rw [Bool.and_eq_true, Bool.and_eq_true, knFrom_iff, ascB_iff]
      exact ⟨⟨h4, by simp, h5⟩, h6, h7⟩

structure FitQ (q : TQueue) : Prop where
  w : q.Waiting.length ≤ 100000
  k : q.Known.length ≤ 100000
  b : q.Batches.length ≤ 100000
  each : ∀ b, b ∈ q.Batches → b.Payments.length ≤ 100000
theorem batsFrom_len {K : List Int} : ∀ {l : List TBatch} {i d : Int}, batsFrom K i d l = true → ∀ b, b ∈ l → 1 ≤ b.Payments.length ∧ b.Payments.length ≤ 10 ∧ AscOk K b.Payments ∧ busB b.Day = true ∧ d ≤ b.Day
  | [], _, _, _, b, hb => by cases hb
  | a :: l, i, d, h, b, hb => by
    rw [batsFrom, batB] at h
    simp only [Bool.and_eq_true, amg_iff, ascB_iff, decide_eq_true_eq] at h
    rcases List.mem_cons.1 hb with rfl | hb
    · obtain ⟨⟨_, h2, h3, h4, h5⟩, _⟩ := h
      exact ⟨by omega, by omega, h5, h3, h2⟩
    · obtain ⟨h1, h2, h3, h4, h5⟩ := batsFrom_len h.2 b hb
      exact ⟨h1, h2, h3, h4, by have := h.1.2.1; omega⟩
theorem QOk.fit {q : TQueue} (h : QOk q) : FitQ q := ⟨by have := h.lw; omega, by have := h.lk; omega, by have := h.lb; omega, fun b hb => by have := batsFrom_len h.bats b hb; omega⟩

/-! ### What is done with them -/
abbrev zeroQ : TQueue := ⟨[], [], []⟩
abbrev zeroB : TBatch := ⟨0, 0, []⟩
/-- Insertion ahead of the first that does not come before. -/
def ins {α : Type} (lt : α → α → Bool) (l : List α) (a : α) : List α := l.takeWhile (fun x => lt x a) ++ a :: l.dropWhile (fun x => lt x a)
def ltB (a b : Int) : Bool := decide (a < b)
def waitQ (q : TQueue) (w : Int) : Int := idxI (fun p : TPayment => decide (p.Warrant = w)) q.Waiting
def addQ (q : TQueue) (p : TPayment) : TQueue × Int :=
  if checkQ q = 0 then (if payB p = true then (if p.Warrant ∈ q.Known then (zeroQ, 65) else if q.Waiting.length = 100 ∨ q.Known.length = 200 then (zeroQ, 3) else (⟨ins befB q.Waiting p, ins ltB q.Known p.Warrant, q.Batches⟩, 0)) else (zeroQ, 64)) else (zeroQ, checkQ q)
def againQ (q : TQueue) (p : TPayment) : TQueue × Int :=
  if checkQ q = 0 then (if payB p = true then (if p.Warrant ∈ q.Known then (if 0 ≤ waitQ q p.Warrant then (zeroQ, 65) else if q.Waiting.length = 100 then (zeroQ, 3) else (⟨ins befB q.Waiting p, q.Known, q.Batches⟩, 0)) else (zeroQ, 6)) else (zeroQ, 64)) else (zeroQ, checkQ q)
def dropQ (q : TQueue) (w : Int) : TQueue × Int :=
  if checkQ q = 0 then (if waitQ q w < 0 then (zeroQ, 6) else (⟨q.Waiting.eraseIdx (waitQ q w).toNat, q.Known, q.Batches⟩, 0)) else (zeroQ, checkQ q)
def readyQ (q : TQueue) (day : Int) : List TPayment := if checkQ q = 0 then q.Waiting.filter (fun p => decide (p.Due ≤ day)) else []
def lastQ (q : TQueue) : Int := match q.Batches.getLast? with
  | none => 0
  | some b => b.Day
def takenB (ws : List Int) (p : TPayment) : Bool := decide (p.Warrant ∈ ws)
/-- All warrants are due, none twice. -/
def dueB (q : TQueue) (day : Int) (ws : List Int) : Bool := decide (ws.Nodup) && ws.all fun w => q.Waiting.any fun p => decide (p.Warrant = w) && decide (p.Due ≤ day)
def takeB (q : TQueue) (day : Int) (ws : List Int) : TBatch := ⟨q.Batches.length + 1, day, q.Waiting.filter (takenB ws)⟩
def takeQ (q : TQueue) (day : Int) (ws : List Int) : TQueue × TBatch × Int :=
  if checkQ q = 0 then (if busB day = true then (if day < lastQ q then (zeroQ, zeroB, 8) else if ws.length = 0 then (zeroQ, zeroB, 10) else if 10 < ws.length ∨ 200 ≤ q.Batches.length then (zeroQ, zeroB, 3) else if dueB q day ws = true then (⟨q.Waiting.filter (fun p => !takenB ws p), q.Known, q.Batches ++ [takeB q day ws]⟩, takeB q day ws, 0) else (zeroQ, zeroB, 6)) else (zeroQ, zeroB, 66)) else (zeroQ, zeroB, checkQ q)
def sumW (l : List TPayment) : Int := l.foldl (fun s p => IntKind.i64.wrap (s + p.Amount)) 0
end Go.Proofs.Ytmpncdlhmknkoaa
