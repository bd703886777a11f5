/- Queues that the source makes. -/
import Derived.Test.YtmpncdlhmknkoaaBat16
import Derived.Test.YtmpncdlhmknkoaaPlayOdd
set_option linter.unusedSimpArgs false
set_option linter.unusedVariables false
namespace Go.Proofs.Ytmpncdlhmknkoaa
open Go.PA
open Go.RowKit

/-- A payment that the source makes. -/
structure GenP (p : TPayment) : Prop where
  warrant : 1 ≤ p.Warrant ∧ p.Warrant ≤ 12
  payee : 1 ≤ p.Payee ∧ p.Payee ≤ 5
  amount : 1 ≤ p.Amount ∧ p.Amount ≤ 100
  due : 0 ≤ p.Due ∧ p.Due < 20
  sub : 1 ≤ p.Sub ∧ p.Sub ≤ 7
theorem GenP.ok {p : TPayment} (h : GenP p) : PayOk p := ⟨by have := h.warrant; omega, by have := h.payee; omega, by have := h.amount; omega, by have := h.due; omega, by have := h.sub; omega⟩
def PayQ (x : AV) : Prop := ∃ p : TPayment, x = .agg p.cells ∧ GenP p
theorem PayQ_ex : ∃ r, PayQ r ∧ Imm r := ⟨_, ⟨⟨1, 1, 1, 0, 1⟩, rfl, by constructor <;> simp⟩, imm_pay _⟩
theorem gpay_pf (p : Nat) (src : Option Nat) : PFun Try.prog (some p) src 11 [sp p] PayQ := by
  refine pfun_intro Try.func11 rfl (by simp [Try.f11]) (by kernel_rfl) ?_
  intro E hP hr hs hW hN
  have up : ∀ {f : FuncId} {args : List AV} {Q : AV → Prop}, PFun Try.prog (some p) src f args Q → PFun Try.prog E.row E.src f args Q := fun h => hr ▸ hs ▸ h
  simp -dsimp -implicitDefEqProofs [-getElem?_pos, go_sem, hP]
  refine callB_isQ (up (rangeQ_pf p src 1 12 (by omega) (by omega))) hP en_27 (by simp [go_sem]) (RQ_ex (by omega)) ?_
  rintro r ⟨w, rfl, hw⟩ _
  simp -dsimp -implicitDefEqProofs [-getElem?_pos, go_sem, hP]
  refine callB_isQ (up (rangeQ_pf p src 1 5 (by omega) (by omega))) hP en_27 (by simp [go_sem]) (RQ_ex (by omega)) ?_
  rintro r ⟨y, rfl, hy⟩ _
  simp -dsimp -implicitDefEqProofs [-getElem?_pos, go_sem, hP]
  refine callB_isQ (up (pickQ_pf p src [1, 10, 40, 100] (by simp))) hP en_44 (by simp [go_sem, intsL]) (PQ_ex (by simp)) ?_
  rintro r ⟨a, rfl, ha⟩ _
  simp -dsimp -implicitDefEqProofs [-getElem?_pos, go_sem, hP]
  refine callB_isQ (up (N_pf p src 20 (by omega))) hP en_26 (by simp [go_sem]) (N_exI _) ?_
  rintro r ⟨d, rfl, _, hd⟩ _
  have hd := hd (by omega)
  simp -dsimp -implicitDefEqProofs [-getElem?_pos, go_sem, hP]
  refine callB_isQ (up (pickQ_pf p src [1, 2, 3, 7] (by simp))) hP en_44 (by simp [go_sem, intsL]) (PQ_ex (by simp)) ?_
  rintro r ⟨b, rfl, hb⟩ _
  simp -dsimp -implicitDefEqProofs [-getElem?_pos, go_sem, hP]
  have ha : 1 ≤ a ∧ a ≤ 100 := by simp at ha; omega
  have hb : 1 ≤ b ∧ b ≤ 7 := by simp at hb; omega
  exact done_imm (imm_pay ⟨w, y, a, d, b⟩) ⟨⟨w, y, a, d, b⟩, rfl, hw, hy, ha, hd, hb⟩

/-- The next business day. -/
def busI (d : Int) : Int := if d % 7 = 5 then d + 2 else if d % 7 = 6 then d + 1 else d
theorem busI_ge (d : Int) : d ≤ busI d ∧ busI d ≤ d + 2 := by
  unfold busI
  repeat' split
  all_goals omega
theorem busI_ok {d : Int} (h : 0 ≤ d ∧ d ≤ 30000) : busB (busI d) = true := by
  have := busI_ge d
  unfold busB
  rw [Bool.and_eq_true, amg_iff, decide_eq_true_eq]
  refine ⟨by omega, ?_⟩
  unfold busI
  repeat' split
  all_goals omega
theorem business_pf (d : Int) (h : 0 ≤ d ∧ d ≤ 30000) : PFun Try.prog none none 16 [iv d] (· = iv (busI d)) := by
  refine pfun_intro Try.func16 rfl (by simp [Try.f16]) (by kernel_rfl) ?_
  intro E hP hr hs hW hN
  simp -dsimp -implicitDefEqProofs [-getElem?_pos, go_sem, hP]
  obtain ⟨I, hI⟩ : ∃ I : Nat → St → Prop, I = fun m s => ∃ x : Int, d ≤ x ∧ busI d = busI x ∧ ((m : Nat) : Int) + x = d + 3 ∧ s.t 0 = iv x := ⟨_, rfl⟩
  refine aloop0 I (3) (by rw [hN]; rfl) ?_ ?_
  · rw [hI]
    exact ⟨d, by omega, rfl, by omega, by simp -dsimp -implicitDefEqProofs [-getElem?_pos, go_sem]⟩
  intro m s hs'
  rw [hI] at hs'
  obtain ⟨x, hx, hb, hm, t0⟩ := hs'
  have e : x.tmod 7 = x % 7 := Int.tmod_eq_emod_of_nonneg (by omega)
  have w := wrap_in (x % 7) (by omega)
  have w1 := wrap_in (x + 1) (by omega)
  by_cases c : 4 < x % 7
  · have d1 : decide (4 < x % 7) = true := decide_eq_true c
    have := busI_ge x
    have := busI_ge d
    have hne : busI x ≠ x := by
      unfold busI
      repeat' split
      all_goals omega
    have hb' : busI x = busI (x + 1) := by
      unfold busI
      repeat' split
      all_goals omega
    simp -dsimp -implicitDefEqProofs [-getElem?_pos, go_sem, hP, t0, e, w, d1, w1]
    refine ⟨m - 1, by omega, ?_⟩
    rw [hI]
    exact ⟨x + 1, by omega, hb.trans hb', by omega, by simp -dsimp -implicitDefEqProofs [-getElem?_pos, go_sem]⟩
  · have d1 : decide (4 < x % 7) = false := decide_eq_false c
    have hb' : busI x = x := by
      unfold busI
      repeat' split
      all_goals omega
    simp -dsimp -implicitDefEqProofs [-getElem?_pos, go_sem, hP, t0, e, w, d1]
    rw [hb, hb']

/-- What a step does with a queue. -/
structure StepB (q : TQueue) (day : Int) (x : TQueue) (d : Int) : Prop where
  ok : QOk x
  kn : ∀ w, w ∈ q.Known → w ∈ x.Known
  len : x.Batches.length ≤ q.Batches.length + 1
  day : day ≤ d ∧ d ≤ day + 6
theorem StepB.same {q : TQueue} (h : QOk q) (day : Int) : StepB q day q day := ⟨h, fun _ h => h, by omega, by omega⟩
theorem StepB.add {q x : TQueue} {p : TPayment} (day : Int) (h : addQ q p = (x, 0)) : StepB q day x day := by
  obtain ⟨_, _, _, _, _, rfl, h7⟩ := addQ_ok h
  exact ⟨h7, fun w hw => mem_ins.2 (.inr hw), by simp, by omega⟩
theorem StepB.again {q x : TQueue} {p : TPayment} (day : Int) (h : againQ q p = (x, 0)) : StepB q day x day := by
  obtain ⟨_, _, _, _, _, rfl, h7⟩ := againQ_ok h
  exact ⟨h7, fun w hw => hw, by simp, by omega⟩
theorem StepB.drop {q x : TQueue} {w : Int} (day : Int) (h : dropQ q w = (x, 0)) : StepB q day x day := by
  obtain ⟨_, _, rfl, h7⟩ := dropQ_ok h
  exact ⟨h7, fun w hw => hw, by simp, by omega⟩
theorem StepB.take {q x : TQueue} {b : TBatch} {day d : Int} {ws : List Int} (hd : day ≤ d ∧ d ≤ day + 6) (h : takeQ q d ws = (x, b, 0)) : StepB q day x d := by
  obtain ⟨_, _, _, _, _, _, rfl, _, h7⟩ := takeQ_ok h
  exact ⟨h7, fun w hw => hw, by simp, hd⟩
end Go.Proofs.Ytmpncdlhmknkoaa
