/- Queues: the source's queue, the example, small ones. -/
import Derived.Test.YtmpncdlhmknkoaaBatGen2
set_option linter.unusedSimpArgs false
set_option linter.unusedVariables false
namespace Go.Proofs.Ytmpncdlhmknkoaa
open Go.PA
open Go.RowKit

structure GenQ (n : Nat) (q : TQueue) : Prop where
  ok : QOk q
  len : q.Batches.length ≤ n
def QueQ (r : AV) : Prop := ∃ q : TQueue, r = .agg q.cells ∧ GenQ 13 q
theorem QueQ_ex : ∃ r, QueQ r ∧ Imm r := ⟨_, ⟨zeroQ, rfl, zeroQ_ok, by simp⟩, imm_que _⟩

theorem queue_pf (p : Nat) (src : Option Nat) : PFun Try.prog (some p) src 15 [sp p] QueQ := by
  refine pfun_intro Try.func15 rfl (by simp [Try.f15]) (by kernel_rfl) ?_
  intro E hP hr hs hW hN
  have up : ∀ {f : FuncId} {args : List AV} {Q : AV → Prop}, PFun Try.prog (some p) src f args Q → PFun Try.prog E.row E.src f args Q := fun h => hr ▸ hs ▸ h
  simp -dsimp -implicitDefEqProofs [-getElem?_pos, go_sem, hP]
  refine callB_isQ (up (N_pf p src 14 (by omega))) hP en_26 (by simp [go_sem]) (N_exI _) ?_
  rintro r ⟨n, rfl, _, hn⟩ _
  have hn := hn (by omega)
  obtain ⟨n, rfl⟩ := Int.eq_ofNat_of_zero_le hn.1
  simp -dsimp -implicitDefEqProofs [-getElem?_pos, go_sem, hP]
  refine aloop_cells (ty := 28) (k := 3) 1 [.nil, .nil, .nil] [paysL [], .list 1 [], batsL []] (by simp -dsimp -implicitDefEqProofs [-getElem?_pos, go_sem]) (by omega) (by simp) rfl (fun j a b ha hb => ?_) ?_
  · match j, ha, hb with
    | 0, ha, hb => simp at ha hb; subst ha; subst hb; exact .nil _
    | 1, ha, hb => simp at ha hb; subst ha; subst hb; exact .nil _
    | 2, ha, hb => simp at ha hb; subst ha; subst hb; exact .nil _
    | j + 3, ha, hb => simp at ha
  obtain ⟨I, hI⟩ : ∃ I : Nat → St → Prop, I = fun m s => ∃ (q : TQueue) (d : Int), QOk q ∧ q.Batches.length + m ≤ 13 ∧ 0 ≤ d ∧ d + 6 * ((m : Nat) : Int) ≤ 100 ∧ s.t 0 = sp p ∧ s.t 2 = .ref 0 0 0 ∧ s.t 3 = .ref 1 0 0 ∧ s.t 4 = iv d ∧ s.t 5 = iv m ∧ s.H[0]? = some (some ⟨28, 3, [[.nil, .nil, .nil]]⟩) ∧ s.H[1]? = some (some ⟨28, 3, [[paysL q.Waiting, .list 1 (q.Known.map fun x => [iv x]), batsL q.Batches]]⟩) := ⟨_, rfl⟩
  refine aloop0 I (n) (by rw [hN]; rfl) ?_ ?_
  · rw [hI]
    exact ⟨zeroQ, 0, zeroQ_ok, by simp; omega, by omega, by omega, by simp -dsimp -implicitDefEqProofs [-getElem?_pos, go_sem], by simp -dsimp -implicitDefEqProofs [-getElem?_pos, go_sem], by simp -dsimp -implicitDefEqProofs [-getElem?_pos, go_sem], by simp -dsimp -implicitDefEqProofs [-getElem?_pos, go_sem], by simp -dsimp -implicitDefEqProofs [-getElem?_pos, go_sem], by simp -dsimp -implicitDefEqProofs [-getElem?_pos, go_sem], by simp -dsimp -implicitDefEqProofs [-getElem?_pos, go_sem, cQu, intsL]⟩
  intro m s hs'
  rw [hI] at hs'
  obtain ⟨q, d, hq, hb, hd0, hd, t0, t2, t3, t4, t5, h0, h1⟩ := hs'
  have lt0 := (List.getElem?_eq_some_iff.1 h0).1
  have lt1 := (List.getElem?_eq_some_iff.1 h1).1
  simp -dsimp -implicitDefEqProofs [-getElem?_pos, go_sem, hP, t5]
  refine condP (fun hh => ?_) (fun hh => ?_)
  · have hm0 : 0 < m := by simpa using hh
    have wm := wrap_in ((m : Int) - 1) (by omega)
    have st := bstep_pf p src q d hq (by omega)
    rw [cQu] at st
    simp only [intsL] at st
    have iq := imm_que q
    rw [cQu] at iq
    simp only [intsL] at iq
    simp -dsimp -implicitDefEqProofs [-getElem?_pos, go_sem, hP, t0, t3, h1, lt1, t4]
    refine callB_isQ (up st) hP en_9 (by simp [imm_sc]; exact iq) (StepQ_ex hq d) ?_
    rintro r ⟨x, e, rfl, hx⟩ _
    have := hx.len
    have := hx.day
    simp -dsimp -implicitDefEqProofs [-getElem?_pos, go_sem, hP, cQu, intsL, t3, h1, lt1, t5, wm]
    refine ⟨m - 1, by omega, ?_⟩
    rw [hI]
    refine ⟨x, e, hx.ok, by omega, by omega, by omega, by simp -dsimp -implicitDefEqProofs [-getElem?_pos, go_sem, t0], by simp -dsimp -implicitDefEqProofs [-getElem?_pos, go_sem, t2], by simp -dsimp -implicitDefEqProofs [-getElem?_pos, go_sem, t3], by simp -dsimp -implicitDefEqProofs [-getElem?_pos, go_sem], ?_, by simp -dsimp -implicitDefEqProofs [-getElem?_pos, go_sem, h0, lt0], by simp -dsimp -implicitDefEqProofs [-getElem?_pos, go_sem, lt1]⟩
    simp -dsimp -implicitDefEqProofs [-getElem?_pos, go_sem]
    omega
  · have hm0 : m = 0 := by simp at hh; omega
    subst hm0
    have iq := imm_que q
    have e : q.cells = [paysL q.Waiting, .list 1 (q.Known.map fun x => [iv x]), batsL q.Batches] := rfl
    simp -dsimp -implicitDefEqProofs [-getElem?_pos, go_sem, hP, t3, h1, lt1, t2, h0, lt0]
    exact done_imm iq ⟨q, rfl, hq, by omega⟩

def smallQ (q : TQueue) : Bool := q.Batches.all (fun b => decide (b.Payments.length ≤ 12)) && (decide (q.Waiting.length ≤ 20) && (decide (q.Known.length ≤ 30) && decide (q.Batches.length ≤ 10)))
theorem small_fit {q : TQueue} (h : smallQ q = true) : FitQ q := by
  simp only [smallQ, Bool.and_eq_true, List.all_eq_true, decide_eq_true_eq] at h
  exact ⟨by omega, by omega, by omega, fun b hb => by have := h.1 b hb; omega⟩
theorem small25_pf (q : TQueue) (hl : q.Batches.length ≤ 9223372036854775807) : PFun Try.prog none none 25 [.agg q.cells] (· = bv (smallQ q)) := by
  refine pfun_intro Try.func25 rfl (by simp [Try.f25]) (by kernel_rfl) ?_
  intro E hP hr hs hW hN
  have ip := imm_pays q.Waiting
  have i2 := imm_ints q.Known
  have i3 := imm_bats q.Batches
  simp only [intsL] at i2
  obtain ⟨R, hR⟩ : ∃ R, R = smallQ q := ⟨_, rfl⟩
  rw [← hR]
  simp -dsimp -implicitDefEqProofs [-getElem?_pos, go_sem, hP, cQu, intsL]
  obtain ⟨I, hI⟩ : ∃ I : Nat → St → Prop, I = fun m s => ∃ (k : Nat), k ≤ q.Batches.length ∧ m = q.Batches.length - k ∧ (∀ b, b ∈ q.Batches.take k → b.Payments.length ≤ 12) ∧ s.t 1 = .ref 0 0 0 ∧ s.t 6 = batsL q.Batches ∧ s.t 7 = iv q.Batches.length ∧ s.t 8 = iv k ∧ s.H[0]? = some (some ⟨28, 3, [[paysL q.Waiting, .list 1 (q.Known.map fun x => [iv x]), batsL q.Batches]]⟩) := ⟨_, rfl⟩
  refine aloop0 I (q.Batches.length) (by rw [hN]; rfl) ?_ ?_
  · rw [hI]
    exact ⟨0, by omega, by omega, by simp, by simp -dsimp -implicitDefEqProofs [-getElem?_pos, go_sem], by simp -dsimp -implicitDefEqProofs [-getElem?_pos, go_sem], by simp -dsimp -implicitDefEqProofs [-getElem?_pos, go_sem], by simp -dsimp -implicitDefEqProofs [-getElem?_pos, go_sem], by simp -dsimp -implicitDefEqProofs [-getElem?_pos, go_sem]⟩
  intro m s hs'
  rw [hI] at hs'
  obtain ⟨k, hk, hm, hall, t1, t6, t7, t8, h0⟩ := hs'
  have lt0 := (List.getElem?_eq_some_iff.1 h0).1
  simp -dsimp -implicitDefEqProofs [-getElem?_pos, go_sem, hP, t7, t8]
  refine condP (fun hh => ?_) (fun hh => ?_)
  · have hk : k < q.Batches.length := by simpa using hh
    obtain ⟨b, hb⟩ : ∃ b, q.Batches[k]? = some b := ⟨_, List.getElem?_eq_getElem hk⟩
    have wk := wrap_in ((k : Int) + 1) (by omega)
    by_cases c : 12 < b.Payments.length
    · have d : decide ((12 : Int) < (b.Payments.length : Int)) = true := decide_eq_true (by omega)
      have : R = false := by
        rw [hR, smallQ, Bool.and_eq_false_iff]
        refine .inl (Bool.eq_false_iff.2 fun h => ?_)
        have := List.all_eq_true.1 h b (List.mem_of_getElem? hb)
        simp at this
        omega
      simp -dsimp -implicitDefEqProofs [-getElem?_pos, go_sem, hP, t8, t6, hb, cBt, d, this]
    · have d : decide ((12 : Int) < (b.Payments.length : Int)) = false := decide_eq_false (by omega)
      simp -dsimp -implicitDefEqProofs [-getElem?_pos, go_sem, hP, t8, t6, hb, cBt, d, wk]
      refine ⟨q.Batches.length - (k + 1), by omega, ?_⟩
      rw [hI]
      refine ⟨k + 1, by omega, rfl, fun b' hb' => ?_, by simp -dsimp -implicitDefEqProofs [-getElem?_pos, go_sem, t1], by simp -dsimp -implicitDefEqProofs [-getElem?_pos, go_sem, t6], by simp -dsimp -implicitDefEqProofs [-getElem?_pos, go_sem, t7], by simp -dsimp -implicitDefEqProofs [-getElem?_pos, go_sem], by simp -dsimp -implicitDefEqProofs [-getElem?_pos, go_sem, h0, lt0]⟩
      rw [take_at hb] at hb'
      rcases List.mem_append.1 hb' with hb' | hb'
      · exact hall b' hb'
      · simp at hb'; subst hb'; omega
  · have hk : k = q.Batches.length := by simp at hh; omega
    subst hk
    rw [List.take_length] at hall
    have ha : q.Batches.all (fun b => decide (b.Payments.length ≤ 12)) = true := List.all_eq_true.2 fun b hb => decide_eq_true (hall b hb)
    rw [smallQ, ha, Bool.true_and] at hR
    by_cases c1 : q.Waiting.length ≤ 20
    rotate_left
    · have d1 : decide ((q.Waiting.length : Int) ≤ 20) = false := decide_eq_false (by omega)
      simp [c1] at hR
      simp -dsimp -implicitDefEqProofs [-getElem?_pos, go_sem, hP, t1, h0, lt0, d1, hR]
    have d1 : decide ((q.Waiting.length : Int) ≤ 20) = true := decide_eq_true (by omega)
    by_cases c2 : q.Known.length ≤ 30
    rotate_left
    · have d2 : decide ((q.Known.length : Int) ≤ 30) = false := decide_eq_false (by omega)
      simp [c2] at hR
      simp -dsimp -implicitDefEqProofs [-getElem?_pos, go_sem, hP, t1, h0, lt0, d1, d2, hR]
    have d2 : decide ((q.Known.length : Int) ≤ 30) = true := decide_eq_true (by omega)
    by_cases c3 : q.Batches.length ≤ 10
    · have d3 : decide ((q.Batches.length : Int) ≤ 10) = true := decide_eq_true (by omega)
      simp [c1, c2, c3] at hR
      simp -dsimp -implicitDefEqProofs [-getElem?_pos, go_sem, hP, t1, h0, lt0, d1, d2, d3, hR]
    · have d3 : decide ((q.Batches.length : Int) ≤ 10) = false := decide_eq_false (by omega)
      simp [c1, c2, c3] at hR
      simp -dsimp -implicitDefEqProofs [-getElem?_pos, go_sem, hP, t1, h0, lt0, d1, d2, d3, hR]
end Go.Proofs.Ytmpncdlhmknkoaa
