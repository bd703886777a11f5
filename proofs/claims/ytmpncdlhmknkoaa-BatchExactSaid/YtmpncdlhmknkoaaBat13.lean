/- Queues: the reference's Sum, Payments, Ints, Batch, Ready, put. -/
import Derived.Test.YtmpncdlhmknkoaaBat12
set_option linter.unusedSimpArgs false
set_option linter.unusedVariables false
namespace Go.Proofs.Ytmpncdlhmknkoaa
open Go.PA
open Go.RowKit

theorem sum25_pf (l : List TPayment) (hl : l.length ≤ 1000000) : PFun Try.prog none none 19 [paysL l] (· = iv (sumW l)) := by
  refine pfun_intro Try.func19 rfl (by simp [Try.f19]) (by kernel_rfl) ?_
  intro E hP hr hs hW hN
  simp -dsimp -implicitDefEqProofs [-getElem?_pos, go_sem, hP]
  obtain ⟨I, hI⟩ : ∃ I : Nat → St → Prop, I = fun m s => ∃ k : Nat, k ≤ l.length ∧ m = l.length - k ∧ s.t 3 = iv (sumW (l.take k)) ∧ s.t 6 = paysL l ∧ s.t 7 = iv l.length ∧ s.t 8 = iv k := ⟨_, rfl⟩
  refine aloop0 I (l.length) (by rw [hN]; rfl) ?_ ?_
  · rw [hI]
    exact ⟨0, by omega, by omega, by simp -dsimp -implicitDefEqProofs [-getElem?_pos, go_sem, sumW], by simp -dsimp -implicitDefEqProofs [-getElem?_pos, go_sem], by simp -dsimp -implicitDefEqProofs [-getElem?_pos, go_sem], by simp -dsimp -implicitDefEqProofs [-getElem?_pos, go_sem]⟩
  intro m s hs'
  rw [hI] at hs'
  obtain ⟨k, hk, hm, t3, t6, t7, t8⟩ := hs'
  simp -dsimp -implicitDefEqProofs [-getElem?_pos, go_sem, hP, t7, t8]
  refine condP (fun h => ?_) (fun h => ?_)
  · have hk : k < l.length := by simpa using h
    obtain ⟨x, hx⟩ : ∃ x, l[k]? = some x := ⟨_, List.getElem?_eq_getElem hk⟩
    have wk := wrap_in ((k : Int) + 1) (by omega)
    simp -dsimp -implicitDefEqProofs [-getElem?_pos, go_sem, hP, t8, t6, hx, cPy, t3, wk]
    refine ⟨l.length - (k + 1), by omega, ?_⟩
    rw [hI]
    refine ⟨k + 1, by omega, rfl, ?_, by simp -dsimp -implicitDefEqProofs [-getElem?_pos, go_sem, t6], by simp -dsimp -implicitDefEqProofs [-getElem?_pos, go_sem, t7], by simp -dsimp -implicitDefEqProofs [-getElem?_pos, go_sem]⟩
    have es : sumW (l.take (k + 1)) = IntKind.i64.wrap (sumW (l.take k) + x.Amount) := by rw [take_at hx, sumW, List.foldl_append]; rfl
    rw [es]
    simp -dsimp -implicitDefEqProofs [-getElem?_pos, go_sem]
  · have hk : k = l.length := by simp at h; omega
    subst hk
    rw [List.take_length] at t3
    simp -dsimp -implicitDefEqProofs [-getElem?_pos, go_sem, hP, t3]

theorem listEq_pf_pays25 (a b : List TPayment) (ha : a.length ≤ 100000) (hb : b.length ≤ 100000) :
    PFun Try.prog none none 22 [.list 5 (encL TPayment.cells a), .list 5 (encL TPayment.cells b)] (· = bv (decide (a = b))) := by
  refine pfun_intro Try.func22 rfl (by simp [Try.f22]) (by kernel_rfl) ?_
  intro E hP hr hs hW hN
  by_cases hlen : a.length = b.length
  rotate_left
  · have hne : ¬ a = b := fun h => hlen (by rw [h])
    have hl : decide ((a.length : Int) = (b.length : Int)) = false := by simp; omega
    simp -dsimp -implicitDefEqProofs [-getElem?_pos, go_sem, hP, hl, hne]
  have hl : decide ((a.length : Int) = (b.length : Int)) = true := by simp; omega
  simp -dsimp -implicitDefEqProofs [-getElem?_pos, go_sem, hP, hl]
  obtain ⟨I, hI⟩ : ∃ I : Nat → St → Prop, I = fun m s => ∃ k : Nat, k ≤ a.length ∧ m = a.length - k ∧ s.t 0 = .list 5 (encL TPayment.cells a) ∧ s.t 1 = .list 5 (encL TPayment.cells b) ∧ s.t 12 = iv a.length ∧ s.t 13 = iv k ∧ a.take k = b.take k := ⟨_, rfl⟩
  refine aloop0 I (a.length) (by rw [hN]; rfl) ?_ ?_
  · rw [hI]
    exact ⟨0, by omega, by omega, by simp -dsimp -implicitDefEqProofs [-getElem?_pos, go_sem], by simp -dsimp -implicitDefEqProofs [-getElem?_pos, go_sem], by simp -dsimp -implicitDefEqProofs [-getElem?_pos, go_sem], by simp -dsimp -implicitDefEqProofs [-getElem?_pos, go_sem], by simp⟩
  intro m s hs'
  rw [hI] at hs'
  obtain ⟨k, hk, hm, t0, t1, t12, t13, heq⟩ := hs'
  simp -dsimp -implicitDefEqProofs [-getElem?_pos, go_sem, hP, t12, t13]
  refine condP (fun h => ?_) (fun h => ?_)
  · have hk : k < a.length := by simpa using h
    obtain ⟨x, hx⟩ : ∃ x, a[k]? = some x := ⟨_, List.getElem?_eq_getElem hk⟩
    obtain ⟨y, hy⟩ : ∃ y, b[k]? = some y := ⟨_, List.getElem?_eq_getElem (by omega)⟩
    have wk := wrap_in ((k : Int) + 1) (by omega)
    have tx : a.take (k + 1) = a.take k ++ [x] := by rw [List.take_add_one, hx]; rfl
    have ty : b.take (k + 1) = b.take k ++ [y] := by rw [List.take_add_one, hy]; rfl
    simp -dsimp -implicitDefEqProofs [-getElem?_pos, go_sem, hP, t13]
    refine adrawB (fun _ => true) [] hP (by kernel_rfl) (by kernel_rfl) ?_
    by_cases hxy : x = y
    · subst hxy
      simp -dsimp -implicitDefEqProofs [-getElem?_pos, go_sem, hP, t0, t1, hx, hy, TPayment.cells, t13, wk]
      refine ⟨a.length - (k + 1), by omega, ?_⟩
      rw [hI]
      exact ⟨k + 1, by omega, rfl, by simp -dsimp -implicitDefEqProofs [-getElem?_pos, go_sem, t0], by simp -dsimp -implicitDefEqProofs [-getElem?_pos, go_sem, t1], by simp -dsimp -implicitDefEqProofs [-getElem?_pos, go_sem, t12], by simp -dsimp -implicitDefEqProofs [-getElem?_pos, go_sem], by rw [tx, ty, heq]⟩
    · have hne : ¬ a = b := fun h => by
        subst h
        rw [hx] at hy
        exact hxy (Option.some.inj hy)
      simp -dsimp -implicitDefEqProofs [-getElem?_pos, go_sem, hP, t0, t1, hx, hy, TPayment.cells, t13, wk]
      refine condP (fun h => ?_) (fun h => ?_)
      · simp -dsimp -implicitDefEqProofs [-getElem?_pos, go_sem, hP, hne]
      · exact absurd (by cases x; cases y; simp at h; simp [h]) hxy
  · have hk : k = a.length := by simp at h; omega
    subst hk
    rw [List.take_length] at heq
    rw [hlen, List.take_length] at heq
    simp -dsimp -implicitDefEqProofs [-getElem?_pos, go_sem, hP, heq]

theorem listEq_pf_ints25 (a b : List Int) (ha : a.length ≤ 100000) (hb : b.length ≤ 100000) :
    PFun Try.prog none none 58 [.list 1 (encL encI a), .list 1 (encL encI b)] (· = bv (decide (a = b))) := by
  refine pfun_intro Try.func58 rfl (by simp [Try.f58]) (by kernel_rfl) ?_
  intro E hP hr hs hW hN
  by_cases hlen : a.length = b.length
  rotate_left
  · have hne : ¬ a = b := fun h => hlen (by rw [h])
    have hl : decide ((a.length : Int) = (b.length : Int)) = false := by simp; omega
    simp -dsimp -implicitDefEqProofs [-getElem?_pos, go_sem, hP, hl, hne]
  have hl : decide ((a.length : Int) = (b.length : Int)) = true := by simp; omega
  simp -dsimp -implicitDefEqProofs [-getElem?_pos, go_sem, hP, hl]
  obtain ⟨I, hI⟩ : ∃ I : Nat → St → Prop, I = fun m s => ∃ k : Nat, k ≤ a.length ∧ m = a.length - k ∧ s.t 0 = .list 1 (encL encI a) ∧ s.t 1 = .list 1 (encL encI b) ∧ s.t 12 = iv a.length ∧ s.t 13 = iv k ∧ a.take k = b.take k := ⟨_, rfl⟩
  refine aloop0 I (a.length) (by rw [hN]; rfl) ?_ ?_
  · rw [hI]
    exact ⟨0, by omega, by omega, by simp -dsimp -implicitDefEqProofs [-getElem?_pos, go_sem], by simp -dsimp -implicitDefEqProofs [-getElem?_pos, go_sem], by simp -dsimp -implicitDefEqProofs [-getElem?_pos, go_sem], by simp -dsimp -implicitDefEqProofs [-getElem?_pos, go_sem], by simp⟩
  intro m s hs'
  rw [hI] at hs'
  obtain ⟨k, hk, hm, t0, t1, t12, t13, heq⟩ := hs'
  simp -dsimp -implicitDefEqProofs [-getElem?_pos, go_sem, hP, t12, t13]
  refine condP (fun h => ?_) (fun h => ?_)
  · have hk : k < a.length := by simpa using h
    obtain ⟨x, hx⟩ : ∃ x, a[k]? = some x := ⟨_, List.getElem?_eq_getElem hk⟩
    obtain ⟨y, hy⟩ : ∃ y, b[k]? = some y := ⟨_, List.getElem?_eq_getElem (by omega)⟩
    have wk := wrap_in ((k : Int) + 1) (by omega)
    have tx : a.take (k + 1) = a.take k ++ [x] := by rw [List.take_add_one, hx]; rfl
    have ty : b.take (k + 1) = b.take k ++ [y] := by rw [List.take_add_one, hy]; rfl
    simp -dsimp -implicitDefEqProofs [-getElem?_pos, go_sem, hP, t13]
    refine adrawB (fun _ => true) [] hP (by kernel_rfl) (by kernel_rfl) ?_
    by_cases hxy : x = y
    · subst hxy
      simp -dsimp -implicitDefEqProofs [-getElem?_pos, go_sem, hP, t0, t1, hx, hy, encI, t13, wk]
      refine ⟨a.length - (k + 1), by omega, ?_⟩
      rw [hI]
      exact ⟨k + 1, by omega, rfl, by simp -dsimp -implicitDefEqProofs [-getElem?_pos, go_sem, t0], by simp -dsimp -implicitDefEqProofs [-getElem?_pos, go_sem, t1], by simp -dsimp -implicitDefEqProofs [-getElem?_pos, go_sem, t12], by simp -dsimp -implicitDefEqProofs [-getElem?_pos, go_sem], by rw [tx, ty, heq]⟩
    · have hne : ¬ a = b := fun h => by
        subst h
        rw [hx] at hy
        exact hxy (Option.some.inj hy)
      have dxy : decide (x = y) = false := decide_eq_false hxy
      simp -dsimp -implicitDefEqProofs [-getElem?_pos, go_sem, hP, t0, t1, hx, hy, encI, t13, wk, dxy, hne]
  · have hk : k = a.length := by simp at h; omega
    subst hk
    rw [List.take_length] at heq
    rw [hlen, List.take_length] at heq
    simp -dsimp -implicitDefEqProofs [-getElem?_pos, go_sem, hP, heq]

theorem batch25_pf (a b : TBatch) (ha : a.Payments.length ≤ 100000) (hb : b.Payments.length ≤ 100000) : PFun Try.prog none none 38 [.agg a.cells, .agg b.cells] (· = bv (decide (a = b))) := by
  refine pfun_intro Try.func38 rfl (by simp [Try.f38]) (by kernel_rfl) ?_
  intro E hP hr hs hW hN
  obtain ⟨n, d, l⟩ := a
  obtain ⟨n', d', l'⟩ := b
  simp only at ha hb
  have ip := imm_pays l
  have ip' := imm_pays l'
  obtain ⟨R, hR⟩ : ∃ R, R = decide ((⟨n, d, l⟩ : TBatch) = ⟨n', d', l'⟩) := ⟨_, rfl⟩
  rw [← hR]
  simp only [TBatch.mk.injEq] at hR
  simp -dsimp -implicitDefEqProofs [-getElem?_pos, go_sem, hP, cBt]
  by_cases c1 : n = n'
  rotate_left
  · have d1 : decide (n = n') = false := decide_eq_false c1
    simp [c1] at hR
    simp -dsimp -implicitDefEqProofs [-getElem?_pos, go_sem, hP, d1, hR]
  have d1 : decide (n = n') = true := decide_eq_true c1
  by_cases c2 : d = d'
  rotate_left
  · have d2 : decide (d = d') = false := decide_eq_false c2
    simp [c2] at hR
    simp -dsimp -implicitDefEqProofs [-getElem?_pos, go_sem, hP, d1, d2, hR]
  have d2 : decide (d = d') = true := decide_eq_true c2
  simp -dsimp -implicitDefEqProofs [-getElem?_pos, go_sem, hP, d1, d2]
  refine callB_is ((listEq_pf_pays25 l l' ha hb).lift _ _) hP en_22 (by simp [ip, ip']) .sc ?_
  simp [c1, c2] at hR
  simp -dsimp -implicitDefEqProofs [-getElem?_pos, go_sem, hP, hR]

theorem ready25_pf (q : TQueue) (day : Int) (hf : FitQ q) : PFun Try.prog none none 36 [.agg q.cells, iv day] (· = paysL (readyQ q day)) := by
  refine pfun_intro Try.func36 rfl (by simp [Try.f36]) (by kernel_rfl) ?_
  intro E hP hr hs hW hN
  have ck := rcheck25_pf q hf
  have iq := imm_que q
  have ip := imm_pays q.Waiting
  have i2 := imm_ints q.Known
  have i3 := imm_bats q.Batches
  rw [cQu] at ck iq
  simp only [intsL] at i2 ck iq
  simp -dsimp -implicitDefEqProofs [-getElem?_pos, go_sem, hP, cQu, intsL]
  refine callB_is (ck.lift _ _) hP en_29 (by simpa using iq) .sc ?_
  by_cases c1 : checkQ q = 0
  rotate_left
  · have : readyQ q day = [] := by rw [readyQ, if_neg c1]
    simp -dsimp -implicitDefEqProofs [-getElem?_pos, go_sem, hP, c1]
    exact done_weak .nil (imm_list.2 (by simp)) (.nil 5) (by rw [this]; rfl)
  have hrd : readyQ q day = q.Waiting.filter (fun p => decide (p.Due ≤ day)) := by rw [readyQ, if_pos c1]
  rw [hrd]
  obtain ⟨l, hl⟩ : ∃ l, l = q.Waiting := ⟨_, rfl⟩
  have lw := hf.w
  rw [← hl] at lw ⊢
  simp -dsimp -implicitDefEqProofs [-getElem?_pos, go_sem, hP, c1]
  refine aloop_own 5 34 5 (by simp -dsimp -implicitDefEqProofs [-getElem?_pos, go_sem]) ?_
  obtain ⟨I, hI⟩ : ∃ I : Nat → St → Prop, I = fun m s => ∃ (k id : Nat) (ys : List TPayment), k ≤ l.length ∧ m = l.length - k ∧ ys = (l.take k).filter (fun p => decide (p.Due ≤ day)) ∧ ys.length ≤ k ∧ s.t 1 = iv day ∧ s.t 12 = paysL l ∧ s.t 13 = iv l.length ∧ s.t 14 = iv k ∧ s.t 5 = .sref id 0 ys.length ∧ s.H[id]? = some (some ⟨34, 5, encL TPayment.cells ys⟩) := ⟨_, rfl⟩
  refine aloopF 5 hW I (l.length) (by rw [hN]; rfl) ?_ ?_
  · rw [hI]
    exact ⟨0, 1, [], by omega, by omega, by simp, by simp, by simp -dsimp -implicitDefEqProofs [-getElem?_pos, go_sem], by simp -dsimp -implicitDefEqProofs [-getElem?_pos, go_sem, hl], by simp -dsimp -implicitDefEqProofs [-getElem?_pos, go_sem, hl], by simp -dsimp -implicitDefEqProofs [-getElem?_pos, go_sem], by simp -dsimp -implicitDefEqProofs [-getElem?_pos, go_sem], by simp -dsimp -implicitDefEqProofs [-getElem?_pos, go_sem]⟩
  intro m s hs'
  rw [hI] at hs'
  obtain ⟨k, id, ys, hk, hm, hys, hyl, t1, t12, t13, t14, t5, hH⟩ := hs'
  have hlt := (List.getElem?_eq_some_iff.1 hH).1
  simp -dsimp -implicitDefEqProofs [-getElem?_pos, go_sem, hP, t13, t14]
  refine condP (fun h => ?_) (fun h => ?_)
  · have hk : k < l.length := by simpa using h
    obtain ⟨x, hx⟩ : ∃ x, l[k]? = some x := ⟨_, List.getElem?_eq_getElem hk⟩
    have wk := wrap_in ((k : Int) + 1) (by omega)
    have nx : (l.take (k + 1)).filter (fun p => decide (p.Due ≤ day)) = if x.Due ≤ day then ys ++ [x] else ys := by
      rw [take_at hx, List.filter_append, ← hys]
      by_cases c : x.Due ≤ day <;> simp [c]
    by_cases c : x.Due ≤ day
    · rw [if_pos c] at nx
      have d : decide (x.Due ≤ day) = true := decide_eq_true c
      have nid : ¬ id = s.H.length := by omega
      simp -dsimp -implicitDefEqProofs [-getElem?_pos, go_sem, hP, t14, t12, hx, cPy, t1, d, wk, t5, hH, hlt]
      refine ⟨by omega, by omega, ?_⟩
      refine ⟨l.length - (k + 1), by omega, ?_⟩
      rw [hI]
      exact ⟨k + 1, s.H.length + 1, ys ++ [x], by omega, rfl, nx.symm, by simp; omega, by simp -dsimp -implicitDefEqProofs [-getElem?_pos, go_sem, t1], by simp -dsimp -implicitDefEqProofs [-getElem?_pos, go_sem, t12], by simp -dsimp -implicitDefEqProofs [-getElem?_pos, go_sem, t13], by simp -dsimp -implicitDefEqProofs [-getElem?_pos, go_sem], by simp -dsimp -implicitDefEqProofs [-getElem?_pos, go_sem], by rw [← encL_snoc]; simp -dsimp -implicitDefEqProofs [-getElem?_pos, go_sem, cPy]⟩
    · rw [if_neg c] at nx
      have d : decide (x.Due ≤ day) = false := decide_eq_false c
      simp -dsimp -implicitDefEqProofs [-getElem?_pos, go_sem, hP, t14, t12, hx, cPy, t1, d, wk]
      refine ⟨l.length - (k + 1), by omega, ?_⟩
      rw [hI]
      exact ⟨k + 1, id, ys, by omega, rfl, nx.symm, by omega, by simp -dsimp -implicitDefEqProofs [-getElem?_pos, go_sem, t1], by simp -dsimp -implicitDefEqProofs [-getElem?_pos, go_sem, t12], by simp -dsimp -implicitDefEqProofs [-getElem?_pos, go_sem, t13], by simp -dsimp -implicitDefEqProofs [-getElem?_pos, go_sem], by simp -dsimp -implicitDefEqProofs [-getElem?_pos, go_sem, t5], by simp -dsimp -implicitDefEqProofs [-getElem?_pos, go_sem, hH, hlt]⟩
  · have hk : k = l.length := by simp at h; omega
    subst hk
    rw [List.take_length] at hys
    refine frz id _ 34 5 (encL TPayment.cells ys) t5 hH (by rw [encL_len]) (imm_pays _) ?_
    simp -dsimp -implicitDefEqProofs [-getElem?_pos, go_sem, hP]
    exact done_imm (imm_pays _) (by rw [hys])
end Go.Proofs.Ytmpncdlhmknkoaa
