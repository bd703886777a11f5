/- Queues: the reference's checks. -/
import Derived.Test.YtmpncdlhmknkoaaBat4
set_option linter.unusedSimpArgs false
set_option linter.unusedVariables false
namespace Go.Proofs.Ytmpncdlhmknkoaa
open Go.PA
open Go.RowKit

theorem rpay_pf (p : TPayment) : PFun Try.prog none none 34 [.agg p.cells] (· = bv (payB p)) := by
  refine pfun_intro Try.func34 rfl (by simp [Try.f34]) (by kernel_rfl) ?_
  intro E hP hr hs hW hN
  obtain ⟨R, hR⟩ : ∃ R, R = payB p := ⟨_, rfl⟩
  rw [← hR]
  have hiff := payB_iff p
  rw [← hR] at hiff
  have no : ¬ PayOk p → R = false := fun h => Bool.eq_false_iff.2 fun e => h (hiff.1 e)
  have yes : PayOk p → R = true := hiff.2
  by_cases c1 : 1 ≤ p.Warrant
  rotate_left
  · have := no fun h => c1 h.warrant.1
    simp -dsimp -implicitDefEqProofs [-getElem?_pos, go_sem, hP, cPy, c1, this]
  by_cases c2 : p.Warrant ≤ 1000000
  rotate_left
  · have := no fun h => c2 h.warrant.2
    simp -dsimp -implicitDefEqProofs [-getElem?_pos, go_sem, hP, cPy, c1, c2, this]
  by_cases c3 : 1 ≤ p.Payee
  rotate_left
  · have := no fun h => c3 h.payee.1
    simp -dsimp -implicitDefEqProofs [-getElem?_pos, go_sem, hP, cPy, c1, c2, c3, this]
  by_cases c4 : p.Payee ≤ 1000000
  rotate_left
  · have := no fun h => c4 h.payee.2
    simp -dsimp -implicitDefEqProofs [-getElem?_pos, go_sem, hP, cPy, c1, c2, c3, c4, this]
  by_cases c5 : 1 ≤ p.Amount
  rotate_left
  · have := no fun h => c5 h.amount.1
    simp -dsimp -implicitDefEqProofs [-getElem?_pos, go_sem, hP, cPy, c1, c2, c3, c4, c5, this]
  by_cases c6 : p.Amount ≤ 1000000000000
  rotate_left
  · have := no fun h => c6 h.amount.2
    simp -dsimp -implicitDefEqProofs [-getElem?_pos, go_sem, hP, cPy, c1, c2, c3, c4, c5, c6, this]
  by_cases c7 : 0 ≤ p.Due
  rotate_left
  · have := no fun h => c7 h.due.1
    simp -dsimp -implicitDefEqProofs [-getElem?_pos, go_sem, hP, cPy, c1, c2, c3, c4, c5, c6, c7, this]
  by_cases c8 : p.Due ≤ 35990
  rotate_left
  · have := no fun h => c8 h.due.2
    simp -dsimp -implicitDefEqProofs [-getElem?_pos, go_sem, hP, cPy, c1, c2, c3, c4, c5, c6, c7, c8, this]
  by_cases c9 : 1 ≤ p.Sub
  rotate_left
  · have := no fun h => c9 h.sub.1
    simp -dsimp -implicitDefEqProofs [-getElem?_pos, go_sem, hP, cPy, c1, c2, c3, c4, c5, c6, c7, c8, c9, this]
  by_cases c10 : p.Sub ≤ 1000
  rotate_left
  · have := no fun h => c10 h.sub.2
    simp -dsimp -implicitDefEqProofs [-getElem?_pos, go_sem, hP, cPy, c1, c2, c3, c4, c5, c6, c7, c8, c9, c10, this]
  have := yes ⟨⟨c1, c2⟩, ⟨c3, c4⟩, ⟨c5, c6⟩, ⟨c7, c8⟩, c9, c10⟩
  simp -dsimp -implicitDefEqProofs [-getElem?_pos, go_sem, hP, cPy, c1, c2, c3, c4, c5, c6, c7, c8, c9, c10, this]
theorem rbefore_pf (a b : TPayment) : PFun Try.prog none none 21 [.agg a.cells, .agg b.cells] (· = bv (befB a b)) := by
  refine pfun_intro Try.func21 rfl (by simp [Try.f21]) (by kernel_rfl) ?_
  intro E hP hr hs hW hN
  by_cases c1 : a.Due < b.Due
  · have : befB a b = true := befB_iff.2 (.inl c1)
    simp -dsimp -implicitDefEqProofs [-getElem?_pos, go_sem, hP, cPy, c1, this]
  by_cases c2 : a.Due = b.Due
  rotate_left
  · have : befB a b = false := Bool.eq_false_iff.2 fun e => by have := befB_iff.1 e; unfold Bef at this; omega
    simp -dsimp -implicitDefEqProofs [-getElem?_pos, go_sem, hP, cPy, c1, c2, this]
  have d1 : decide (b.Due < b.Due) = false := decide_eq_false (by omega)
  by_cases c3 : a.Warrant < b.Warrant
  · have : befB a b = true := befB_iff.2 (.inr ⟨c2, c3⟩)
    simp -dsimp -implicitDefEqProofs [-getElem?_pos, go_sem, hP, cPy, c1, c2, c3, d1, this]
  · have : befB a b = false := Bool.eq_false_iff.2 fun e => by have := befB_iff.1 e; unfold Bef at this; omega
    simp -dsimp -implicitDefEqProofs [-getElem?_pos, go_sem, hP, cPy, c1, c2, c3, d1, this]
theorem rknown_pf (q : TQueue) (w : Int) (hl : q.Known.length ≤ 1000000) : PFun Try.prog none none 13 [.agg q.cells, iv w] (· = bv (decide (w ∈ q.Known))) := by
  refine pfun_intro Try.func13 rfl (by simp [Try.f13]) (by kernel_rfl) ?_
  intro E hP hr hs hW hN
  obtain ⟨R, hR⟩ : ∃ R, R = decide (w ∈ q.Known) := ⟨_, rfl⟩
  rw [← hR]
  obtain ⟨l, hll⟩ : ∃ l, l = q.Known := ⟨_, rfl⟩
  rw [← hll] at hR hl
  simp -dsimp -implicitDefEqProofs [-getElem?_pos, go_sem, hP, cQu, intsL, ← hll]
  obtain ⟨I, hI⟩ : ∃ I : Nat → St → Prop, I = fun m s => ∃ k : Nat, k ≤ l.length ∧ m = l.length - k ∧ R = decide (w ∈ l.drop k) ∧ s.t 1 = iv w ∧ s.t 8 = intsL l ∧ s.t 9 = iv l.length ∧ s.t 10 = iv k := ⟨_, rfl⟩
  refine aloop0 I (l.length) (by rw [hN]; rfl) ?_ ?_
  · rw [hI]
    exact ⟨0, by omega, by omega, by rw [hR]; rfl, by simp -dsimp -implicitDefEqProofs [-getElem?_pos, go_sem], by simp -dsimp -implicitDefEqProofs [-getElem?_pos, go_sem, intsL], by simp -dsimp -implicitDefEqProofs [-getElem?_pos, go_sem], by simp -dsimp -implicitDefEqProofs [-getElem?_pos, go_sem]⟩
  intro m s hs'
  rw [hI] at hs'
  obtain ⟨k, hk, hm, hq, t1, t8, t9, t10⟩ := hs'
  simp -dsimp -implicitDefEqProofs [-getElem?_pos, go_sem, hP, t9, t10]
  refine condP (fun h => ?_) (fun h => ?_)
  · have hk : k < l.length := by simpa using h
    obtain ⟨a, ha⟩ : ∃ a, l[k]? = some a := ⟨_, List.getElem?_eq_getElem hk⟩
    have wk := wrap_in ((k : Int) + 1) (by omega)
    rw [drop_at ha] at hq
    simp only [List.mem_cons] at hq
    by_cases c : a = w
    · have : R = true := by rw [hq]; simp [c]
      simp -dsimp -implicitDefEqProofs [-getElem?_pos, go_sem, hP, t8, t10, intsL, ha, t1, c, this]
    · have c' : ¬ w = a := fun e => c e.symm
      have d := decide_eq_false c
      simp only [c', false_or] at hq
      simp -dsimp -implicitDefEqProofs [-getElem?_pos, go_sem, hP, t8, t10, intsL, ha, t1, c, d, wk]
      refine ⟨l.length - (k + 1), by omega, ?_⟩
      rw [hI]
      exact ⟨k + 1, by omega, rfl, hq, by simp -dsimp -implicitDefEqProofs [-getElem?_pos, go_sem, t1], by simp -dsimp -implicitDefEqProofs [-getElem?_pos, go_sem, t8], by simp -dsimp -implicitDefEqProofs [-getElem?_pos, go_sem, t9], by simp -dsimp -implicitDefEqProofs [-getElem?_pos, go_sem]⟩
  · have hk : k = l.length := by simp at h; omega
    subst hk
    rw [List.drop_length] at hq
    have : R = false := by rw [hq]; simp
    simp -dsimp -implicitDefEqProofs [-getElem?_pos, go_sem, hP, this]
theorem rwaits_pf (q : TQueue) (w : Int) (hl : q.Waiting.length ≤ 1000000) : PFun Try.prog none none 62 [.agg q.cells, iv w] (· = iv (waitQ q w)) := by
  refine pfun_intro Try.func62 rfl (by simp [Try.f62]) (by kernel_rfl) ?_
  intro E hP hr hs hW hN
  obtain ⟨R, hR⟩ : ∃ R, R = waitQ q w := ⟨_, rfl⟩
  rw [← hR]
  rw [waitQ] at hR
  obtain ⟨l, hll⟩ : ∃ l, l = q.Waiting := ⟨_, rfl⟩
  rw [← hll] at hR hl
  simp -dsimp -implicitDefEqProofs [-getElem?_pos, go_sem, hP, cQu, intsL, ← hll]
  obtain ⟨I, hI⟩ : ∃ I : Nat → St → Prop, I = fun m s => ∃ k : Nat, k ≤ l.length ∧ m = l.length - k ∧ R = idxFrom (fun p : TPayment => decide (p.Warrant = w)) k (l.drop k) ∧ s.t 1 = iv w ∧ s.t 8 = paysL l ∧ s.t 9 = iv l.length ∧ s.t 10 = iv k := ⟨_, rfl⟩
  refine aloop0 I (l.length) (by rw [hN]; rfl) ?_ ?_
  · rw [hI]
    exact ⟨0, by omega, by omega, by rw [hR]; rfl, by simp -dsimp -implicitDefEqProofs [-getElem?_pos, go_sem], by simp -dsimp -implicitDefEqProofs [-getElem?_pos, go_sem], by simp -dsimp -implicitDefEqProofs [-getElem?_pos, go_sem], by simp -dsimp -implicitDefEqProofs [-getElem?_pos, go_sem]⟩
  intro m s hs'
  rw [hI] at hs'
  obtain ⟨k, hk, hm, hq, t1, t8, t9, t10⟩ := hs'
  simp -dsimp -implicitDefEqProofs [-getElem?_pos, go_sem, hP, t9, t10]
  refine condP (fun h => ?_) (fun h => ?_)
  · have hk : k < l.length := by simpa using h
    obtain ⟨a, ha⟩ : ∃ a, l[k]? = some a := ⟨_, List.getElem?_eq_getElem hk⟩
    have wk := wrap_in ((k : Int) + 1) (by omega)
    rw [drop_at ha, idxFrom] at hq
    by_cases c : a.Warrant = w
    · rw [if_pos (by simpa using c)] at hq
      simp -dsimp -implicitDefEqProofs [-getElem?_pos, go_sem, hP, t8, t10, ha, cPy, t1, c, hq]
    · rw [if_neg (by simpa using c)] at hq
      have d := decide_eq_false c
      simp -dsimp -implicitDefEqProofs [-getElem?_pos, go_sem, hP, t8, t10, ha, cPy, t1, c, d, wk]
      refine ⟨l.length - (k + 1), by omega, ?_⟩
      rw [hI]
      exact ⟨k + 1, by omega, rfl, hq, by simp -dsimp -implicitDefEqProofs [-getElem?_pos, go_sem, t1], by simp -dsimp -implicitDefEqProofs [-getElem?_pos, go_sem, t8], by simp -dsimp -implicitDefEqProofs [-getElem?_pos, go_sem, t9], by simp -dsimp -implicitDefEqProofs [-getElem?_pos, go_sem]⟩
  · have hk : k = l.length := by simp at h; omega
    subst hk
    rw [List.drop_length, idxFrom] at hq
    simp -dsimp -implicitDefEqProofs [-getElem?_pos, go_sem, hP, hq]

set_option maxHeartbeats 1000000 in
theorem rascending_pf (q : TQueue) (l : List TPayment) (hk9 : q.Known.length ≤ 1000000) (hl : l.length ≤ 1000000) : PFun Try.prog none none 59 [.agg q.cells, paysL l] (· = bv (ascB q.Known l)) := by
  refine pfun_intro Try.func59 rfl (by simp [Try.f59]) (by kernel_rfl) ?_
  intro E hP hr hs hW hN
  have iq := imm_que q
  have knn := fun w => rknown_pf q w hk9
  rw [cQu] at iq
  simp only [cQu] at knn
  simp only [intsL] at iq knn
  obtain ⟨R, hR⟩ : ∃ R, R = ascB q.Known l := ⟨_, rfl⟩
  rw [← hR]
  simp -dsimp -implicitDefEqProofs [-getElem?_pos, go_sem, hP, cQu, intsL]
  obtain ⟨I, hI⟩ : ∃ I : Nat → St → Prop, I = fun m s => ∃ (k : Nat) (o : Option TPayment), k ≤ l.length ∧ m = l.length - k ∧ R = (ordFrom o (l.drop k) && ((l.drop k).all (inK q.Known) && distFrom (l.take k) (l.drop k))) ∧ (k = 0 → o = none) ∧ (∀ j x, k = j + 1 → l[j]? = some x → o = some x) ∧ s.t 1 = paysL l ∧ s.t 2 = .ref 0 0 0 ∧ s.t 9 = paysL l ∧ s.t 10 = iv l.length ∧ s.t 11 = iv k ∧ s.H[0]? = some (some ⟨28, 3, [[paysL q.Waiting, .list 1 (q.Known.map fun x => [iv x]), batsL q.Batches]]⟩) := ⟨_, rfl⟩
  refine aloop0 I (l.length) (by rw [hN]; rfl) ?_ ?_
  · rw [hI]
    exact ⟨0, none, by omega, by omega, by rw [hR]; rfl, by simp, by omega, by simp -dsimp -implicitDefEqProofs [-getElem?_pos, go_sem], by simp -dsimp -implicitDefEqProofs [-getElem?_pos, go_sem], by simp -dsimp -implicitDefEqProofs [-getElem?_pos, go_sem], by simp -dsimp -implicitDefEqProofs [-getElem?_pos, go_sem], by simp -dsimp -implicitDefEqProofs [-getElem?_pos, go_sem], by simp -dsimp -implicitDefEqProofs [-getElem?_pos, go_sem]⟩
  intro m s hs'
  rw [hI] at hs'
  obtain ⟨k, o, hk, hm, hq, ho0, ho1, t1, t2, t9, t10, t11, h0⟩ := hs'
  have lt0 := (List.getElem?_eq_some_iff.1 h0).1
  simp -dsimp -implicitDefEqProofs [-getElem?_pos, go_sem, hP, t10, t11]
  refine condP (fun h => ?_) (fun h => ?_)
  rotate_left
  · have hk : k = l.length := by simp at h; omega
    subst hk
    rw [List.drop_length, ordFrom, distFrom] at hq
    have : R = true := by rw [hq]; rfl
    simp -dsimp -implicitDefEqProofs [-getElem?_pos, go_sem, hP, this]
  have hk : k < l.length := by simpa using h
  obtain ⟨p, hp⟩ : ∃ p, l[k]? = some p := ⟨_, List.getElem?_eq_getElem hk⟩
  have wk := wrap_in ((k : Int) + 1) (by omega)
  have ip := imm_pay p
  have py := rpay_pf p
  rw [cPy] at py ip
  rw [drop_at hp, ordFrom, List.all_cons, distFrom, ← take_at hp] at hq
  have g0 : ∀ x : Option AObj, (s.H ++ [x])[0]? = some (some ⟨28, 3, [[paysL q.Waiting, .list 1 (q.Known.map fun x => [iv x]), batsL q.Batches]]⟩) := fun x => by rw [List.getElem?_append_left lt0]; exact h0
  obtain ⟨n, hn⟩ : ∃ n, n = s.H.length := ⟨_, rfl⟩
  obtain ⟨Inv, hInv⟩ : ∃ Inv : St → Prop, Inv = fun s' => (R = false ∧ s'.t 39 = bv true ∨ s'.t 39 = bv false ∧ R = (ordFrom (some p) (l.drop (k + 1)) && (((l.drop (k + 1)).all (inK q.Known)) && (!((l.take k).any fun x => decide (x.Warrant = p.Warrant)) && distFrom (l.take (k + 1)) (l.drop (k + 1)))))) ∧ s'.t 1 = paysL l ∧ s'.t 2 = .ref 0 0 0 ∧ s'.t 5 = iv k ∧ s'.t 6 = .ref n 0 0 ∧ s'.t 9 = paysL l ∧ s'.t 10 = iv l.length ∧ s'.t 11 = iv k ∧ s'.H[0]? = some (some ⟨28, 3, [[paysL q.Waiting, .list 1 (q.Known.map fun x => [iv x]), batsL q.Batches]]⟩) ∧ s'.H[n]? = some (some ⟨34, 5, [[iv p.Warrant, iv p.Payee, iv p.Amount, iv p.Due, iv p.Sub]]⟩) := ⟨_, rfl⟩
  have fin : ∀ s' : St, (R = false ∧ s'.t 39 = bv true ∨ s'.t 39 = bv false ∧ R = (ordFrom (some p) (l.drop (k + 1)) && (((l.drop (k + 1)).all (inK q.Known)) && (!((l.take k).any fun x => decide (x.Warrant = p.Warrant)) && distFrom (l.take (k + 1)) (l.drop (k + 1)))))) → s'.t 1 = paysL l → s'.t 2 = .ref 0 0 0 → s'.t 5 = iv k → s'.t 6 = .ref n 0 0 → s'.t 9 = paysL l → s'.t 10 = iv l.length → s'.t 11 = iv k → s'.H[0]? = some (some ⟨28, 3, [[paysL q.Waiting, .list 1 (q.Known.map fun x => [iv x]), batsL q.Batches]]⟩) → s'.H[n]? = some (some ⟨34, 5, [[iv p.Warrant, iv p.Payee, iv p.Amount, iv p.Due, iv p.Sub]]⟩) → Inv s' := fun s' a b c d e f g h i j => by
    rw [hInv]
    exact ⟨a, b, c, d, e, f, g, h, i, j⟩
  simp -dsimp -implicitDefEqProofs [-getElem?_pos, go_sem, hP, t9, t11, hp, cPy]
  refine adraw_cut Inv ?_ ?_
  · refine adrawB (fun _ => true) [] hP (by kernel_rfl) (by kernel_rfl) ?_
    simp -dsimp -implicitDefEqProofs [-getElem?_pos, go_sem, hP]
    refine callB_is (py.lift _ _) hP en_34 (by simpa using ip) .sc ?_
    cases h1 : payB p
    · rw [h1, Bool.false_and, Bool.false_and] at hq
      simp -dsimp -implicitDefEqProofs [-getElem?_pos, go_sem, hP, h1]
      exact fin _ (.inl ⟨hq, by simp -dsimp -implicitDefEqProofs [-getElem?_pos, go_sem]⟩) (by simp -dsimp -implicitDefEqProofs [-getElem?_pos, go_sem, t1]) (by simp -dsimp -implicitDefEqProofs [-getElem?_pos, go_sem, t2]) (by simp -dsimp -implicitDefEqProofs [-getElem?_pos, go_sem]) (by simp -dsimp -implicitDefEqProofs [-getElem?_pos, go_sem, hn]) (by simp -dsimp -implicitDefEqProofs [-getElem?_pos, go_sem, t9]) (by simp -dsimp -implicitDefEqProofs [-getElem?_pos, go_sem, t10]) (by simp -dsimp -implicitDefEqProofs [-getElem?_pos, go_sem, t11]) (by simp -dsimp -implicitDefEqProofs [-getElem?_pos, go_sem, g0]) (by simp -dsimp -implicitDefEqProofs [-getElem?_pos, go_sem, hn])
    rw [h1, Bool.true_and] at hq
    simp -dsimp -implicitDefEqProofs [-getElem?_pos, go_sem, hP, h1, t2, g0, lt0, h0]
    refine callB_is ((knn p.Warrant).lift _ _) hP en_13 (by simpa [imm_sc] using iq) .sc ?_
    cases h2 : decide (p.Warrant ∈ q.Known)
    · have hq : R = false := by rw [hq, inK, h2, Bool.false_and, Bool.false_and, Bool.and_false]
      simp -dsimp -implicitDefEqProofs [-getElem?_pos, go_sem, hP, h2]
      exact fin _ (.inl ⟨hq, by simp -dsimp -implicitDefEqProofs [-getElem?_pos, go_sem]⟩) (by simp -dsimp -implicitDefEqProofs [-getElem?_pos, go_sem, t1]) (by simp -dsimp -implicitDefEqProofs [-getElem?_pos, go_sem, t2]) (by simp -dsimp -implicitDefEqProofs [-getElem?_pos, go_sem]) (by simp -dsimp -implicitDefEqProofs [-getElem?_pos, go_sem, hn]) (by simp -dsimp -implicitDefEqProofs [-getElem?_pos, go_sem, t9]) (by simp -dsimp -implicitDefEqProofs [-getElem?_pos, go_sem, t10]) (by simp -dsimp -implicitDefEqProofs [-getElem?_pos, go_sem, t11]) (by simp -dsimp -implicitDefEqProofs [-getElem?_pos, go_sem, g0]) (by simp -dsimp -implicitDefEqProofs [-getElem?_pos, go_sem, hn])
    rw [inK, h2, Bool.true_and] at hq
    rcases Nat.eq_zero_or_pos k with k0 | k0
    · rw [ho0 k0, allO, Bool.true_and] at hq
      have k0' : ¬ 0 < k := by omega
      have hjk : decide ((0 : Int) < (k : Int)) = false := decide_eq_false (by omega)
      simp -dsimp -implicitDefEqProofs [-getElem?_pos, go_sem, hP, h2, k0', hjk]
      exact fin _ (.inr ⟨by simp -dsimp -implicitDefEqProofs [-getElem?_pos, go_sem], hq⟩) (by simp -dsimp -implicitDefEqProofs [-getElem?_pos, go_sem, t1]) (by simp -dsimp -implicitDefEqProofs [-getElem?_pos, go_sem, t2]) (by simp -dsimp -implicitDefEqProofs [-getElem?_pos, go_sem]) (by simp -dsimp -implicitDefEqProofs [-getElem?_pos, go_sem, hn]) (by simp -dsimp -implicitDefEqProofs [-getElem?_pos, go_sem, t9]) (by simp -dsimp -implicitDefEqProofs [-getElem?_pos, go_sem, t10]) (by simp -dsimp -implicitDefEqProofs [-getElem?_pos, go_sem, t11]) (by simp -dsimp -implicitDefEqProofs [-getElem?_pos, go_sem, g0]) (by simp -dsimp -implicitDefEqProofs [-getElem?_pos, go_sem, hn])
    obtain ⟨j, hj⟩ : ∃ j, k = j + 1 := ⟨k - 1, by omega⟩
    obtain ⟨x, hx⟩ : ∃ x, l[j]? = some x := ⟨_, List.getElem?_eq_getElem (by omega)⟩
    have hox := ho1 j x hj hx
    have hjk : decide ((0 : Int) < (k : Int)) = true := decide_eq_true (by omega)
    have wj : IntKind.i64.wrap ((k : Int) - 1) = (j : Int) := by rw [wrap_in _ (by omega)]; omega
    have cm := rbefore_pf x p
    have ix := imm_pay x
    rw [cPy, cPy] at cm
    rw [cPy] at ix
    rw [hox, allO] at hq
    simp -dsimp -implicitDefEqProofs [-getElem?_pos, go_sem, hP, h2, k0, hjk, wj, t1, hx, cPy]
    refine callB_is (cm.lift _ _) hP en_21 (by simpa using ⟨ix, ip⟩) .sc ?_
    cases c : befB x p
    · rw [c, Bool.false_and, Bool.false_and] at hq
      simp -dsimp -implicitDefEqProofs [-getElem?_pos, go_sem, hP, c]
      exact fin _ (.inl ⟨hq, by simp -dsimp -implicitDefEqProofs [-getElem?_pos, go_sem]⟩) (by simp -dsimp -implicitDefEqProofs [-getElem?_pos, go_sem, t1]) (by simp -dsimp -implicitDefEqProofs [-getElem?_pos, go_sem, t2]) (by simp -dsimp -implicitDefEqProofs [-getElem?_pos, go_sem]) (by simp -dsimp -implicitDefEqProofs [-getElem?_pos, go_sem, hn]) (by simp -dsimp -implicitDefEqProofs [-getElem?_pos, go_sem, t9]) (by simp -dsimp -implicitDefEqProofs [-getElem?_pos, go_sem, t10]) (by simp -dsimp -implicitDefEqProofs [-getElem?_pos, go_sem, t11]) (by simp -dsimp -implicitDefEqProofs [-getElem?_pos, go_sem, g0]) (by simp -dsimp -implicitDefEqProofs [-getElem?_pos, go_sem, hn])
    · rw [c, Bool.true_and] at hq
      simp -dsimp -implicitDefEqProofs [-getElem?_pos, go_sem, hP, c]
      exact fin _ (.inr ⟨by simp -dsimp -implicitDefEqProofs [-getElem?_pos, go_sem], hq⟩) (by simp -dsimp -implicitDefEqProofs [-getElem?_pos, go_sem, t1]) (by simp -dsimp -implicitDefEqProofs [-getElem?_pos, go_sem, t2]) (by simp -dsimp -implicitDefEqProofs [-getElem?_pos, go_sem]) (by simp -dsimp -implicitDefEqProofs [-getElem?_pos, go_sem, hn]) (by simp -dsimp -implicitDefEqProofs [-getElem?_pos, go_sem, t9]) (by simp -dsimp -implicitDefEqProofs [-getElem?_pos, go_sem, t10]) (by simp -dsimp -implicitDefEqProofs [-getElem?_pos, go_sem, t11]) (by simp -dsimp -implicitDefEqProofs [-getElem?_pos, go_sem, g0]) (by simp -dsimp -implicitDefEqProofs [-getElem?_pos, go_sem, hn])
  clear hq ho0 ho1 t1 t2 t9 t10 t11 h0 lt0 g0 fin
  rw [hInv]
  rintro s ⟨hR' | ⟨t39, hq⟩, t1, t2, t5, t6, t9, t10, t11, h0, hN'⟩
  · simp -dsimp -implicitDefEqProofs [-getElem?_pos, go_sem, hP, hR'.1, hR'.2]
  have lt0 := (List.getElem?_eq_some_iff.1 h0).1
  have ltn := (List.getElem?_eq_some_iff.1 hN').1
  have e1 : (encL TPayment.cells l).take k = encL TPayment.cells (l.take k) := encL_takeE _ _ _
  have e2 : (l.take k).length = k := by simp; omega
  obtain ⟨T, hT⟩ : ∃ T, T = l.take k := ⟨_, rfl⟩
  rw [← hT] at e1 e2 hq
  clear hT
  have c1 : (0 : Int) ≤ (k : Int) ∧ (k : Int) ≤ (l.length : Int) := by omega
  simp -dsimp -implicitDefEqProofs [-getElem?_pos, go_sem, hP, t39, t1, t5, asliceOp, bound, aslice, c1, e1]
  obtain ⟨J, hJ⟩ : ∃ I : Nat → St → Prop, I = fun m s => ∃ (j : Nat), j ≤ k ∧ m = k - j ∧ R = (ordFrom (some p) (l.drop (k + 1)) && (((l.drop (k + 1)).all (inK q.Known)) && (!((T.drop j).any fun x => decide (x.Warrant = p.Warrant)) && distFrom (l.take (k + 1)) (l.drop (k + 1))))) ∧ s.t 1 = paysL l ∧ s.t 2 = .ref 0 0 0 ∧ s.t 6 = .ref n 0 0 ∧ s.t 9 = paysL l ∧ s.t 10 = iv l.length ∧ s.t 11 = iv k ∧ s.t 42 = paysL T ∧ s.t 43 = iv k ∧ s.t 44 = iv j ∧ s.H[0]? = some (some ⟨28, 3, [[paysL q.Waiting, .list 1 (q.Known.map fun x => [iv x]), batsL q.Batches]]⟩) ∧ s.H[n]? = some (some ⟨34, 5, [[iv p.Warrant, iv p.Payee, iv p.Amount, iv p.Due, iv p.Sub]]⟩) := ⟨_, rfl⟩
  refine aloop0 J (k) (by rw [hN]; rfl) ?_ ?_
  · rw [hJ]
    exact ⟨0, by omega, by omega, hq, by simp -dsimp -implicitDefEqProofs [-getElem?_pos, go_sem, t1], by simp -dsimp -implicitDefEqProofs [-getElem?_pos, go_sem, t2], by simp -dsimp -implicitDefEqProofs [-getElem?_pos, go_sem, t6], by simp -dsimp -implicitDefEqProofs [-getElem?_pos, go_sem, t9], by simp -dsimp -implicitDefEqProofs [-getElem?_pos, go_sem, t10], by simp -dsimp -implicitDefEqProofs [-getElem?_pos, go_sem, t11], by simp -dsimp -implicitDefEqProofs [-getElem?_pos, go_sem], by simp -dsimp -implicitDefEqProofs [-getElem?_pos, go_sem, e2], by simp -dsimp -implicitDefEqProofs [-getElem?_pos, go_sem], by simp -dsimp -implicitDefEqProofs [-getElem?_pos, go_sem, h0], by simp -dsimp -implicitDefEqProofs [-getElem?_pos, go_sem, hN']⟩
  clear t1 t2 t5 t6 t9 t10 t11 t39 h0 lt0 hN' ltn hq hn
  intro m s hs'
  rw [hJ] at hs'
  obtain ⟨j, hj, hm2, hq, t1, t2, t6, t9, t10, t11, t42, t43, t44, h0, hN'⟩ := hs'
  have lt0 := (List.getElem?_eq_some_iff.1 h0).1
  have ltn := (List.getElem?_eq_some_iff.1 hN').1
  simp -dsimp -implicitDefEqProofs [-getElem?_pos, go_sem, hP, t43, t44]
  refine condP (fun hh => ?_) (fun hh => ?_)
  · have hj : j < k := by simpa using hh
    obtain ⟨x, hx⟩ : ∃ x, T[j]? = some x := ⟨_, List.getElem?_eq_getElem (by omega)⟩
    have wj := wrap_in ((j : Int) + 1) (by omega)
    have gn : ∀ x : Option AObj, (s.H ++ [x])[n]? = some (some ⟨34, 5, [[iv p.Warrant, iv p.Payee, iv p.Amount, iv p.Due, iv p.Sub]]⟩) := fun x => by rw [List.getElem?_append_left ltn]; exact hN'
    rw [drop_at hx, List.any_cons] at hq
    by_cases c : x.Warrant = p.Warrant
    · have : R = false := by rw [hq, decide_eq_true c]; simp
      simp -dsimp -implicitDefEqProofs [-getElem?_pos, go_sem, hP, t42, t44, hx, cPy, t6, gn, ltn, hN', c, this]
    · have d := decide_eq_false c
      rw [d, Bool.false_or] at hq
      simp -dsimp -implicitDefEqProofs [-getElem?_pos, go_sem, hP, t42, t44, hx, cPy, t6, gn, ltn, hN', d, wj]
      refine ⟨k - (j + 1), by omega, ?_⟩
      rw [hJ]
      exact ⟨j + 1, by omega, rfl, hq, by simp -dsimp -implicitDefEqProofs [-getElem?_pos, go_sem, t1], by simp -dsimp -implicitDefEqProofs [-getElem?_pos, go_sem, t2], by simp -dsimp -implicitDefEqProofs [-getElem?_pos, go_sem, t6], by simp -dsimp -implicitDefEqProofs [-getElem?_pos, go_sem, t9], by simp -dsimp -implicitDefEqProofs [-getElem?_pos, go_sem, t10], by simp -dsimp -implicitDefEqProofs [-getElem?_pos, go_sem, t11], by simp -dsimp -implicitDefEqProofs [-getElem?_pos, go_sem, t42], by simp -dsimp -implicitDefEqProofs [-getElem?_pos, go_sem, t43], by simp -dsimp -implicitDefEqProofs [-getElem?_pos, go_sem], by simp -dsimp -implicitDefEqProofs [-getElem?_pos, go_sem, lt0, h0], by simp -dsimp -implicitDefEqProofs [-getElem?_pos, go_sem, gn]⟩
  · have hj : j = k := by simp at hh; omega
    subst hj
    have e3 : T.drop j = [] := List.drop_eq_nil_of_le (by omega)
    rw [e3, List.any_nil, Bool.not_false, Bool.true_and] at hq
    simp -dsimp -implicitDefEqProofs [-getElem?_pos, go_sem, hP, t11, wk]
    refine ⟨l.length - (j + 1), by omega, ?_⟩
    rw [hI]
    exact ⟨j + 1, some p, by omega, rfl, hq, by omega, prev_at (f := some) hp, by simp -dsimp -implicitDefEqProofs [-getElem?_pos, go_sem, t1], by simp -dsimp -implicitDefEqProofs [-getElem?_pos, go_sem, t2], by simp -dsimp -implicitDefEqProofs [-getElem?_pos, go_sem, t9], by simp -dsimp -implicitDefEqProofs [-getElem?_pos, go_sem, t10], by simp -dsimp -implicitDefEqProofs [-getElem?_pos, go_sem], by simp -dsimp -implicitDefEqProofs [-getElem?_pos, go_sem, h0]⟩

set_option maxHeartbeats 2000000 in
theorem rcheck25_pf (q : TQueue) (hf : FitQ q) : PFun Try.prog none none 29 [.agg q.cells] (· = iv (checkQ q)) := by
  refine pfun_intro Try.func29 rfl (by simp [Try.f29]) (by kernel_rfl) ?_
  intro E hP hr hs hW hN
  have iq := imm_que q
  have iw := imm_pays q.Waiting
  obtain ⟨R, hR⟩ : ∃ R, R = checkQ q := ⟨_, rfl⟩
  rw [← hR]
  have hk9 := hf.k
  have hb9 := hf.b
  have hw9 := hf.w
  have asc := fun l hl => rascending_pf q l (by omega) hl
  rw [cQu] at iq
  simp only [cQu] at asc
  simp only [intsL] at iq asc
  rw [checkQ] at hR
  by_cases c1 : 100 < q.Waiting.length
  · have d1 : decide ((100 : Int) < (q.Waiting.length : Int)) = true := decide_eq_true (by omega)
    rw [if_pos (.inl c1)] at hR
    simp -dsimp -implicitDefEqProofs [-getElem?_pos, go_sem, hP, cQu, intsL, c1, d1, hR]
  have d1 : decide ((100 : Int) < (q.Waiting.length : Int)) = false := decide_eq_false (by omega)
  by_cases c2 : 200 < q.Known.length
  · have d2 : decide ((200 : Int) < (q.Known.length : Int)) = true := decide_eq_true (by omega)
    rw [if_pos (.inr (.inl c2))] at hR
    simp -dsimp -implicitDefEqProofs [-getElem?_pos, go_sem, hP, cQu, intsL, c1, d1, c2, d2, hR]
  have d2 : decide ((200 : Int) < (q.Known.length : Int)) = false := decide_eq_false (by omega)
  by_cases c3 : 200 < q.Batches.length
  · have d3 : decide ((200 : Int) < (q.Batches.length : Int)) = true := decide_eq_true (by omega)
    rw [if_pos (.inr (.inr c3))] at hR
    simp -dsimp -implicitDefEqProofs [-getElem?_pos, go_sem, hP, cQu, intsL, c1, d1, c2, d2, c3, d3, hR]
  have d3 : decide ((200 : Int) < (q.Batches.length : Int)) = false := decide_eq_false (by omega)
  rw [if_neg (by omega)] at hR
  obtain ⟨K, hK⟩ : ∃ K, K = q.Known := ⟨_, rfl⟩
  obtain ⟨W, hWt⟩ : ∃ W, W = q.Waiting := ⟨_, rfl⟩
  obtain ⟨l, hl⟩ : ∃ l, l = q.Batches := ⟨_, rfl⟩
  have each : ∀ b, b ∈ l → b.Payments.length ≤ 100000 := hl ▸ hf.each
  rw [← hK, ← hWt, ← hl] at hR iq asc
  rw [← hK] at hk9 d2
  rw [← hWt] at hw9 d1 iw
  rw [← hl] at hb9 d3
  have h0I : ∀ (H : Heap), H[0]? = some (some ⟨28, 3, [[paysL W, .list 1 (K.map fun x => [iv x]), batsL l]]⟩) → 0 < H.length := fun H h => (List.getElem?_eq_some_iff.1 h).1
  have bad : ∀ a b : Bool, R = (if (a && b) = true then 0 else 64) → (a = false ∨ b = false) → R = 64 := fun a b h e => by
    rw [h, if_neg]
    rcases e with e | e <;> simp [e]
  simp -dsimp -implicitDefEqProofs [-getElem?_pos, go_sem, hP, cQu, intsL, ← hK, ← hWt, ← hl, d1, d2, d3]
  obtain ⟨I, hI⟩ : ∃ I : Nat → St → Prop, I = fun m s => ∃ (k : Nat) (o : Option Int), k ≤ K.length ∧ m = K.length - k ∧ knFrom none K = knFrom o (K.drop k) ∧ (k = 0 → o = none) ∧ (∀ j x, k = j + 1 → K[j]? = some x → o = some x) ∧ s.t 1 = .ref 0 0 0 ∧ s.t 24 = intsL K ∧ s.t 25 = iv K.length ∧ s.t 26 = iv k ∧ s.H[0]? = some (some ⟨28, 3, [[paysL W, .list 1 (K.map fun x => [iv x]), batsL l]]⟩) := ⟨_, rfl⟩
  refine aloop0 I (K.length) (by rw [hN]; rfl) ?_ ?_
  · rw [hI]
    exact ⟨0, none, by omega, by omega, by rfl, by simp, by omega, by simp -dsimp -implicitDefEqProofs [-getElem?_pos, go_sem], by simp -dsimp -implicitDefEqProofs [-getElem?_pos, go_sem, intsL], by simp -dsimp -implicitDefEqProofs [-getElem?_pos, go_sem], by simp -dsimp -implicitDefEqProofs [-getElem?_pos, go_sem], by simp -dsimp -implicitDefEqProofs [-getElem?_pos, go_sem]⟩
  intro m s hs'
  rw [hI] at hs'
  obtain ⟨k, o, hk, hm, hq, ho0, ho1, t1, t24, t25, t26, h0⟩ := hs'
  have lt0 := h0I _ h0
  simp -dsimp -implicitDefEqProofs [-getElem?_pos, go_sem, hP, t25, t26]
  refine condP (fun hh => ?_) (fun hh => ?_)
  · have hk : k < K.length := by simpa using hh
    obtain ⟨p, hp⟩ : ∃ p, K[k]? = some p := ⟨_, List.getElem?_eq_getElem hk⟩
    have wk := wrap_in ((k : Int) + 1) (by omega)
    rw [drop_at hp, knFrom] at hq
    by_cases e1 : p < 1
    · rw [amg_no (by omega), Bool.false_and] at hq
      have := bad _ _ hR (.inl hq)
      simp -dsimp -implicitDefEqProofs [-getElem?_pos, go_sem, hP, t24, t26, intsL, hp, e1, this]
    have f1 : decide (p < 1) = false := decide_eq_false e1
    by_cases e2 : 1000000 < p
    · rw [amg_no (by omega), Bool.false_and] at hq
      have := bad _ _ hR (.inl hq)
      simp -dsimp -implicitDefEqProofs [-getElem?_pos, go_sem, hP, t24, t26, intsL, hp, f1, e2, this]
    have f2 : decide (1000000 < p) = false := decide_eq_false e2
    rw [amg_iff.2 (by omega), Bool.true_and] at hq
    rcases Nat.eq_zero_or_pos k with k0 | k0
    · rw [ho0 k0, allO, Bool.true_and] at hq
      have k0' : ¬ 0 < k := by omega
      have hjk : decide ((0 : Int) < (k : Int)) = false := decide_eq_false (by omega)
      simp -dsimp -implicitDefEqProofs [-getElem?_pos, go_sem, hP, t24, t26, intsL, hp, f1, f2, k0', hjk, wk]
      refine ⟨K.length - (k + 1), by omega, ?_⟩
      rw [hI]
      exact ⟨k + 1, some p, by omega, rfl, hq, by omega, prev_at (f := some) hp, by simp -dsimp -implicitDefEqProofs [-getElem?_pos, go_sem, t1], by simp -dsimp -implicitDefEqProofs [-getElem?_pos, go_sem, t24], by simp -dsimp -implicitDefEqProofs [-getElem?_pos, go_sem, t25], by simp -dsimp -implicitDefEqProofs [-getElem?_pos, go_sem], by simp -dsimp -implicitDefEqProofs [-getElem?_pos, go_sem, h0]⟩
    · obtain ⟨j, hj⟩ : ∃ j, k = j + 1 := ⟨k - 1, by omega⟩
      obtain ⟨x, hx⟩ : ∃ x, K[j]? = some x := ⟨_, List.getElem?_eq_getElem (by omega)⟩
      have hox := ho1 j x hj hx
      have hjk : decide ((0 : Int) < (k : Int)) = true := decide_eq_true (by omega)
      have wj : IntKind.i64.wrap ((k : Int) - 1) = (j : Int) := by rw [wrap_in _ (by omega)]; omega
      rw [hox, allO] at hq
      by_cases c : x < p
      · have f3 : decide (p ≤ x) = false := decide_eq_false (by omega)
        rw [decide_eq_true c, Bool.true_and] at hq
        simp -dsimp -implicitDefEqProofs [-getElem?_pos, go_sem, hP, t24, t26, intsL, hp, f1, f2, k0, hjk, wj, t1, lt0, h0, hx, f3, wk]
        refine ⟨K.length - (k + 1), by omega, ?_⟩
        rw [hI]
        exact ⟨k + 1, some p, by omega, rfl, hq, by omega, prev_at (f := some) hp, by simp -dsimp -implicitDefEqProofs [-getElem?_pos, go_sem, t1], by simp -dsimp -implicitDefEqProofs [-getElem?_pos, go_sem, t24], by simp -dsimp -implicitDefEqProofs [-getElem?_pos, go_sem, t25], by simp -dsimp -implicitDefEqProofs [-getElem?_pos, go_sem], by simp -dsimp -implicitDefEqProofs [-getElem?_pos, go_sem, h0]⟩
      · have f3 : decide (p ≤ x) = true := decide_eq_true (by omega)
        rw [decide_eq_false c, Bool.false_and] at hq
        have := bad _ _ hR (.inl hq)
        simp -dsimp -implicitDefEqProofs [-getElem?_pos, go_sem, hP, t24, t26, intsL, hp, f1, f2, k0, hjk, wj, t1, lt0, h0, hx, f3, this]
  have hk : k = K.length := by simp at hh; omega
  subst hk
  rw [List.drop_length, knFrom] at hq
  rw [hq, Bool.true_and] at hR
  clear hq ho0 ho1 t24 t25 t26 hh hI
  simp -dsimp -implicitDefEqProofs [-getElem?_pos, go_sem, hP, t1, h0, lt0]
  refine callB_is ((asc W (by omega)).lift _ _) hP en_59 (by simpa using ⟨iq, iw⟩) .sc ?_
  cases b1 : ascB K W
  · have := bad _ _ hR (.inl b1)
    simp -dsimp -implicitDefEqProofs [-getElem?_pos, go_sem, hP, b1, this]
  rw [b1, Bool.true_and] at hR
  have bad : batsFrom K 0 0 l = false → R = 64 := fun e => by rw [hR, e]; rfl
  simp -dsimp -implicitDefEqProofs [-getElem?_pos, go_sem, hP, b1, t1, h0, lt0]
  obtain ⟨J, hJ⟩ : ∃ I : Nat → St → Prop, I = fun m s => ∃ (k : Nat) (d : Int), k ≤ l.length ∧ m = l.length - k ∧ batsFrom K 0 0 l = batsFrom K k d (l.drop k) ∧ (k = 0 → d = 0) ∧ (∀ j x, k = j + 1 → l[j]? = some x → d = x.Day) ∧ s.t 1 = .ref 0 0 0 ∧ s.t 58 = batsL l ∧ s.t 59 = iv l.length ∧ s.t 60 = iv k ∧ s.H[0]? = some (some ⟨28, 3, [[paysL W, .list 1 (K.map fun x => [iv x]), batsL l]]⟩) := ⟨_, rfl⟩
  refine aloop0 J (l.length) (by rw [hN]; rfl) ?_ ?_
  · rw [hJ]
    exact ⟨0, 0, by omega, by omega, by rfl, by simp, by omega, by simp -dsimp -implicitDefEqProofs [-getElem?_pos, go_sem, t1], by simp -dsimp -implicitDefEqProofs [-getElem?_pos, go_sem], by simp -dsimp -implicitDefEqProofs [-getElem?_pos, go_sem], by simp -dsimp -implicitDefEqProofs [-getElem?_pos, go_sem], by simp -dsimp -implicitDefEqProofs [-getElem?_pos, go_sem, h0]⟩
  clear t1 h0 lt0 hk hm
  intro m s hs'
  rw [hJ] at hs'
  obtain ⟨k, d, hk, hm, hq, hd0, hd1, t1, t58, t59, t60, h0⟩ := hs'
  have lt0 := h0I _ h0
  simp -dsimp -implicitDefEqProofs [-getElem?_pos, go_sem, hP, t59, t60]
  refine condP (fun hh => ?_) (fun hh => ?_)
  rotate_left
  · have hk : k = l.length := by simp at hh; omega
    subst hk
    rw [List.drop_length, batsFrom] at hq
    rw [hq, if_pos rfl] at hR
    simp -dsimp -implicitDefEqProofs [-getElem?_pos, go_sem, hP, hR]
  have hk : k < l.length := by simpa using hh
  obtain ⟨b, hb⟩ : ∃ b, l[k]? = some b := ⟨_, List.getElem?_eq_getElem hk⟩
  have hbl := each b (List.mem_of_getElem? hb)
  have wk := wrap_in ((k : Int) + 1) (by omega)
  have ip := imm_pays b.Payments
  have g0 : ∀ x : Option AObj, (s.H ++ [x])[0]? = some (some ⟨28, 3, [[paysL W, .list 1 (K.map fun x => [iv x]), batsL l]]⟩) := fun x => by rw [List.getElem?_append_left lt0]; exact h0
  rw [drop_at hb, batsFrom, batB] at hq
  simp -dsimp -implicitDefEqProofs [-getElem?_pos, go_sem, hP, t58, t60, hb, cBt]
  refine adrawB (fun _ => true) [] hP (by kernel_rfl) (by kernel_rfl) ?_
  by_cases e1 : b.Number = (k : Int) + 1
  rotate_left
  · rw [decide_eq_false e1, Bool.false_and, Bool.false_and] at hq
    have f1 := decide_eq_false e1
    simp -dsimp -implicitDefEqProofs [-getElem?_pos, go_sem, hP, wk, e1, f1, bad hq]
  rw [decide_eq_true e1, Bool.true_and] at hq
  have f1 : decide (b.Number = (k : Int) + 1) = true := decide_eq_true e1
  by_cases e2 : b.Day < 0
  · have : busB b.Day = false := by rw [busB, amg_no (by omega), Bool.false_and]
    rw [this, Bool.false_and, Bool.and_false, Bool.false_and] at hq
    simp -dsimp -implicitDefEqProofs [-getElem?_pos, go_sem, hP, wk, f1, e2, bad hq]
  have f2 : decide (b.Day < 0) = false := decide_eq_false e2
  by_cases e3 : 36000 < b.Day
  · have : busB b.Day = false := by rw [busB, amg_no (by omega), Bool.false_and]
    rw [this, Bool.false_and, Bool.and_false, Bool.false_and] at hq
    simp -dsimp -implicitDefEqProofs [-getElem?_pos, go_sem, hP, wk, f1, f2, e3, bad hq]
  have f3 : decide (36000 < b.Day) = false := decide_eq_false e3
  simp -dsimp -implicitDefEqProofs [-getElem?_pos, go_sem, hP, wk, f1, f2, f3]
  refine callB_pure (r02business_pf b.Day) hP en_60 (args_same (by simp -dsimp -implicitDefEqProofs [-getElem?_pos, go_sem])) .sc ?_
  cases c3 : busB b.Day
  · rw [c3, Bool.false_and, Bool.and_false, Bool.false_and] at hq
    simp -dsimp -implicitDefEqProofs [-getElem?_pos, go_sem, hP, c3, bad hq]
  rw [c3, Bool.true_and] at hq
  -- behind the days
  have rest : d ≤ b.Day → batsFrom K 0 0 l = (amg b.Payments.length 1 10 && ascB K b.Payments && batsFrom K (k + 1) b.Day (l.drop (k + 1))) := fun h => by
    rw [hq, decide_eq_true h, Bool.true_and]
  have done : d ≤ b.Day → ∀ s' : St, (amg b.Payments.length 1 10 && ascB K b.Payments) = true → s'.t 1 = .ref 0 0 0 → s'.t 58 = batsL l → s'.t 59 = iv l.length → s'.t 60 = iv (k + 1) → s'.H[0]? = some (some ⟨28, 3, [[paysL W, .list 1 (K.map fun x => [iv x]), batsL l]]⟩) → ∃ m', m' < m ∧ J m' s' := fun h s' h1 h2 h3 h4 h5 h6 => by
    refine ⟨l.length - (k + 1), by omega, ?_⟩
    rw [hJ]
    exact ⟨k + 1, b.Day, by omega, rfl, by rw [rest h, h1, Bool.true_and]; rfl, by omega, prev_at (f := fun b : TBatch => b.Day) hb, h2, h3, h4, h5, h6⟩
  rcases Nat.eq_zero_or_pos k with k0 | k0
  · have hdd : d ≤ b.Day := by rw [hd0 k0]; omega
    have k0' : ¬ 0 < k := by omega
    have hjk : decide ((0 : Int) < (k : Int)) = false := decide_eq_false (by omega)
    simp -dsimp -implicitDefEqProofs [-getElem?_pos, go_sem, hP, c3, k0', hjk]
    have rest' := rest hdd
    by_cases e4 : b.Payments.length < 1
    · have f4 : decide ((b.Payments.length : Int) < 1) = true := decide_eq_true (by omega)
      rw [amg_no (n := (b.Payments.length : Int)) (by omega), Bool.false_and, Bool.false_and] at rest'
      simp -dsimp -implicitDefEqProofs [-getElem?_pos, go_sem, hP, k0', hjk, e4, f4, bad rest']
    have f4 : decide ((b.Payments.length : Int) < 1) = false := decide_eq_false (by omega)
    by_cases e5 : 10 < b.Payments.length
    · have f5 : decide ((10 : Int) < (b.Payments.length : Int)) = true := decide_eq_true (by omega)
      rw [amg_no (n := (b.Payments.length : Int)) (by omega), Bool.false_and, Bool.false_and] at rest'
      simp -dsimp -implicitDefEqProofs [-getElem?_pos, go_sem, hP, k0', hjk, f4, f5, bad rest']
    have f5 : decide ((10 : Int) < (b.Payments.length : Int)) = false := decide_eq_false (by omega)
    have f45 : amg b.Payments.length 1 10 = true := amg_iff.2 (by omega)
    simp -dsimp -implicitDefEqProofs [-getElem?_pos, go_sem, hP, k0', hjk, f4, f5, t1, g0, lt0, h0]
    refine callB_is ((asc b.Payments (by omega)).lift _ _) hP en_59 (by simpa using ⟨iq, ip⟩) .sc ?_
    cases c6 : ascB K b.Payments
    · rw [f45, c6, Bool.true_and, Bool.false_and] at rest'
      simp -dsimp -implicitDefEqProofs [-getElem?_pos, go_sem, hP, k0', hjk, c6, bad rest']
    simp -dsimp -implicitDefEqProofs [-getElem?_pos, go_sem, hP, k0', hjk, c6, t60, wk]
    exact done hdd _ (by rw [f45, c6]; rfl) (by simp -dsimp -implicitDefEqProofs [-getElem?_pos, go_sem, t1]) (by simp -dsimp -implicitDefEqProofs [-getElem?_pos, go_sem, t58]) (by simp -dsimp -implicitDefEqProofs [-getElem?_pos, go_sem, t59]) (by simp -dsimp -implicitDefEqProofs [-getElem?_pos, go_sem]) (by simp -dsimp -implicitDefEqProofs [-getElem?_pos, go_sem, lt0, h0])
  · obtain ⟨j, hj⟩ : ∃ j, k = j + 1 := ⟨k - 1, by omega⟩
    obtain ⟨x, hx⟩ : ∃ x, l[j]? = some x := ⟨_, List.getElem?_eq_getElem (by omega)⟩
    have hdx := hd1 j x hj hx
    have hjk : decide ((0 : Int) < (k : Int)) = true := decide_eq_true (by omega)
    have wj : IntKind.i64.wrap ((k : Int) - 1) = (j : Int) := by rw [wrap_in _ (by omega)]; omega
    by_cases c : x.Day ≤ b.Day
    rotate_left
    · rw [decide_eq_false (show ¬ d ≤ b.Day by omega), Bool.false_and, Bool.false_and] at hq
      have f6 : decide (b.Day < x.Day) = true := decide_eq_true (by omega)
      simp -dsimp -implicitDefEqProofs [-getElem?_pos, go_sem, hP, c3, k0, hjk, wj, t1, g0, lt0, h0, hx, cBt, f6, bad hq]
    have hdd : d ≤ b.Day := by omega
    have f6 : decide (b.Day < x.Day) = false := decide_eq_false (by omega)
    simp -dsimp -implicitDefEqProofs [-getElem?_pos, go_sem, hP, c3, k0, hjk, wj, t1, g0, lt0, h0, hx, cBt, f6]
    have rest' := rest hdd
    by_cases e4 : b.Payments.length < 1
    · have f4 : decide ((b.Payments.length : Int) < 1) = true := decide_eq_true (by omega)
      rw [amg_no (n := (b.Payments.length : Int)) (by omega), Bool.false_and, Bool.false_and] at rest'
      simp -dsimp -implicitDefEqProofs [-getElem?_pos, go_sem, hP, k0, hjk, f6, e4, f4, bad rest']
    have f4 : decide ((b.Payments.length : Int) < 1) = false := decide_eq_false (by omega)
    by_cases e5 : 10 < b.Payments.length
    · have f5 : decide ((10 : Int) < (b.Payments.length : Int)) = true := decide_eq_true (by omega)
      rw [amg_no (n := (b.Payments.length : Int)) (by omega), Bool.false_and, Bool.false_and] at rest'
      simp -dsimp -implicitDefEqProofs [-getElem?_pos, go_sem, hP, k0, hjk, f6, f4, f5, bad rest']
    have f5 : decide ((10 : Int) < (b.Payments.length : Int)) = false := decide_eq_false (by omega)
    have f45 : amg b.Payments.length 1 10 = true := amg_iff.2 (by omega)
    simp -dsimp -implicitDefEqProofs [-getElem?_pos, go_sem, hP, k0, hjk, f6, f4, f5, t1, g0, lt0, h0]
    refine callB_is ((asc b.Payments (by omega)).lift _ _) hP en_59 (by simpa using ⟨iq, ip⟩) .sc ?_
    cases c6 : ascB K b.Payments
    · rw [f45, c6, Bool.true_and, Bool.false_and] at rest'
      simp -dsimp -implicitDefEqProofs [-getElem?_pos, go_sem, hP, k0, hjk, f6, c6, bad rest']
    simp -dsimp -implicitDefEqProofs [-getElem?_pos, go_sem, hP, k0, hjk, f6, c6, t60, wk]
    exact done hdd _ (by rw [f45, c6]; rfl) (by simp -dsimp -implicitDefEqProofs [-getElem?_pos, go_sem, t1]) (by simp -dsimp -implicitDefEqProofs [-getElem?_pos, go_sem, t58]) (by simp -dsimp -implicitDefEqProofs [-getElem?_pos, go_sem, t59]) (by simp -dsimp -implicitDefEqProofs [-getElem?_pos, go_sem]) (by simp -dsimp -implicitDefEqProofs [-getElem?_pos, go_sem, lt0, h0])
end Go.Proofs.Ytmpncdlhmknkoaa
