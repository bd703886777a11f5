/- Several texts of this claim, joined: Bat5 Bat6 Bat7 Bat8 Bat9 Bat10 Bat11 Bat12 Bat13 Bat14 Bat15 Bat16 PaPf Rec2 Rec3 Rec4 Rec5 Rec6 Rec7 Rec11. -/
import Derived.Test.YtpjecipdklcjbaaGreatDoorPk5
set_option linter.unusedSimpArgs false
set_option linter.unusedVariables false
namespace Go.Proofs.YtpjecipdklcjbaaGreatDoor
open Go.PA
open Go.RowKit
theorem rpay_pf (p : TPayment) : PFun Tryz.prog none none 99 [.agg p.cells] (· = bv (payB p)) := by
  refine pfun_intro Tryz.func99 rfl (by simp [Tryz.f99]) (by kernel_rfl) ?_
  intro E hP hr hs hW hN
  obtain ⟨R, hR⟩ : ∃ R, R = payB p := ⟨_, rfl⟩
  rw [← hR]
  have hiff := payB_iff p
  rw [← hR] at hiff
  have no : ¬ PayOk p → R = false := fun h => Bool.eq_false_iff.2 fun e => h (hiff.1 e)
  have yes : PayOk p → R = true := hiff.2
  by_cases c1 : 1 ≤ p.Warrant
  rotate_left
  · have := no fun h => c1 h.warrant.1
    simp -dsimp -implicitDefEqProofs [-getElem?_pos, go_sem, hP, cPy, c1, this]
  by_cases c2 : p.Warrant ≤ 1000000
  rotate_left
  · have := no fun h => c2 h.warrant.2
    simp -dsimp -implicitDefEqProofs [-getElem?_pos, go_sem, hP, cPy, c1, c2, this]
  by_cases c3 : 1 ≤ p.Payee
  rotate_left
  · have := no fun h => c3 h.payee.1
    simp -dsimp -implicitDefEqProofs [-getElem?_pos, go_sem, hP, cPy, c1, c2, c3, this]
  by_cases c4 : p.Payee ≤ 1000000
  rotate_left
  · have := no fun h => c4 h.payee.2
    simp -dsimp -implicitDefEqProofs [-getElem?_pos, go_sem, hP, cPy, c1, c2, c3, c4, this]
  by_cases c5 : 1 ≤ p.Amount
  rotate_left
  · have := no fun h => c5 h.amount.1
    simp -dsimp -implicitDefEqProofs [-getElem?_pos, go_sem, hP, cPy, c1, c2, c3, c4, c5, this]
  by_cases c6 : p.Amount ≤ 1000000000000
  rotate_left
  · have := no fun h => c6 h.amount.2
    simp -dsimp -implicitDefEqProofs [-getElem?_pos, go_sem, hP, cPy, c1, c2, c3, c4, c5, c6, this]
  by_cases c7 : 0 ≤ p.Due
  rotate_left
  · have := no fun h => c7 h.due.1
    simp -dsimp -implicitDefEqProofs [-getElem?_pos, go_sem, hP, cPy, c1, c2, c3, c4, c5, c6, c7, this]
  by_cases c8 : p.Due ≤ 35990
  rotate_left
  · have := no fun h => c8 h.due.2
    simp -dsimp -implicitDefEqProofs [-getElem?_pos, go_sem, hP, cPy, c1, c2, c3, c4, c5, c6, c7, c8, this]
  by_cases c9 : 1 ≤ p.Sub
  rotate_left
  · have := no fun h => c9 h.sub.1
    simp -dsimp -implicitDefEqProofs [-getElem?_pos, go_sem, hP, cPy, c1, c2, c3, c4, c5, c6, c7, c8, c9, this]
  by_cases c10 : p.Sub ≤ 1000
  rotate_left
  · have := no fun h => c10 h.sub.2
    simp -dsimp -implicitDefEqProofs [-getElem?_pos, go_sem, hP, cPy, c1, c2, c3, c4, c5, c6, c7, c8, c9, c10, this]
  have := yes ⟨⟨c1, c2⟩, ⟨c3, c4⟩, ⟨c5, c6⟩, ⟨c7, c8⟩, c9, c10⟩
  simp -dsimp -implicitDefEqProofs [-getElem?_pos, go_sem, hP, cPy, c1, c2, c3, c4, c5, c6, c7, c8, c9, c10, this]
theorem rbefore_pf (a b : TPayment) : PFun Tryz.prog none none 190 [.agg a.cells, .agg b.cells] (· = bv (befB a b)) := by
  refine pfun_intro Tryz.func190 rfl (by simp [Tryz.f190]) (by kernel_rfl) ?_
  intro E hP hr hs hW hN
  by_cases c1 : a.Due < b.Due
  · have : befB a b = true := befB_iff.2 (.inl c1)
    simp -dsimp -implicitDefEqProofs [-getElem?_pos, go_sem, hP, cPy, c1, this]
  by_cases c2 : a.Due = b.Due
  rotate_left
  · have : befB a b = false := Bool.eq_false_iff.2 fun e => by have := befB_iff.1 e; unfold Bef at this; omega
    simp -dsimp -implicitDefEqProofs [-getElem?_pos, go_sem, hP, cPy, c1, c2, this]
  have d1 : decide (b.Due < b.Due) = false := decide_eq_false (by omega)
  by_cases c3 : a.Warrant < b.Warrant
  · have : befB a b = true := befB_iff.2 (.inr ⟨c2, c3⟩)
    simp -dsimp -implicitDefEqProofs [-getElem?_pos, go_sem, hP, cPy, c1, c2, c3, d1, this]
  · have : befB a b = false := Bool.eq_false_iff.2 fun e => by have := befB_iff.1 e; unfold Bef at this; omega
    simp -dsimp -implicitDefEqProofs [-getElem?_pos, go_sem, hP, cPy, c1, c2, c3, d1, this]
theorem rknown_pf (q : TQueue) (w : Int) (hl : q.Known.length ≤ 1000000) : PFun Tryz.prog none none 173 [.agg q.cells, iv w] (· = bv (decide (w ∈ q.Known))) := by
  refine pfun_intro Tryz.func173 rfl (by simp [Tryz.f173]) (by kernel_rfl) ?_
  intro E hP hr hs hW hN
  obtain ⟨R, hR⟩ : ∃ R, R = decide (w ∈ q.Known) := ⟨_, rfl⟩
  rw [← hR]
  obtain ⟨l, hll⟩ : ∃ l, l = q.Known := ⟨_, rfl⟩
  rw [← hll] at hR hl
  simp -dsimp -implicitDefEqProofs [-getElem?_pos, go_sem, hP, cQu, intsL, ← hll]
  obtain ⟨I, hI⟩ : ∃ I : Nat → St → Prop, I = fun m s => ∃ k : Nat, k ≤ l.length ∧ m = l.length - k ∧ R = decide (w ∈ l.drop k) ∧ s.t 1 = iv w ∧ s.t 8 = intsL l ∧ s.t 9 = iv l.length ∧ s.t 10 = iv k := ⟨_, rfl⟩
  refine aloop0 I (l.length) (by rw [hN]; rfl) ?_ ?_
  · rw [hI]
    exact ⟨0, by omega, by omega, by rw [hR]; rfl, by simp -dsimp -implicitDefEqProofs [-getElem?_pos, go_sem], by simp -dsimp -implicitDefEqProofs [-getElem?_pos, go_sem, intsL], by simp -dsimp -implicitDefEqProofs [-getElem?_pos, go_sem], by simp -dsimp -implicitDefEqProofs [-getElem?_pos, go_sem]⟩
  intro m s hs'
  rw [hI] at hs'
  obtain ⟨k, hk, hm, hq, t1, t8, t9, t10⟩ := hs'
  simp -dsimp -implicitDefEqProofs [-getElem?_pos, go_sem, hP, t9, t10]
  refine condP (fun h => ?_) (fun h => ?_)
  · have hk : k < l.length := by simpa using h
    obtain ⟨a, ha⟩ : ∃ a, l[k]? = some a := ⟨_, List.getElem?_eq_getElem hk⟩
    have wk := wrap_in ((k : Int) + 1) (by omega)
    rw [drop_at ha] at hq
    simp only [List.mem_cons] at hq
    by_cases c : a = w
    · have : R = true := by rw [hq]; simp [c]
      simp -dsimp -implicitDefEqProofs [-getElem?_pos, go_sem, hP, t8, t10, intsL, ha, t1, c, this]
    · have c' : ¬ w = a := fun e => c e.symm
      have d := decide_eq_false c
      simp only [c', false_or] at hq
      simp -dsimp -implicitDefEqProofs [-getElem?_pos, go_sem, hP, t8, t10, intsL, ha, t1, c, d, wk]
      refine ⟨l.length - (k + 1), by omega, ?_⟩
      rw [hI]
      exact ⟨k + 1, by omega, rfl, hq, by simp -dsimp -implicitDefEqProofs [-getElem?_pos, go_sem, t1], by simp -dsimp -implicitDefEqProofs [-getElem?_pos, go_sem, t8], by simp -dsimp -implicitDefEqProofs [-getElem?_pos, go_sem, t9], by simp -dsimp -implicitDefEqProofs [-getElem?_pos, go_sem]⟩
  · have hk : k = l.length := by simp at h; omega
    subst hk
    rw [List.drop_length] at hq
    have : R = false := by rw [hq]; simp
    simp -dsimp -implicitDefEqProofs [-getElem?_pos, go_sem, hP, this]
theorem rwaits_pf (q : TQueue) (w : Int) (hl : q.Waiting.length ≤ 1000000) : PFun Tryz.prog none none 106 [.agg q.cells, iv w] (· = iv (waitQ q w)) := by
  refine pfun_intro Tryz.func106 rfl (by simp [Tryz.f106]) (by kernel_rfl) ?_
  intro E hP hr hs hW hN
  obtain ⟨R, hR⟩ : ∃ R, R = waitQ q w := ⟨_, rfl⟩
  rw [← hR]
  rw [waitQ] at hR
  obtain ⟨l, hll⟩ : ∃ l, l = q.Waiting := ⟨_, rfl⟩
  rw [← hll] at hR hl
  simp -dsimp -implicitDefEqProofs [-getElem?_pos, go_sem, hP, cQu, intsL, ← hll]
  obtain ⟨I, hI⟩ : ∃ I : Nat → St → Prop, I = fun m s => ∃ k : Nat, k ≤ l.length ∧ m = l.length - k ∧ R = idxFrom (fun p : TPayment => decide (p.Warrant = w)) k (l.drop k) ∧ s.t 1 = iv w ∧ s.t 8 = paysL l ∧ s.t 9 = iv l.length ∧ s.t 10 = iv k := ⟨_, rfl⟩
  refine aloop0 I (l.length) (by rw [hN]; rfl) ?_ ?_
  · rw [hI]
    exact ⟨0, by omega, by omega, by rw [hR]; rfl, by simp -dsimp -implicitDefEqProofs [-getElem?_pos, go_sem], by simp -dsimp -implicitDefEqProofs [-getElem?_pos, go_sem], by simp -dsimp -implicitDefEqProofs [-getElem?_pos, go_sem], by simp -dsimp -implicitDefEqProofs [-getElem?_pos, go_sem]⟩
  intro m s hs'
  rw [hI] at hs'
  obtain ⟨k, hk, hm, hq, t1, t8, t9, t10⟩ := hs'
  simp -dsimp -implicitDefEqProofs [-getElem?_pos, go_sem, hP, t9, t10]
  refine condP (fun h => ?_) (fun h => ?_)
  · have hk : k < l.length := by simpa using h
    obtain ⟨a, ha⟩ : ∃ a, l[k]? = some a := ⟨_, List.getElem?_eq_getElem hk⟩
    have wk := wrap_in ((k : Int) + 1) (by omega)
    rw [drop_at ha, idxFrom] at hq
    by_cases c : a.Warrant = w
    · rw [if_pos (by simpa using c)] at hq
      simp -dsimp -implicitDefEqProofs [-getElem?_pos, go_sem, hP, t8, t10, ha, cPy, t1, c, hq]
    · rw [if_neg (by simpa using c)] at hq
      have d := decide_eq_false c
      simp -dsimp -implicitDefEqProofs [-getElem?_pos, go_sem, hP, t8, t10, ha, cPy, t1, c, d, wk]
      refine ⟨l.length - (k + 1), by omega, ?_⟩
      rw [hI]
      exact ⟨k + 1, by omega, rfl, hq, by simp -dsimp -implicitDefEqProofs [-getElem?_pos, go_sem, t1], by simp -dsimp -implicitDefEqProofs [-getElem?_pos, go_sem, t8], by simp -dsimp -implicitDefEqProofs [-getElem?_pos, go_sem, t9], by simp -dsimp -implicitDefEqProofs [-getElem?_pos, go_sem]⟩
  · have hk : k = l.length := by simp at h; omega
    subst hk
    rw [List.drop_length, idxFrom] at hq
    simp -dsimp -implicitDefEqProofs [-getElem?_pos, go_sem, hP, hq]
set_option maxHeartbeats 1000000 in
theorem rascending_pf (q : TQueue) (l : List TPayment) (hk9 : q.Known.length ≤ 1000000) (hl : l.length ≤ 1000000) : PFun Tryz.prog none none 157 [.agg q.cells, paysL l] (· = bv (ascB q.Known l)) := by
  refine pfun_intro Tryz.func157 rfl (by simp [Tryz.f157]) (by kernel_rfl) ?_
  intro E hP hr hs hW hN
  have iq := imm_que q
  have knn := fun w => rknown_pf q w hk9
  rw [cQu] at iq
  simp only [cQu] at knn
  simp only [intsL] at iq knn
  obtain ⟨R, hR⟩ : ∃ R, R = ascB q.Known l := ⟨_, rfl⟩
  rw [← hR]
  simp -dsimp -implicitDefEqProofs [-getElem?_pos, go_sem, hP, cQu, intsL]
  obtain ⟨I, hI⟩ : ∃ I : Nat → St → Prop, I = fun m s => ∃ (k : Nat) (o : Option TPayment), k ≤ l.length ∧ m = l.length - k ∧ R = (ordFrom o (l.drop k) && ((l.drop k).all (inK q.Known) && distFrom (l.take k) (l.drop k))) ∧ (k = 0 → o = none) ∧ (∀ j x, k = j + 1 → l[j]? = some x → o = some x) ∧ s.t 1 = paysL l ∧ s.t 2 = .ref 0 0 0 ∧ s.t 9 = paysL l ∧ s.t 10 = iv l.length ∧ s.t 11 = iv k ∧ s.H[0]? = some (some ⟨32, 3, [[paysL q.Waiting, .list 1 (q.Known.map fun x => [iv x]), batsL q.Batches]]⟩) := ⟨_, rfl⟩
  refine aloop0 I (l.length) (by rw [hN]; rfl) ?_ ?_
  · rw [hI]
    exact ⟨0, none, by omega, by omega, by rw [hR]; rfl, by simp, by omega, by simp -dsimp -implicitDefEqProofs [-getElem?_pos, go_sem], by simp -dsimp -implicitDefEqProofs [-getElem?_pos, go_sem], by simp -dsimp -implicitDefEqProofs [-getElem?_pos, go_sem], by simp -dsimp -implicitDefEqProofs [-getElem?_pos, go_sem], by simp -dsimp -implicitDefEqProofs [-getElem?_pos, go_sem], by simp -dsimp -implicitDefEqProofs [-getElem?_pos, go_sem]⟩
  intro m s hs'
  rw [hI] at hs'
  obtain ⟨k, o, hk, hm, hq, ho0, ho1, t1, t2, t9, t10, t11, h0⟩ := hs'
  have lt0 := (List.getElem?_eq_some_iff.1 h0).1
  simp -dsimp -implicitDefEqProofs [-getElem?_pos, go_sem, hP, t10, t11]
  refine condP (fun h => ?_) (fun h => ?_)
  rotate_left
  · have hk : k = l.length := by simp at h; omega
    subst hk
    rw [List.drop_length, ordFrom, distFrom] at hq
    have : R = true := by rw [hq]; rfl
    simp -dsimp -implicitDefEqProofs [-getElem?_pos, go_sem, hP, this]
  have hk : k < l.length := by simpa using h
  obtain ⟨p, hp⟩ : ∃ p, l[k]? = some p := ⟨_, List.getElem?_eq_getElem hk⟩
  have wk := wrap_in ((k : Int) + 1) (by omega)
  have ip := imm_pay p
  have py := rpay_pf p
  rw [cPy] at py ip
  rw [drop_at hp, ordFrom, List.all_cons, distFrom, ← take_at hp] at hq
  have g0 : ∀ x : Option AObj, (s.H ++ [x])[0]? = some (some ⟨32, 3, [[paysL q.Waiting, .list 1 (q.Known.map fun x => [iv x]), batsL q.Batches]]⟩) := fun x => by rw [List.getElem?_append_left lt0]; exact h0
  obtain ⟨n, hn⟩ : ∃ n, n = s.H.length := ⟨_, rfl⟩
  obtain ⟨Inv, hInv⟩ : ∃ Inv : St → Prop, Inv = fun s' => (R = false ∧ s'.t 39 = bv true ∨ s'.t 39 = bv false ∧ R = (ordFrom (some p) (l.drop (k + 1)) && (((l.drop (k + 1)).all (inK q.Known)) && (!((l.take k).any fun x => decide (x.Warrant = p.Warrant)) && distFrom (l.take (k + 1)) (l.drop (k + 1)))))) ∧ s'.t 1 = paysL l ∧ s'.t 2 = .ref 0 0 0 ∧ s'.t 5 = iv k ∧ s'.t 6 = .ref n 0 0 ∧ s'.t 9 = paysL l ∧ s'.t 10 = iv l.length ∧ s'.t 11 = iv k ∧ s'.H[0]? = some (some ⟨32, 3, [[paysL q.Waiting, .list 1 (q.Known.map fun x => [iv x]), batsL q.Batches]]⟩) ∧ s'.H[n]? = some (some ⟨99, 5, [[iv p.Warrant, iv p.Payee, iv p.Amount, iv p.Due, iv p.Sub]]⟩) := ⟨_, rfl⟩
  have fin : ∀ s' : St, (R = false ∧ s'.t 39 = bv true ∨ s'.t 39 = bv false ∧ R = (ordFrom (some p) (l.drop (k + 1)) && (((l.drop (k + 1)).all (inK q.Known)) && (!((l.take k).any fun x => decide (x.Warrant = p.Warrant)) && distFrom (l.take (k + 1)) (l.drop (k + 1)))))) → s'.t 1 = paysL l → s'.t 2 = .ref 0 0 0 → s'.t 5 = iv k → s'.t 6 = .ref n 0 0 → s'.t 9 = paysL l → s'.t 10 = iv l.length → s'.t 11 = iv k → s'.H[0]? = some (some ⟨32, 3, [[paysL q.Waiting, .list 1 (q.Known.map fun x => [iv x]), batsL q.Batches]]⟩) → s'.H[n]? = some (some ⟨99, 5, [[iv p.Warrant, iv p.Payee, iv p.Amount, iv p.Due, iv p.Sub]]⟩) → Inv s' := fun s' a b c d e f g h i j => by
    rw [hInv]
    exact ⟨a, b, c, d, e, f, g, h, i, j⟩
  simp -dsimp -implicitDefEqProofs [-getElem?_pos, go_sem, hP, t9, t11, hp, cPy]
  refine adraw_cut Inv ?_ ?_
  · refine adrawB (fun _ => true) [] hP (by kernel_rfl) (by kernel_rfl) ?_
    simp -dsimp -implicitDefEqProofs [-getElem?_pos, go_sem, hP]
    refine callB_is (py.lift _ _) hP en_99 (by simpa using ip) .sc ?_
    cases h1 : payB p
    · rw [h1, Bool.false_and, Bool.false_and] at hq
      simp -dsimp -implicitDefEqProofs [-getElem?_pos, go_sem, hP, h1]
      exact fin _ (.inl ⟨hq, by simp -dsimp -implicitDefEqProofs [-getElem?_pos, go_sem]⟩) (by simp -dsimp -implicitDefEqProofs [-getElem?_pos, go_sem, t1]) (by simp -dsimp -implicitDefEqProofs [-getElem?_pos, go_sem, t2]) (by simp -dsimp -implicitDefEqProofs [-getElem?_pos, go_sem]) (by simp -dsimp -implicitDefEqProofs [-getElem?_pos, go_sem, hn]) (by simp -dsimp -implicitDefEqProofs [-getElem?_pos, go_sem, t9]) (by simp -dsimp -implicitDefEqProofs [-getElem?_pos, go_sem, t10]) (by simp -dsimp -implicitDefEqProofs [-getElem?_pos, go_sem, t11]) (by simp -dsimp -implicitDefEqProofs [-getElem?_pos, go_sem, g0]) (by simp -dsimp -implicitDefEqProofs [-getElem?_pos, go_sem, hn])
    rw [h1, Bool.true_and] at hq
    simp -dsimp -implicitDefEqProofs [-getElem?_pos, go_sem, hP, h1, t2, g0, lt0, h0]
    refine callB_is ((knn p.Warrant).lift _ _) hP en_173 (by simpa [imm_sc] using iq) .sc ?_
    cases h2 : decide (p.Warrant ∈ q.Known)
    · have hq : R = false := by rw [hq, inK, h2, Bool.false_and, Bool.false_and, Bool.and_false]
      simp -dsimp -implicitDefEqProofs [-getElem?_pos, go_sem, hP, h2]
      exact fin _ (.inl ⟨hq, by simp -dsimp -implicitDefEqProofs [-getElem?_pos, go_sem]⟩) (by simp -dsimp -implicitDefEqProofs [-getElem?_pos, go_sem, t1]) (by simp -dsimp -implicitDefEqProofs [-getElem?_pos, go_sem, t2]) (by simp -dsimp -implicitDefEqProofs [-getElem?_pos, go_sem]) (by simp -dsimp -implicitDefEqProofs [-getElem?_pos, go_sem, hn]) (by simp -dsimp -implicitDefEqProofs [-getElem?_pos, go_sem, t9]) (by simp -dsimp -implicitDefEqProofs [-getElem?_pos, go_sem, t10]) (by simp -dsimp -implicitDefEqProofs [-getElem?_pos, go_sem, t11]) (by simp -dsimp -implicitDefEqProofs [-getElem?_pos, go_sem, g0]) (by simp -dsimp -implicitDefEqProofs [-getElem?_pos, go_sem, hn])
    rw [inK, h2, Bool.true_and] at hq
    rcases Nat.eq_zero_or_pos k with k0 | k0
    · rw [ho0 k0, allO, Bool.true_and] at hq
      have k0' : ¬ 0 < k := by omega
      have hjk : decide ((0 : Int) < (k : Int)) = false := decide_eq_false (by omega)
      simp -dsimp -implicitDefEqProofs [-getElem?_pos, go_sem, hP, h2, k0', hjk]
      exact fin _ (.inr ⟨by simp -dsimp -implicitDefEqProofs [-getElem?_pos, go_sem], hq⟩) (by simp -dsimp -implicitDefEqProofs [-getElem?_pos, go_sem, t1]) (by simp -dsimp -implicitDefEqProofs [-getElem?_pos, go_sem, t2]) (by simp -dsimp -implicitDefEqProofs [-getElem?_pos, go_sem]) (by simp -dsimp -implicitDefEqProofs [-getElem?_pos, go_sem, hn]) (by simp -dsimp -implicitDefEqProofs [-getElem?_pos, go_sem, t9]) (by simp -dsimp -implicitDefEqProofs [-getElem?_pos, go_sem, t10]) (by simp -dsimp -implicitDefEqProofs [-getElem?_pos, go_sem, t11]) (by simp -dsimp -implicitDefEqProofs [-getElem?_pos, go_sem, g0]) (by simp -dsimp -implicitDefEqProofs [-getElem?_pos, go_sem, hn])
    obtain ⟨j, hj⟩ : ∃ j, k = j + 1 := ⟨k - 1, by omega⟩
    obtain ⟨x, hx⟩ : ∃ x, l[j]? = some x := ⟨_, List.getElem?_eq_getElem (by omega)⟩
    have hox := ho1 j x hj hx
    have hjk : decide ((0 : Int) < (k : Int)) = true := decide_eq_true (by omega)
    have wj : IntKind.i64.wrap ((k : Int) - 1) = (j : Int) := by rw [wrap_in _ (by omega)]; omega
    have cm := rbefore_pf x p
    have ix := imm_pay x
    rw [cPy, cPy] at cm
    rw [cPy] at ix
    rw [hox, allO] at hq
    simp -dsimp -implicitDefEqProofs [-getElem?_pos, go_sem, hP, h2, k0, hjk, wj, t1, hx, cPy]
    refine callB_is (cm.lift _ _) hP en_190 (by simpa using ⟨ix, ip⟩) .sc ?_
    cases c : befB x p
    · rw [c, Bool.false_and, Bool.false_and] at hq
      simp -dsimp -implicitDefEqProofs [-getElem?_pos, go_sem, hP, c]
      exact fin _ (.inl ⟨hq, by simp -dsimp -implicitDefEqProofs [-getElem?_pos, go_sem]⟩) (by simp -dsimp -implicitDefEqProofs [-getElem?_pos, go_sem, t1]) (by simp -dsimp -implicitDefEqProofs [-getElem?_pos, go_sem, t2]) (by simp -dsimp -implicitDefEqProofs [-getElem?_pos, go_sem]) (by simp -dsimp -implicitDefEqProofs [-getElem?_pos, go_sem, hn]) (by simp -dsimp -implicitDefEqProofs [-getElem?_pos, go_sem, t9]) (by simp -dsimp -implicitDefEqProofs [-getElem?_pos, go_sem, t10]) (by simp -dsimp -implicitDefEqProofs [-getElem?_pos, go_sem, t11]) (by simp -dsimp -implicitDefEqProofs [-getElem?_pos, go_sem, g0]) (by simp -dsimp -implicitDefEqProofs [-getElem?_pos, go_sem, hn])
    · rw [c, Bool.true_and] at hq
      simp -dsimp -implicitDefEqProofs [-getElem?_pos, go_sem, hP, c]
      exact fin _ (.inr ⟨by simp -dsimp -implicitDefEqProofs [-getElem?_pos, go_sem], hq⟩) (by simp -dsimp -implicitDefEqProofs [-getElem?_pos, go_sem, t1]) (by simp -dsimp -implicitDefEqProofs [-getElem?_pos, go_sem, t2]) (by simp -dsimp -implicitDefEqProofs [-getElem?_pos, go_sem]) (by simp -dsimp -implicitDefEqProofs [-getElem?_pos, go_sem, hn]) (by simp -dsimp -implicitDefEqProofs [-getElem?_pos, go_sem, t9]) (by simp -dsimp -implicitDefEqProofs [-getElem?_pos, go_sem, t10]) (by simp -dsimp -implicitDefEqProofs [-getElem?_pos, go_sem, t11]) (by simp -dsimp -implicitDefEqProofs [-getElem?_pos, go_sem, g0]) (by simp -dsimp -implicitDefEqProofs [-getElem?_pos, go_sem, hn])
  clear hq ho0 ho1 t1 t2 t9 t10 t11 h0 lt0 g0 fin
  rw [hInv]
  rintro s ⟨hR' | ⟨t39, hq⟩, t1, t2, t5, t6, t9, t10, t11, h0, hN'⟩
  · simp -dsimp -implicitDefEqProofs [-getElem?_pos, go_sem, hP, hR'.1, hR'.2]
  have lt0 := (List.getElem?_eq_some_iff.1 h0).1
  have ltn := (List.getElem?_eq_some_iff.1 hN').1
  have e1 : (encL TPayment.cells l).take k = encL TPayment.cells (l.take k) := encL_takeE _ _ _
  have e2 : (l.take k).length = k := by simp; omega
  obtain ⟨T, hT⟩ : ∃ T, T = l.take k := ⟨_, rfl⟩
  rw [← hT] at e1 e2 hq
  clear hT
  have c1 : (0 : Int) ≤ (k : Int) ∧ (k : Int) ≤ (l.length : Int) := by omega
  simp -dsimp -implicitDefEqProofs [-getElem?_pos, go_sem, hP, t39, t1, t5, asliceOp, bound, aslice, c1, e1]
  obtain ⟨J, hJ⟩ : ∃ I : Nat → St → Prop, I = fun m s => ∃ (j : Nat), j ≤ k ∧ m = k - j ∧ R = (ordFrom (some p) (l.drop (k + 1)) && (((l.drop (k + 1)).all (inK q.Known)) && (!((T.drop j).any fun x => decide (x.Warrant = p.Warrant)) && distFrom (l.take (k + 1)) (l.drop (k + 1))))) ∧ s.t 1 = paysL l ∧ s.t 2 = .ref 0 0 0 ∧ s.t 6 = .ref n 0 0 ∧ s.t 9 = paysL l ∧ s.t 10 = iv l.length ∧ s.t 11 = iv k ∧ s.t 42 = paysL T ∧ s.t 43 = iv k ∧ s.t 44 = iv j ∧ s.H[0]? = some (some ⟨32, 3, [[paysL q.Waiting, .list 1 (q.Known.map fun x => [iv x]), batsL q.Batches]]⟩) ∧ s.H[n]? = some (some ⟨99, 5, [[iv p.Warrant, iv p.Payee, iv p.Amount, iv p.Due, iv p.Sub]]⟩) := ⟨_, rfl⟩
  refine aloop0 J (k) (by rw [hN]; rfl) ?_ ?_
  · rw [hJ]
    exact ⟨0, by omega, by omega, hq, by simp -dsimp -implicitDefEqProofs [-getElem?_pos, go_sem, t1], by simp -dsimp -implicitDefEqProofs [-getElem?_pos, go_sem, t2], by simp -dsimp -implicitDefEqProofs [-getElem?_pos, go_sem, t6], by simp -dsimp -implicitDefEqProofs [-getElem?_pos, go_sem, t9], by simp -dsimp -implicitDefEqProofs [-getElem?_pos, go_sem, t10], by simp -dsimp -implicitDefEqProofs [-getElem?_pos, go_sem, t11], by simp -dsimp -implicitDefEqProofs [-getElem?_pos, go_sem], by simp -dsimp -implicitDefEqProofs [-getElem?_pos, go_sem, e2], by simp -dsimp -implicitDefEqProofs [-getElem?_pos, go_sem], by simp -dsimp -implicitDefEqProofs [-getElem?_pos, go_sem, h0], by simp -dsimp -implicitDefEqProofs [-getElem?_pos, go_sem, hN']⟩
  clear t1 t2 t5 t6 t9 t10 t11 t39 h0 lt0 hN' ltn hq hn
  intro m s hs'
  rw [hJ] at hs'
  obtain ⟨j, hj, hm2, hq, t1, t2, t6, t9, t10, t11, t42, t43, t44, h0, hN'⟩ := hs'
  have lt0 := (List.getElem?_eq_some_iff.1 h0).1
  have ltn := (List.getElem?_eq_some_iff.1 hN').1
  simp -dsimp -implicitDefEqProofs [-getElem?_pos, go_sem, hP, t43, t44]
  refine condP (fun hh => ?_) (fun hh => ?_)
  · have hj : j < k := by simpa using hh
    obtain ⟨x, hx⟩ : ∃ x, T[j]? = some x := ⟨_, List.getElem?_eq_getElem (by omega)⟩
    have wj := wrap_in ((j : Int) + 1) (by omega)
    have gn : ∀ x : Option AObj, (s.H ++ [x])[n]? = some (some ⟨99, 5, [[iv p.Warrant, iv p.Payee, iv p.Amount, iv p.Due, iv p.Sub]]⟩) := fun x => by rw [List.getElem?_append_left ltn]; exact hN'
    rw [drop_at hx, List.any_cons] at hq
    by_cases c : x.Warrant = p.Warrant
    · have : R = false := by rw [hq, decide_eq_true c]; simp
      simp -dsimp -implicitDefEqProofs [-getElem?_pos, go_sem, hP, t42, t44, hx, cPy, t6, gn, ltn, hN', c, this]
    · have d := decide_eq_false c
      rw [d, Bool.false_or] at hq
      simp -dsimp -implicitDefEqProofs [-getElem?_pos, go_sem, hP, t42, t44, hx, cPy, t6, gn, ltn, hN', d, wj]
      refine ⟨k - (j + 1), by omega, ?_⟩
      rw [hJ]
      exact ⟨j + 1, by omega, rfl, hq, by simp -dsimp -implicitDefEqProofs [-getElem?_pos, go_sem, t1], by simp -dsimp -implicitDefEqProofs [-getElem?_pos, go_sem, t2], by simp -dsimp -implicitDefEqProofs [-getElem?_pos, go_sem, t6], by simp -dsimp -implicitDefEqProofs [-getElem?_pos, go_sem, t9], by simp -dsimp -implicitDefEqProofs [-getElem?_pos, go_sem, t10], by simp -dsimp -implicitDefEqProofs [-getElem?_pos, go_sem, t11], by simp -dsimp -implicitDefEqProofs [-getElem?_pos, go_sem, t42], by simp -dsimp -implicitDefEqProofs [-getElem?_pos, go_sem, t43], by simp -dsimp -implicitDefEqProofs [-getElem?_pos, go_sem], by simp -dsimp -implicitDefEqProofs [-getElem?_pos, go_sem, lt0, h0], by simp -dsimp -implicitDefEqProofs [-getElem?_pos, go_sem, gn]⟩
  · have hj : j = k := by simp at hh; omega
    subst hj
    have e3 : T.drop j = [] := List.drop_eq_nil_of_le (by omega)
    rw [e3, List.any_nil, Bool.not_false, Bool.true_and] at hq
    simp -dsimp -implicitDefEqProofs [-getElem?_pos, go_sem, hP, t11, wk]
    refine ⟨l.length - (j + 1), by omega, ?_⟩
    rw [hI]
    exact ⟨j + 1, some p, by omega, rfl, hq, by omega, prev_at (f := some) hp, by simp -dsimp -implicitDefEqProofs [-getElem?_pos, go_sem, t1], by simp -dsimp -implicitDefEqProofs [-getElem?_pos, go_sem, t2], by simp -dsimp -implicitDefEqProofs [-getElem?_pos, go_sem, t9], by simp -dsimp -implicitDefEqProofs [-getElem?_pos, go_sem, t10], by simp -dsimp -implicitDefEqProofs [-getElem?_pos, go_sem], by simp -dsimp -implicitDefEqProofs [-getElem?_pos, go_sem, h0]⟩
set_option maxHeartbeats 2000000 in
theorem rcheck25_pf (q : TQueue) (hf : FitQ q) : PFun Tryz.prog none none 97 [.agg q.cells] (· = iv (checkQ q)) := by
  refine pfun_intro Tryz.func97 rfl (by simp [Tryz.f97]) (by kernel_rfl) ?_
  intro E hP hr hs hW hN
  have iq := imm_que q
  have iw := imm_pays q.Waiting
  obtain ⟨R, hR⟩ : ∃ R, R = checkQ q := ⟨_, rfl⟩
  rw [← hR]
  have hk9 := hf.k
  have hb9 := hf.b
  have hw9 := hf.w
  have asc := fun l hl => rascending_pf q l (by omega) hl
  rw [cQu] at iq
  simp only [cQu] at asc
  simp only [intsL] at iq asc
  rw [checkQ] at hR
  by_cases c1 : 100 < q.Waiting.length
  · have d1 : decide ((100 : Int) < (q.Waiting.length : Int)) = true := decide_eq_true (by omega)
    rw [if_pos (.inl c1)] at hR
    simp -dsimp -implicitDefEqProofs [-getElem?_pos, go_sem, hP, cQu, intsL, c1, d1, hR]
  have d1 : decide ((100 : Int) < (q.Waiting.length : Int)) = false := decide_eq_false (by omega)
  by_cases c2 : 200 < q.Known.length
  · have d2 : decide ((200 : Int) < (q.Known.length : Int)) = true := decide_eq_true (by omega)
    rw [if_pos (.inr (.inl c2))] at hR
    simp -dsimp -implicitDefEqProofs [-getElem?_pos, go_sem, hP, cQu, intsL, c1, d1, c2, d2, hR]
  have d2 : decide ((200 : Int) < (q.Known.length : Int)) = false := decide_eq_false (by omega)
  by_cases c3 : 200 < q.Batches.length
  · have d3 : decide ((200 : Int) < (q.Batches.length : Int)) = true := decide_eq_true (by omega)
    rw [if_pos (.inr (.inr c3))] at hR
    simp -dsimp -implicitDefEqProofs [-getElem?_pos, go_sem, hP, cQu, intsL, c1, d1, c2, d2, c3, d3, hR]
  have d3 : decide ((200 : Int) < (q.Batches.length : Int)) = false := decide_eq_false (by omega)
  rw [if_neg (by omega)] at hR
  obtain ⟨K, hK⟩ : ∃ K, K = q.Known := ⟨_, rfl⟩
  obtain ⟨W, hWt⟩ : ∃ W, W = q.Waiting := ⟨_, rfl⟩
  obtain ⟨l, hl⟩ : ∃ l, l = q.Batches := ⟨_, rfl⟩
  have each : ∀ b, b ∈ l → b.Payments.length ≤ 100000 := hl ▸ hf.each
  rw [← hK, ← hWt, ← hl] at hR iq asc
  rw [← hK] at hk9 d2
  rw [← hWt] at hw9 d1 iw
  rw [← hl] at hb9 d3
  have h0I : ∀ (H : Heap), H[0]? = some (some ⟨32, 3, [[paysL W, .list 1 (K.map fun x => [iv x]), batsL l]]⟩) → 0 < H.length := fun H h => (List.getElem?_eq_some_iff.1 h).1
  have bad : ∀ a b : Bool, R = (if (a && b) = true then 0 else 64) → (a = false ∨ b = false) → R = 64 := fun a b h e => by
    rw [h, if_neg]
    rcases e with e | e <;> simp [e]
  simp -dsimp -implicitDefEqProofs [-getElem?_pos, go_sem, hP, cQu, intsL, ← hK, ← hWt, ← hl, d1, d2, d3]
  obtain ⟨I, hI⟩ : ∃ I : Nat → St → Prop, I = fun m s => ∃ (k : Nat) (o : Option Int), k ≤ K.length ∧ m = K.length - k ∧ knFrom none K = knFrom o (K.drop k) ∧ (k = 0 → o = none) ∧ (∀ j x, k = j + 1 → K[j]? = some x → o = some x) ∧ s.t 1 = .ref 0 0 0 ∧ s.t 24 = intsL K ∧ s.t 25 = iv K.length ∧ s.t 26 = iv k ∧ s.H[0]? = some (some ⟨32, 3, [[paysL W, .list 1 (K.map fun x => [iv x]), batsL l]]⟩) := ⟨_, rfl⟩
  refine aloop0 I (K.length) (by rw [hN]; rfl) ?_ ?_
  · rw [hI]
    exact ⟨0, none, by omega, by omega, by rfl, by simp, by omega, by simp -dsimp -implicitDefEqProofs [-getElem?_pos, go_sem], by simp -dsimp -implicitDefEqProofs [-getElem?_pos, go_sem, intsL], by simp -dsimp -implicitDefEqProofs [-getElem?_pos, go_sem], by simp -dsimp -implicitDefEqProofs [-getElem?_pos, go_sem], by simp -dsimp -implicitDefEqProofs [-getElem?_pos, go_sem]⟩
  intro m s hs'
  rw [hI] at hs'
  obtain ⟨k, o, hk, hm, hq, ho0, ho1, t1, t24, t25, t26, h0⟩ := hs'
  have lt0 := h0I _ h0
  simp -dsimp -implicitDefEqProofs [-getElem?_pos, go_sem, hP, t25, t26]
  refine condP (fun hh => ?_) (fun hh => ?_)
  · have hk : k < K.length := by simpa using hh
    obtain ⟨p, hp⟩ : ∃ p, K[k]? = some p := ⟨_, List.getElem?_eq_getElem hk⟩
    have wk := wrap_in ((k : Int) + 1) (by omega)
    rw [drop_at hp, knFrom] at hq
    by_cases e1 : p < 1
    · rw [amg_no (by omega), Bool.false_and] at hq
      have := bad _ _ hR (.inl hq)
      simp -dsimp -implicitDefEqProofs [-getElem?_pos, go_sem, hP, t24, t26, intsL, hp, e1, this]
    have f1 : decide (p < 1) = false := decide_eq_false e1
    by_cases e2 : 1000000 < p
    · rw [amg_no (by omega), Bool.false_and] at hq
      have := bad _ _ hR (.inl hq)
      simp -dsimp -implicitDefEqProofs [-getElem?_pos, go_sem, hP, t24, t26, intsL, hp, f1, e2, this]
    have f2 : decide (1000000 < p) = false := decide_eq_false e2
    rw [amg_iff.2 (by omega), Bool.true_and] at hq
    rcases Nat.eq_zero_or_pos k with k0 | k0
    · rw [ho0 k0, allO, Bool.true_and] at hq
      have k0' : ¬ 0 < k := by omega
      have hjk : decide ((0 : Int) < (k : Int)) = false := decide_eq_false (by omega)
      simp -dsimp -implicitDefEqProofs [-getElem?_pos, go_sem, hP, t24, t26, intsL, hp, f1, f2, k0', hjk, wk]
      refine ⟨K.length - (k + 1), by omega, ?_⟩
      rw [hI]
      exact ⟨k + 1, some p, by omega, rfl, hq, by omega, prev_at (f := some) hp, by simp -dsimp -implicitDefEqProofs [-getElem?_pos, go_sem, t1], by simp -dsimp -implicitDefEqProofs [-getElem?_pos, go_sem, t24], by simp -dsimp -implicitDefEqProofs [-getElem?_pos, go_sem, t25], by simp -dsimp -implicitDefEqProofs [-getElem?_pos, go_sem], by simp -dsimp -implicitDefEqProofs [-getElem?_pos, go_sem, h0]⟩
    · obtain ⟨j, hj⟩ : ∃ j, k = j + 1 := ⟨k - 1, by omega⟩
      obtain ⟨x, hx⟩ : ∃ x, K[j]? = some x := ⟨_, List.getElem?_eq_getElem (by omega)⟩
      have hox := ho1 j x hj hx
      have hjk : decide ((0 : Int) < (k : Int)) = true := decide_eq_true (by omega)
      have wj : IntKind.i64.wrap ((k : Int) - 1) = (j : Int) := by rw [wrap_in _ (by omega)]; omega
      rw [hox, allO] at hq
      by_cases c : x < p
      · have f3 : decide (p ≤ x) = false := decide_eq_false (by omega)
        rw [decide_eq_true c, Bool.true_and] at hq
        simp -dsimp -implicitDefEqProofs [-getElem?_pos, go_sem, hP, t24, t26, intsL, hp, f1, f2, k0, hjk, wj, t1, lt0, h0, hx, f3, wk]
        refine ⟨K.length - (k + 1), by omega, ?_⟩
        rw [hI]
        exact ⟨k + 1, some p, by omega, rfl, hq, by omega, prev_at (f := some) hp, by simp -dsimp -implicitDefEqProofs [-getElem?_pos, go_sem, t1], by simp -dsimp -implicitDefEqProofs [-getElem?_pos, go_sem, t24], by simp -dsimp -implicitDefEqProofs [-getElem?_pos, go_sem, t25], by simp -dsimp -implicitDefEqProofs [-getElem?_pos, go_sem], by simp -dsimp -implicitDefEqProofs [-getElem?_pos, go_sem, h0]⟩
      · have f3 : decide (p ≤ x) = true := decide_eq_true (by omega)
        rw [decide_eq_false c, Bool.false_and] at hq
        have := bad _ _ hR (.inl hq)
        simp -dsimp -implicitDefEqProofs [-getElem?_pos, go_sem, hP, t24, t26, intsL, hp, f1, f2, k0, hjk, wj, t1, lt0, h0, hx, f3, this]
  have hk : k = K.length := by simp at hh; omega
  subst hk
  rw [List.drop_length, knFrom] at hq
  rw [hq, Bool.true_and] at hR
  clear hq ho0 ho1 t24 t25 t26 hh hI
  simp -dsimp -implicitDefEqProofs [-getElem?_pos, go_sem, hP, t1, h0, lt0]
  refine callB_is ((asc W (by omega)).lift _ _) hP en_157 (by simpa using ⟨iq, iw⟩) .sc ?_
  cases b1 : ascB K W
  · have := bad _ _ hR (.inl b1)
    simp -dsimp -implicitDefEqProofs [-getElem?_pos, go_sem, hP, b1, this]
  rw [b1, Bool.true_and] at hR
  have bad : batsFrom K 0 0 l = false → R = 64 := fun e => by rw [hR, e]; rfl
  simp -dsimp -implicitDefEqProofs [-getElem?_pos, go_sem, hP, b1, t1, h0, lt0]
  obtain ⟨J, hJ⟩ : ∃ I : Nat → St → Prop, I = fun m s => ∃ (k : Nat) (d : Int), k ≤ l.length ∧ m = l.length - k ∧ batsFrom K 0 0 l = batsFrom K k d (l.drop k) ∧ (k = 0 → d = 0) ∧ (∀ j x, k = j + 1 → l[j]? = some x → d = x.Day) ∧ s.t 1 = .ref 0 0 0 ∧ s.t 58 = batsL l ∧ s.t 59 = iv l.length ∧ s.t 60 = iv k ∧ s.H[0]? = some (some ⟨32, 3, [[paysL W, .list 1 (K.map fun x => [iv x]), batsL l]]⟩) := ⟨_, rfl⟩
  refine aloop0 J (l.length) (by rw [hN]; rfl) ?_ ?_
  · rw [hJ]
    exact ⟨0, 0, by omega, by omega, by rfl, by simp, by omega, by simp -dsimp -implicitDefEqProofs [-getElem?_pos, go_sem, t1], by simp -dsimp -implicitDefEqProofs [-getElem?_pos, go_sem], by simp -dsimp -implicitDefEqProofs [-getElem?_pos, go_sem], by simp -dsimp -implicitDefEqProofs [-getElem?_pos, go_sem], by simp -dsimp -implicitDefEqProofs [-getElem?_pos, go_sem, h0]⟩
  clear t1 h0 lt0 hk hm
  intro m s hs'
  rw [hJ] at hs'
  obtain ⟨k, d, hk, hm, hq, hd0, hd1, t1, t58, t59, t60, h0⟩ := hs'
  have lt0 := h0I _ h0
  simp -dsimp -implicitDefEqProofs [-getElem?_pos, go_sem, hP, t59, t60]
  refine condP (fun hh => ?_) (fun hh => ?_)
  rotate_left
  · have hk : k = l.length := by simp at hh; omega
    subst hk
    rw [List.drop_length, batsFrom] at hq
    rw [hq, if_pos rfl] at hR
    simp -dsimp -implicitDefEqProofs [-getElem?_pos, go_sem, hP, hR]
  have hk : k < l.length := by simpa using hh
  obtain ⟨b, hb⟩ : ∃ b, l[k]? = some b := ⟨_, List.getElem?_eq_getElem hk⟩
  have hbl := each b (List.mem_of_getElem? hb)
  have wk := wrap_in ((k : Int) + 1) (by omega)
  have ip := imm_pays b.Payments
  have g0 : ∀ x : Option AObj, (s.H ++ [x])[0]? = some (some ⟨32, 3, [[paysL W, .list 1 (K.map fun x => [iv x]), batsL l]]⟩) := fun x => by rw [List.getElem?_append_left lt0]; exact h0
  rw [drop_at hb, batsFrom, batB] at hq
  simp -dsimp -implicitDefEqProofs [-getElem?_pos, go_sem, hP, t58, t60, hb, cBt]
  refine adrawB (fun _ => true) [] hP (by kernel_rfl) (by kernel_rfl) ?_
  by_cases e1 : b.Number = (k : Int) + 1
  rotate_left
  · rw [decide_eq_false e1, Bool.false_and, Bool.false_and] at hq
    have f1 := decide_eq_false e1
    simp -dsimp -implicitDefEqProofs [-getElem?_pos, go_sem, hP, wk, e1, f1, bad hq]
  rw [decide_eq_true e1, Bool.true_and] at hq
  have f1 : decide (b.Number = (k : Int) + 1) = true := decide_eq_true e1
  by_cases e2 : b.Day < 0
  · have : busB b.Day = false := by rw [busB, amg_no (by omega), Bool.false_and]
    rw [this, Bool.false_and, Bool.and_false, Bool.false_and] at hq
    simp -dsimp -implicitDefEqProofs [-getElem?_pos, go_sem, hP, wk, f1, e2, bad hq]
  have f2 : decide (b.Day < 0) = false := decide_eq_false e2
  by_cases e3 : 36000 < b.Day
  · have : busB b.Day = false := by rw [busB, amg_no (by omega), Bool.false_and]
    rw [this, Bool.false_and, Bool.and_false, Bool.false_and] at hq
    simp -dsimp -implicitDefEqProofs [-getElem?_pos, go_sem, hP, wk, f1, f2, e3, bad hq]
  have f3 : decide (36000 < b.Day) = false := decide_eq_false e3
  simp -dsimp -implicitDefEqProofs [-getElem?_pos, go_sem, hP, wk, f1, f2, f3]
  refine callB_pure (r02business_pf b.Day) hP en_46 (args_same (by simp -dsimp -implicitDefEqProofs [-getElem?_pos, go_sem])) .sc ?_
  cases c3 : busB b.Day
  · rw [c3, Bool.false_and, Bool.and_false, Bool.false_and] at hq
    simp -dsimp -implicitDefEqProofs [-getElem?_pos, go_sem, hP, c3, bad hq]
  rw [c3, Bool.true_and] at hq
  have rest : d ≤ b.Day → batsFrom K 0 0 l = (amg b.Payments.length 1 10 && ascB K b.Payments && batsFrom K (k + 1) b.Day (l.drop (k + 1))) := fun h => by
    rw [hq, decide_eq_true h, Bool.true_and]
  have done : d ≤ b.Day → ∀ s' : St, (amg b.Payments.length 1 10 && ascB K b.Payments) = true → s'.t 1 = .ref 0 0 0 → s'.t 58 = batsL l → s'.t 59 = iv l.length → s'.t 60 = iv (k + 1) → s'.H[0]? = some (some ⟨32, 3, [[paysL W, .list 1 (K.map fun x => [iv x]), batsL l]]⟩) → ∃ m', m' < m ∧ J m' s' := fun h s' h1 h2 h3 h4 h5 h6 => by
    refine ⟨l.length - (k + 1), by omega, ?_⟩
    rw [hJ]
    exact ⟨k + 1, b.Day, by omega, rfl, by rw [rest h, h1, Bool.true_and]; rfl, by omega, prev_at (f := fun b : TBatch => b.Day) hb, h2, h3, h4, h5, h6⟩
  rcases Nat.eq_zero_or_pos k with k0 | k0
  · have hdd : d ≤ b.Day := by rw [hd0 k0]; omega
    have k0' : ¬ 0 < k := by omega
    have hjk : decide ((0 : Int) < (k : Int)) = false := decide_eq_false (by omega)
    simp -dsimp -implicitDefEqProofs [-getElem?_pos, go_sem, hP, c3, k0', hjk]
    have rest' := rest hdd
    by_cases e4 : b.Payments.length < 1
    · have f4 : decide ((b.Payments.length : Int) < 1) = true := decide_eq_true (by omega)
      rw [amg_no (n := (b.Payments.length : Int)) (by omega), Bool.false_and, Bool.false_and] at rest'
      simp -dsimp -implicitDefEqProofs [-getElem?_pos, go_sem, hP, k0', hjk, e4, f4, bad rest']
    have f4 : decide ((b.Payments.length : Int) < 1) = false := decide_eq_false (by omega)
    by_cases e5 : 10 < b.Payments.length
    · have f5 : decide ((10 : Int) < (b.Payments.length : Int)) = true := decide_eq_true (by omega)
      rw [amg_no (n := (b.Payments.length : Int)) (by omega), Bool.false_and, Bool.false_and] at rest'
      simp -dsimp -implicitDefEqProofs [-getElem?_pos, go_sem, hP, k0', hjk, f4, f5, bad rest']
    have f5 : decide ((10 : Int) < (b.Payments.length : Int)) = false := decide_eq_false (by omega)
    have f45 : amg b.Payments.length 1 10 = true := amg_iff.2 (by omega)
    simp -dsimp -implicitDefEqProofs [-getElem?_pos, go_sem, hP, k0', hjk, f4, f5, t1, g0, lt0, h0]
    refine callB_is ((asc b.Payments (by omega)).lift _ _) hP en_157 (by simpa using ⟨iq, ip⟩) .sc ?_
    cases c6 : ascB K b.Payments
    · rw [f45, c6, Bool.true_and, Bool.false_and] at rest'
      simp -dsimp -implicitDefEqProofs [-getElem?_pos, go_sem, hP, k0', hjk, c6, bad rest']
    simp -dsimp -implicitDefEqProofs [-getElem?_pos, go_sem, hP, k0', hjk, c6, t60, wk]
    exact done hdd _ (by rw [f45, c6]; rfl) (by simp -dsimp -implicitDefEqProofs [-getElem?_pos, go_sem, t1]) (by simp -dsimp -implicitDefEqProofs [-getElem?_pos, go_sem, t58]) (by simp -dsimp -implicitDefEqProofs [-getElem?_pos, go_sem, t59]) (by simp -dsimp -implicitDefEqProofs [-getElem?_pos, go_sem]) (by simp -dsimp -implicitDefEqProofs [-getElem?_pos, go_sem, lt0, h0])
  · obtain ⟨j, hj⟩ : ∃ j, k = j + 1 := ⟨k - 1, by omega⟩
    obtain ⟨x, hx⟩ : ∃ x, l[j]? = some x := ⟨_, List.getElem?_eq_getElem (by omega)⟩
    have hdx := hd1 j x hj hx
    have hjk : decide ((0 : Int) < (k : Int)) = true := decide_eq_true (by omega)
    have wj : IntKind.i64.wrap ((k : Int) - 1) = (j : Int) := by rw [wrap_in _ (by omega)]; omega
    by_cases c : x.Day ≤ b.Day
    rotate_left
    · rw [decide_eq_false (show ¬ d ≤ b.Day by omega), Bool.false_and, Bool.false_and] at hq
      have f6 : decide (b.Day < x.Day) = true := decide_eq_true (by omega)
      simp -dsimp -implicitDefEqProofs [-getElem?_pos, go_sem, hP, c3, k0, hjk, wj, t1, g0, lt0, h0, hx, cBt, f6, bad hq]
    have hdd : d ≤ b.Day := by omega
    have f6 : decide (b.Day < x.Day) = false := decide_eq_false (by omega)
    simp -dsimp -implicitDefEqProofs [-getElem?_pos, go_sem, hP, c3, k0, hjk, wj, t1, g0, lt0, h0, hx, cBt, f6]
    have rest' := rest hdd
    by_cases e4 : b.Payments.length < 1
    · have f4 : decide ((b.Payments.length : Int) < 1) = true := decide_eq_true (by omega)
      rw [amg_no (n := (b.Payments.length : Int)) (by omega), Bool.false_and, Bool.false_and] at rest'
      simp -dsimp -implicitDefEqProofs [-getElem?_pos, go_sem, hP, k0, hjk, f6, e4, f4, bad rest']
    have f4 : decide ((b.Payments.length : Int) < 1) = false := decide_eq_false (by omega)
    by_cases e5 : 10 < b.Payments.length
    · have f5 : decide ((10 : Int) < (b.Payments.length : Int)) = true := decide_eq_true (by omega)
      rw [amg_no (n := (b.Payments.length : Int)) (by omega), Bool.false_and, Bool.false_and] at rest'
      simp -dsimp -implicitDefEqProofs [-getElem?_pos, go_sem, hP, k0, hjk, f6, f4, f5, bad rest']
    have f5 : decide ((10 : Int) < (b.Payments.length : Int)) = false := decide_eq_false (by omega)
    have f45 : amg b.Payments.length 1 10 = true := amg_iff.2 (by omega)
    simp -dsimp -implicitDefEqProofs [-getElem?_pos, go_sem, hP, k0, hjk, f6, f4, f5, t1, g0, lt0, h0]
    refine callB_is ((asc b.Payments (by omega)).lift _ _) hP en_157 (by simpa using ⟨iq, ip⟩) .sc ?_
    cases c6 : ascB K b.Payments
    · rw [f45, c6, Bool.true_and, Bool.false_and] at rest'
      simp -dsimp -implicitDefEqProofs [-getElem?_pos, go_sem, hP, k0, hjk, f6, c6, bad rest']
    simp -dsimp -implicitDefEqProofs [-getElem?_pos, go_sem, hP, k0, hjk, f6, c6, t60, wk]
    exact done hdd _ (by rw [f45, c6]; rfl) (by simp -dsimp -implicitDefEqProofs [-getElem?_pos, go_sem, t1]) (by simp -dsimp -implicitDefEqProofs [-getElem?_pos, go_sem, t58]) (by simp -dsimp -implicitDefEqProofs [-getElem?_pos, go_sem, t59]) (by simp -dsimp -implicitDefEqProofs [-getElem?_pos, go_sem]) (by simp -dsimp -implicitDefEqProofs [-getElem?_pos, go_sem, lt0, h0])
open Go.PA
open Go.RowKit
abbrev intRows (l : List Int) : List (List AV) := l.map fun x => [iv x]
theorem intRows_len (l : List Int) : (intRows l).length = l.length := by simp [intRows]
open Go.PA
open Go.RowKit
open Go.PA
open Go.RowKit
open Go.PA
open Go.RowKit
theorem cw_zeroQ {H : Heap} : CW H [.nil, .nil, .nil] zeroQ.cells := cw_nil (cw_nil (cw_nil .nil))
theorem done_zeroQ {H : Heap} {n : Int} {Q : AV → Prop} {b : Bx Q} (h : Q (.tup [.agg zeroQ.cells, iv n])) : Done H (.tup [.agg [.nil, .nil, .nil], iv n]) Q b := done_agg2 cw_zeroQ h
open Go.PA
open Go.RowKit
open Go.PA
open Go.RowKit
theorem imm_trip {a b c : AV} (ha : Imm a) (hb : Imm b) (hc : Imm c) : Imm (.tup [a, b, c]) := by
  refine .tup fun x hx => ?_
  simp only [List.mem_cons, List.not_mem_nil, or_false] at hx
  rcases hx with rfl | rfl | rfl <;> assumption
theorem weak_tup3 {a b c a' b' c' : AV} (ha : Weak a a') (hb : Weak b b') (hc : Weak c c') : Weak (.tup [a, b, c]) (.tup [a', b', c']) := by
  refine .tup rfl fun i x y hx hy => ?_
  match i, hx, hy with
  | 0, hx, hy => simp at hx hy; subst hx; subst hy; exact ha
  | 1, hx, hy => simp at hx hy; subst hx; subst hy; exact hb
  | 2, hx, hy => simp at hx hy; subst hx; subst hy; exact hc
  | i + 3, hx, hy => simp at hx
theorem done_trip {H : Heap} {cs cs' ds ds' : List AV} {v : Value} {Q : AV → Prop} {b : Bx Q} (h : CW H cs cs') (h2 : CW H ds ds') (hq : Q (.tup [.agg cs', .agg ds', .sc v])) : Done H (.tup [.agg cs, .agg ds, .sc v]) Q b :=
  done_weak (imm_trip h.imm h2.imm .sc) (imm_trip h.imm' h2.imm' .sc) (weak_tup3 h.weak h2.weak (.refl _)) hq
theorem cw_zeroB {H : Heap} : CW H [iv 0, iv 0, .nil] zeroB.cells := cw_imm .sc (cw_imm .sc (cw_nil .nil))
theorem done_zeroQ3 {H : Heap} {n : Int} {Q : AV → Prop} {b : Bx Q} (h : Q (.tup [.agg zeroQ.cells, .agg zeroB.cells, iv n])) : Done H (.tup [.agg [.nil, .nil, .nil], .agg [iv 0, iv 0, .nil], iv n]) Q b := done_trip cw_zeroQ cw_zeroB h
theorem cw_immL {H : Heap} : ∀ {cs : List AV}, (∀ a, a ∈ cs → Imm a) → CW H cs cs
  | [], _ => .nil
  | a :: cs, h => cw_imm (h a (by simp)) (cw_immL fun x hx => h x (List.mem_cons_of_mem _ hx))
open Go.PA
open Go.RowKit
@[go_sem] theorem fze : zeros Tryz.prog 152 = some [.sc .nilFunc] := by kernel_rfl
open Go.PA
open Go.RowKit
theorem ready25_pf (q : TQueue) (day : Int) (hf : FitQ q) : PFun Tryz.prog none none 47 [.agg q.cells, iv day] (· = paysL (readyQ q day)) := by
  refine pfun_intro Tryz.func47 rfl (by simp [Tryz.f47]) (by kernel_rfl) ?_
  intro E hP hr hs hW hN
  have ck := rcheck25_pf q hf
  have iq := imm_que q
  have ip := imm_pays q.Waiting
  have i2 := imm_ints q.Known
  have i3 := imm_bats q.Batches
  rw [cQu] at ck iq
  simp only [intsL] at i2 ck iq
  simp -dsimp -implicitDefEqProofs [-getElem?_pos, go_sem, hP, cQu, intsL]
  refine callB_is (ck.lift _ _) hP en_97 (by simpa using iq) .sc ?_
  by_cases c1 : checkQ q = 0
  rotate_left
  · have : readyQ q day = [] := by rw [readyQ, if_neg c1]
    simp -dsimp -implicitDefEqProofs [-getElem?_pos, go_sem, hP, c1]
    exact done_weak .nil (imm_list.2 (by simp)) (.nil 5) (by rw [this]; rfl)
  have hrd : readyQ q day = q.Waiting.filter (fun p => decide (p.Due ≤ day)) := by rw [readyQ, if_pos c1]
  rw [hrd]
  obtain ⟨l, hl⟩ : ∃ l, l = q.Waiting := ⟨_, rfl⟩
  have lw := hf.w
  rw [← hl] at lw ⊢
  simp -dsimp -implicitDefEqProofs [-getElem?_pos, go_sem, hP, c1]
  refine aloop_own 5 99 5 (by simp -dsimp -implicitDefEqProofs [-getElem?_pos, go_sem]) ?_
  obtain ⟨I, hI⟩ : ∃ I : Nat → St → Prop, I = fun m s => ∃ (k id : Nat) (ys : List TPayment), k ≤ l.length ∧ m = l.length - k ∧ ys = (l.take k).filter (fun p => decide (p.Due ≤ day)) ∧ ys.length ≤ k ∧ s.t 1 = iv day ∧ s.t 12 = paysL l ∧ s.t 13 = iv l.length ∧ s.t 14 = iv k ∧ s.t 5 = .sref id 0 ys.length ∧ s.H[id]? = some (some ⟨99, 5, encL TPayment.cells ys⟩) := ⟨_, rfl⟩
  refine aloopF 5 hW I (l.length) (by rw [hN]; rfl) ?_ ?_
  · rw [hI]
    exact ⟨0, 1, [], by omega, by omega, by simp, by simp, by simp -dsimp -implicitDefEqProofs [-getElem?_pos, go_sem], by simp -dsimp -implicitDefEqProofs [-getElem?_pos, go_sem, hl], by simp -dsimp -implicitDefEqProofs [-getElem?_pos, go_sem, hl], by simp -dsimp -implicitDefEqProofs [-getElem?_pos, go_sem], by simp -dsimp -implicitDefEqProofs [-getElem?_pos, go_sem], by simp -dsimp -implicitDefEqProofs [-getElem?_pos, go_sem]⟩
  intro m s hs'
  rw [hI] at hs'
  obtain ⟨k, id, ys, hk, hm, hys, hyl, t1, t12, t13, t14, t5, hH⟩ := hs'
  have hlt := (List.getElem?_eq_some_iff.1 hH).1
  simp -dsimp -implicitDefEqProofs [-getElem?_pos, go_sem, hP, t13, t14]
  refine condP (fun h => ?_) (fun h => ?_)
  · have hk : k < l.length := by simpa using h
    obtain ⟨x, hx⟩ : ∃ x, l[k]? = some x := ⟨_, List.getElem?_eq_getElem hk⟩
    have wk := wrap_in ((k : Int) + 1) (by omega)
    have nx : (l.take (k + 1)).filter (fun p => decide (p.Due ≤ day)) = if x.Due ≤ day then ys ++ [x] else ys := by
      rw [take_at hx, List.filter_append, ← hys]
      by_cases c : x.Due ≤ day <;> simp [c]
    by_cases c : x.Due ≤ day
    · rw [if_pos c] at nx
      have d : decide (x.Due ≤ day) = true := decide_eq_true c
      have nid : ¬ id = s.H.length := by omega
      simp -dsimp -implicitDefEqProofs [-getElem?_pos, go_sem, hP, t14, t12, hx, cPy, t1, d, wk, t5, hH, hlt]
      refine ⟨by omega, by omega, ?_⟩
      refine ⟨l.length - (k + 1), by omega, ?_⟩
      rw [hI]
      exact ⟨k + 1, s.H.length + 1, ys ++ [x], by omega, rfl, nx.symm, by simp; omega, by simp -dsimp -implicitDefEqProofs [-getElem?_pos, go_sem, t1], by simp -dsimp -implicitDefEqProofs [-getElem?_pos, go_sem, t12], by simp -dsimp -implicitDefEqProofs [-getElem?_pos, go_sem, t13], by simp -dsimp -implicitDefEqProofs [-getElem?_pos, go_sem], by simp -dsimp -implicitDefEqProofs [-getElem?_pos, go_sem], by rw [← encL_snoc]; simp -dsimp -implicitDefEqProofs [-getElem?_pos, go_sem, cPy]⟩
    · rw [if_neg c] at nx
      have d : decide (x.Due ≤ day) = false := decide_eq_false c
      simp -dsimp -implicitDefEqProofs [-getElem?_pos, go_sem, hP, t14, t12, hx, cPy, t1, d, wk]
      refine ⟨l.length - (k + 1), by omega, ?_⟩
      rw [hI]
      exact ⟨k + 1, id, ys, by omega, rfl, nx.symm, by omega, by simp -dsimp -implicitDefEqProofs [-getElem?_pos, go_sem, t1], by simp -dsimp -implicitDefEqProofs [-getElem?_pos, go_sem, t12], by simp -dsimp -implicitDefEqProofs [-getElem?_pos, go_sem, t13], by simp -dsimp -implicitDefEqProofs [-getElem?_pos, go_sem], by simp -dsimp -implicitDefEqProofs [-getElem?_pos, go_sem, t5], by simp -dsimp -implicitDefEqProofs [-getElem?_pos, go_sem, hH, hlt]⟩
  · have hk : k = l.length := by simp at h; omega
    subst hk
    rw [List.take_length] at hys
    refine frz id _ 99 5 (encL TPayment.cells ys) t5 hH (by rw [encL_len]) (imm_pays _) ?_
    simp -dsimp -implicitDefEqProofs [-getElem?_pos, go_sem, hP]
    exact done_imm (imm_pays _) (by rw [hys])
open Go.PA
open Go.RowKit
theorem ins_step {α : Type} {lt : α → α → Bool} {x a : α} {l : List α} (h : lt x a = true) : ins lt (x :: l) a = x :: ins lt l a := by
  simp [ins, h]
theorem ins_stop {α : Type} {lt : α → α → Bool} {x a : α} {l : List α} (h : lt x a = false) : ins lt (x :: l) a = a :: x :: l := by
  simp [ins, h]
theorem ins_nil {α : Type} {lt : α → α → Bool} {a : α} : ins lt [] a = [a] := rfl
set_option maxHeartbeats 1000000 in
theorem put25_pf (q : TQueue) (p : TPayment) (hf : FitQ q) : PFun Tryz.prog none none 174 [.agg q.cells, .agg p.cells] (· = .agg (TQueue.mk (ins befB q.Waiting p) q.Known q.Batches).cells) := by
  refine pfun_introA Tryz.func174 rfl (by simp [Tryz.f174]) ?_
  intro E hP hr hs hW hN
  obtain ⟨l, K, bs⟩ := q
  have lw : l.length ≤ 100000 := hf.w
  have ip := imm_pays l
  have i2 := imm_ints K
  have i3 := imm_bats bs
  have ipp := imm_pay p
  simp only [intsL] at i2
  rw [cPy] at ipp
  simp only [cQu, intsL]
  refine awp_cut (by rw [hN]; kernel_rfl) ?_
  simp -dsimp -implicitDefEqProofs [-getElem?_pos, go_sem, hP, cQu, cPy, intsL]
  refine awp_cut (by rw [hN]; kernel_rfl) ?_
  simp -dsimp -implicitDefEqProofs [-getElem?_pos, go_sem, hP]
  obtain ⟨Inv, hInv⟩ : ∃ Inv : St → Prop, Inv = fun s => ∃ k : Nat, k ≤ l.length ∧ ins befB l p = l.take k ++ p :: l.drop k ∧ s.t 2 = .ref 0 0 0 ∧ s.t 3 = .ref 1 0 0 ∧ s.t 4 = .ref 2 0 0 ∧ s.t 5 = iv k ∧ s.H = [some ⟨32, 3, [[paysL l, .list 1 (K.map fun x => [iv x]), batsL bs]]⟩, some ⟨99, 5, [[iv p.Warrant, iv p.Payee, iv p.Amount, iv p.Due, iv p.Sub]]⟩, some ⟨32, 3, [[.nil, .nil, .nil]]⟩] := ⟨_, rfl⟩
  refine awp_join Inv (by rw [hN]; kernel_rfl) ?_ ?_
  rotate_left
  · intro s hs'
    rw [hInv] at hs'
    obtain ⟨k, hk, hi, t2, t3, t4, t5, hH⟩ := hs'
    refine awp_sound _ _ _ (by rw [hN]; kernel_rfl) ?_
    simp -dsimp -implicitDefEqProofs [-getElem?_pos, go_sem, hP]
    refine adrawB (fun i => decide (i < 3)) [14] hP (by kernel_rfl) (by kernel_rfl) ?_
    have D : ∀ i, decide (i < 3) = true → i = 0 ∨ i = 1 ∨ i = 2 := fun i hi => by
      simp only [decide_eq_true_eq] at hi
      omega
    obtain ⟨A, hA⟩ : ∃ A, A = l.take k := ⟨_, rfl⟩
    obtain ⟨B, hB⟩ : ∃ B, B = l.drop k := ⟨_, rfl⟩
    have lA : A.length = k := by rw [hA, List.length_take]; omega
    have lB : B.length = l.length - k := by rw [hB, List.length_drop]
    rw [← hA, ← hB] at hi
    simp -dsimp -implicitDefEqProofs [-getElem?_pos, go_sem, hP, t2, t3, t5, hH, asliceOp, bound, aslice, hk, encL_takeE, encL_dropE, ← hA, ← hB, lA, lB]
    refine ⟨by omega, by omega, fun i hi => ?_, by omega, by omega, fun i hi => ?_, by omega, by omega, fun i hi => ?_, ?_⟩
    · rcases D i hi with rfl | rfl | rfl <;> rfl
    · rcases D i hi with rfl | rfl | rfl <;> rfl
    · rcases D i hi with rfl | rfl | rfl <;> rfl
    simp -dsimp -implicitDefEqProofs [-getElem?_pos, go_sem, hP, t4]
    refine done_agg (cs' := (TQueue.mk (ins befB l p) K bs).cells) ?_ rfl
    refine cw_sref (ty := 99) (es := encL TPayment.cells (ins befB l p)) ?_ (by rw [encL_len, hi, List.length_append, List.length_cons]; omega) (imm_pays _) (cw_imm i2 (cw_imm i3 .nil))
    simp -dsimp -implicitDefEqProofs [-getElem?_pos, go_sem, hi]
    simp [encL, cPy]
  simp -dsimp -implicitDefEqProofs [-getElem?_pos, go_sem, hP]
  obtain ⟨I, hI⟩ : ∃ I : Nat → St → Prop, I = fun m s => ∃ k : Nat, k ≤ l.length ∧ m = l.length - k ∧ ins befB l p = l.take k ++ ins befB (l.drop k) p ∧ s.t 2 = .ref 0 0 0 ∧ s.t 3 = .ref 1 0 0 ∧ s.t 4 = .ref 2 0 0 ∧ s.t 5 = iv k ∧ s.H = [some ⟨32, 3, [[paysL l, .list 1 (K.map fun x => [iv x]), batsL bs]]⟩, some ⟨99, 5, [[iv p.Warrant, iv p.Payee, iv p.Amount, iv p.Due, iv p.Sub]]⟩, some ⟨32, 3, [[.nil, .nil, .nil]]⟩] := ⟨_, rfl⟩
  refine aloop0 I (l.length) (by rw [hN]; rfl) ?_ ?_
  · rw [hI]
    exact ⟨0, by omega, by omega, by simp, by simp -dsimp -implicitDefEqProofs [-getElem?_pos, go_sem], by simp -dsimp -implicitDefEqProofs [-getElem?_pos, go_sem], by simp -dsimp -implicitDefEqProofs [-getElem?_pos, go_sem], by simp -dsimp -implicitDefEqProofs [-getElem?_pos, go_sem], by simp -dsimp -implicitDefEqProofs [-getElem?_pos, go_sem]⟩
  intro m s hs'
  rw [hI] at hs'
  obtain ⟨k, hk, hm, hi, t2, t3, t4, t5, hH⟩ := hs'
  simp -dsimp -implicitDefEqProofs [-getElem?_pos, go_sem, hP]
  refine adrawB (fun _ => true) [] hP (by kernel_rfl) (by kernel_rfl) ?_
  have ag : ∀ X : Heap, X = s.H → Agree (fun _ => true) s.H X := fun X e i _ => by rw [e]
  by_cases c : k < l.length
  · obtain ⟨x, hx⟩ : ∃ x, l[k]? = some x := ⟨_, List.getElem?_eq_getElem c⟩
    have d : decide ((k : Int) < (l.length : Int)) = true := decide_eq_true (by omega)
    have ix := imm_pay x
    have bf := rbefore_pf x p
    rw [cPy, cPy] at bf
    rw [cPy] at ix
    rw [drop_at hx] at hi
    have wk := wrap_in ((k : Int) + 1) (by omega)
    simp -dsimp -implicitDefEqProofs [-getElem?_pos, go_sem, hP, t2, t5, t3, hH, d, c, hx, cPy]
    refine callB_is (bf.lift _ _) hP en_190 (by simpa using ⟨ix, ipp⟩) .sc ?_
    cases cb : befB x p
    rotate_left
    · rw [ins_step cb] at hi
      simp -dsimp -implicitDefEqProofs [-getElem?_pos, go_sem, hP, cb, t5, wk]
      refine ⟨ag _ hH.symm, ?_⟩
      refine ⟨l.length - (k + 1), by omega, ?_⟩
      rw [hI]
      exact ⟨k + 1, by omega, rfl, by rw [hi, take_at hx]; simp, by simp -dsimp -implicitDefEqProofs [-getElem?_pos, go_sem, t2], by simp -dsimp -implicitDefEqProofs [-getElem?_pos, go_sem, t3], by simp -dsimp -implicitDefEqProofs [-getElem?_pos, go_sem, t4], by simp -dsimp -implicitDefEqProofs [-getElem?_pos, go_sem], by simp -dsimp -implicitDefEqProofs [-getElem?_pos, go_sem, hH]⟩
    · rw [ins_stop cb, ← drop_at hx] at hi
      simp -dsimp -implicitDefEqProofs [-getElem?_pos, go_sem, hP, cb, t5]
      refine ⟨ag _ hH.symm, ?_⟩
      refine ⟨_, Weaker.refl _, ?_⟩
      rw [hInv]
      exact ⟨k, hk, hi, by simp -dsimp -implicitDefEqProofs [-getElem?_pos, go_sem, t2], by simp -dsimp -implicitDefEqProofs [-getElem?_pos, go_sem, t3], by simp -dsimp -implicitDefEqProofs [-getElem?_pos, go_sem, t4], by simp -dsimp -implicitDefEqProofs [-getElem?_pos, go_sem, t5], by simp -dsimp -implicitDefEqProofs [-getElem?_pos, go_sem, hH]⟩
  · have hk : k = l.length := by omega
    have d : decide ((k : Int) < (l.length : Int)) = false := decide_eq_false (by omega)
    rw [List.drop_of_length_le (by omega), ins_nil] at hi
    simp -dsimp -implicitDefEqProofs [-getElem?_pos, go_sem, hP, t2, t5, t3, hH, d, c]
    refine ⟨_, Weaker.refl _, ?_⟩
    rw [hInv]
    exact ⟨k, by omega, by rw [hi, List.drop_of_length_le (by omega)], by simp -dsimp -implicitDefEqProofs [-getElem?_pos, go_sem, t2], by simp -dsimp -implicitDefEqProofs [-getElem?_pos, go_sem, t3], by simp -dsimp -implicitDefEqProofs [-getElem?_pos, go_sem, t4], by simp -dsimp -implicitDefEqProofs [-getElem?_pos, go_sem, t5], by simp -dsimp -implicitDefEqProofs [-getElem?_pos, go_sem, hH]⟩
set_option maxHeartbeats 1000000 in
theorem again25_pf (q : TQueue) (p : TPayment) (hf : FitQ q) : PFun Tryz.prog none none 137 [.agg q.cells, .agg p.cells] (· = .tup [.agg (againQ q p).1.cells, iv (againQ q p).2]) := by
  refine pfun_intro Tryz.func137 rfl (by simp [Tryz.f137]) (by kernel_rfl) ?_
  intro E hP hr hs hW hN
  have ck := rcheck25_pf q hf
  have iq := imm_que q
  have ipp := imm_pay p
  have ip := imm_pays q.Waiting
  have i2 := imm_ints q.Known
  have i3 := imm_bats q.Batches
  have ct := rknown_pf q p.Warrant (by have := hf.k; omega)
  have wt := rwaits_pf q p.Warrant (by have := hf.w; omega)
  have py := rpay_pf p
  have pt := put25_pf q p hf
  have iqq := imm_que ⟨ins befB q.Waiting p, q.Known, q.Batches⟩
  rw [cPy] at py
  rw [cQu] at ck iq wt ct pt
  rw [cPy] at ipp pt
  simp only [intsL] at i2 ck iq ct wt pt
  simp -dsimp -implicitDefEqProofs [-getElem?_pos, go_sem, hP, cQu, cPy, intsL]
  refine callB_is (ck.lift _ _) hP en_97 (by simpa using iq) .sc ?_
  by_cases c1 : checkQ q = 0
  rotate_left
  · have : againQ q p = (zeroQ, checkQ q) := by rw [againQ, if_neg c1]
    simp -dsimp -implicitDefEqProofs [-getElem?_pos, go_sem, hP, c1]
    refine done_zeroQ ?_
    rw [this]
  have hq := checkQ_iff.1 c1
  simp -dsimp -implicitDefEqProofs [-getElem?_pos, go_sem, hP, c1]
  refine callB_is (py.lift _ _) hP en_99 (by simpa using ipp) .sc ?_
  cases c2 : payB p
  · have : againQ q p = (zeroQ, 64) := by rw [againQ, if_pos c1, if_neg (by simp [c2])]
    simp -dsimp -implicitDefEqProofs [-getElem?_pos, go_sem, hP, c2]
    refine done_zeroQ ?_
    rw [this]
  simp -dsimp -implicitDefEqProofs [-getElem?_pos, go_sem, hP, c2]
  refine callB_is (ct.lift _ _) hP en_173 (by simpa [imm_sc] using iq) .sc ?_
  by_cases c3 : p.Warrant ∈ q.Known
  rotate_left
  · have : againQ q p = (zeroQ, 6) := by rw [againQ, if_pos c1, if_pos c2, if_neg c3]
    simp -dsimp -implicitDefEqProofs [-getElem?_pos, go_sem, hP, c2, c3]
    refine done_zeroQ ?_
    rw [this]
  simp -dsimp -implicitDefEqProofs [-getElem?_pos, go_sem, hP, c2, c3]
  refine callB_is (wt.lift _ _) hP en_106 (by simpa [imm_sc] using iq) .sc ?_
  by_cases c4 : 0 ≤ waitQ q p.Warrant
  · have d4 : decide (0 ≤ waitQ q p.Warrant) = true := decide_eq_true c4
    have : againQ q p = (zeroQ, 65) := by rw [againQ, if_pos c1, if_pos c2, if_pos c3, if_pos c4]
    simp -dsimp -implicitDefEqProofs [-getElem?_pos, go_sem, hP, d4]
    refine done_zeroQ ?_
    rw [this]
  have d4 : decide (0 ≤ waitQ q p.Warrant) = false := decide_eq_false c4
  by_cases c5 : q.Waiting.length = 100
  · have d5 : decide ((q.Waiting.length : Int) = 100) = true := decide_eq_true (by omega)
    have : againQ q p = (zeroQ, 3) := by rw [againQ, if_pos c1, if_pos c2, if_pos c3, if_neg c4, if_pos c5]
    simp -dsimp -implicitDefEqProofs [-getElem?_pos, go_sem, hP, d4, d5]
    refine done_zeroQ ?_
    rw [this]
  have d5 : decide ((q.Waiting.length : Int) = 100) = false := decide_eq_false (by omega)
  have hag : againQ q p = (⟨ins befB q.Waiting p, q.Known, q.Batches⟩, 0) := by rw [againQ, if_pos c1, if_pos c2, if_pos c3, if_neg c4, if_neg c5]
  rw [hag]
  simp -dsimp -implicitDefEqProofs [-getElem?_pos, go_sem, hP, d4, d5]
  refine callB_is (pt.lift _ _) hP en_174 (by simp [iq, ipp]) iqq ?_
  simp -dsimp -implicitDefEqProofs [-getElem?_pos, go_sem, hP, cQu, intsL]
  rw [cQu] at iqq
  exact done_imm (imm_pair iqq .sc) rfl
set_option maxHeartbeats 1000000 in
theorem drop25_pf (q : TQueue) (w : Int) (hf : FitQ q) : PFun Tryz.prog none none 138 [.agg q.cells, iv w] (· = .tup [.agg (dropQ q w).1.cells, iv (dropQ q w).2]) := by
  refine pfun_intro Tryz.func138 rfl (by simp [Tryz.f138]) (by kernel_rfl) ?_
  intro E hP hr hs hW hN
  have ck := rcheck25_pf q hf
  have iq := imm_que q
  have ip := imm_pays q.Waiting
  have i2 := imm_ints q.Known
  have i3 := imm_bats q.Batches
  have wt := rwaits_pf q w (by have := hf.w; omega)
  rw [cQu] at ck iq wt
  simp only [intsL] at i2 ck iq wt
  simp -dsimp -implicitDefEqProofs [-getElem?_pos, go_sem, hP, cQu, intsL]
  refine callB_is (ck.lift _ _) hP en_97 (by simpa using iq) .sc ?_
  by_cases c1 : checkQ q = 0
  rotate_left
  · have : dropQ q w = (zeroQ, checkQ q) := by rw [dropQ, if_neg c1]
    simp -dsimp -implicitDefEqProofs [-getElem?_pos, go_sem, hP, c1]
    refine done_zeroQ ?_
    rw [this]
  have hq := checkQ_iff.1 c1
  simp -dsimp -implicitDefEqProofs [-getElem?_pos, go_sem, hP, c1]
  refine callB_is (wt.lift _ _) hP en_106 (by simpa [imm_sc] using iq) .sc ?_
  by_cases c2 : waitQ q w < 0
  · have d2 : decide (waitQ q w < 0) = true := decide_eq_true c2
    have : dropQ q w = (zeroQ, 6) := by rw [dropQ, if_pos c1, if_pos c2]
    simp -dsimp -implicitDefEqProofs [-getElem?_pos, go_sem, hP, d2]
    refine done_zeroQ ?_
    rw [this]
  have d2 : decide (waitQ q w < 0) = false := decide_eq_false c2
  obtain ⟨i, p, hi, hip, hpw, hil⟩ := waitQ_some c2
  have hdr : dropQ q w = (⟨q.Waiting.eraseIdx i, q.Known, q.Batches⟩, 0) := by rw [dropQ, if_pos c1, if_neg c2, hi]; rfl
  rw [hdr]
  rw [hi] at d2
  have lw := hq.lw
  have w1 := wrap_in ((i : Int) + 1) (by omega)
  obtain ⟨K, hK⟩ : ∃ K, K = q.Known := ⟨_, rfl⟩
  obtain ⟨bs, hbs⟩ : ∃ bs, bs = q.Batches := ⟨_, rfl⟩
  obtain ⟨l, hl⟩ : ∃ l, l = q.Waiting := ⟨_, rfl⟩
  rw [← hK, ← hbs, ← hl]
  rw [← hl] at hil lw ip
  rw [← hK] at i2
  rw [← hbs] at i3
  simp -dsimp -implicitDefEqProofs [-getElem?_pos, go_sem, hP, hi, d2]
  refine adrawB (fun i => decide (i < 2)) [12] hP (by kernel_rfl) (by kernel_rfl) ?_
  have D : ∀ i, decide (i < 2) = true → i = 0 ∨ i = 1 := fun i hi => by
    simp only [decide_eq_true_eq] at hi
    omega
  obtain ⟨A, hA⟩ : ∃ A, A = l.take i := ⟨_, rfl⟩
  obtain ⟨B, hB⟩ : ∃ B, B = l.drop (i + 1) := ⟨_, rfl⟩
  have lA : A.length = i := by rw [hA, List.length_take]; omega
  have lB : B.length = l.length - (i + 1) := by rw [hB, List.length_drop]
  have he : l.eraseIdx i = A ++ B := by rw [hA, hB]; exact List.eraseIdx_eq_take_drop_succ _ _
  have g1 : i ≤ l.length := by omega
  have g2 : (i : Int) + 1 ≤ l.length := by omega
  have g3 : (0 : Int) ≤ (i : Int) + 1 := by omega
  have g4 : ((i : Int) + 1).toNat = i + 1 := by omega
  simp -dsimp -implicitDefEqProofs [-getElem?_pos, go_sem, hP, hi, asliceOp, bound, aslice, ← hl, w1, g1, g2, g3, g4, encL_takeE, encL_dropE, ← hA, ← hB, lA, lB]
  refine ⟨by omega, by omega, fun i hi => ?_, by omega, by omega, fun i hi => ?_, ?_⟩
  · rcases D i hi with rfl | rfl <;> rfl
  · rcases D i hi with rfl | rfl <;> rfl
  refine done_agg2 (cs' := (TQueue.mk (l.eraseIdx i) K bs).cells) ?_ rfl
  refine cw_sref (ty := 99) (es := encL TPayment.cells (l.eraseIdx i)) ?_ (by rw [encL_len, he, List.length_append]; omega) (imm_pays _) (cw_imm i2 (cw_imm i3 .nil))
  simp -dsimp -implicitDefEqProofs [-getElem?_pos, go_sem, he, encL_appE]
set_option maxHeartbeats 1000000 in
theorem add25_pf (q : TQueue) (p : TPayment) (hf : FitQ q) : PFun Tryz.prog none none 135 [.agg q.cells, .agg p.cells] (· = .tup [.agg (addQ q p).1.cells, iv (addQ q p).2]) := by
  refine pfun_introA Tryz.func135 rfl (by simp [Tryz.f135]) ?_
  intro E hP hr hs hW hN
  have ck := rcheck25_pf q hf
  have iq := imm_que q
  have ipp := imm_pay p
  have ip := imm_pays q.Waiting
  have i2 := imm_ints q.Known
  have i3 := imm_bats q.Batches
  have ct := rknown_pf q p.Warrant (by have := hf.k; omega)
  have py := rpay_pf p
  have pt : checkQ q = 0 → _ := fun c => put25_pf ⟨q.Waiting, ins ltB q.Known p.Warrant, q.Batches⟩ p ⟨hf.w, by have := (checkQ_iff.1 c).lk; simp only [ins_len]; omega, hf.b, hf.each⟩
  have iq2 := imm_que ⟨q.Waiting, ins ltB q.Known p.Warrant, q.Batches⟩
  have iqq := imm_que ⟨ins befB q.Waiting p, ins ltB q.Known p.Warrant, q.Batches⟩
  rw [cPy] at py
  simp only [cQu, cPy, intsL] at ck iq iq2 ct pt ipp iqq i2
  refine awp_cut (by rw [hN]; kernel_rfl) ?_
  simp -dsimp -implicitDefEqProofs [-getElem?_pos, go_sem, hP, cQu, cPy, intsL]
  refine awp_cut (by rw [hN]; kernel_rfl) ?_
  simp -dsimp -implicitDefEqProofs [-getElem?_pos, go_sem, hP]
  refine callB_is (ck.lift _ _) hP en_97 (by simpa using iq) .sc ?_
  by_cases c1 : checkQ q = 0
  rotate_left
  · have : addQ q p = (zeroQ, checkQ q) := by rw [addQ, if_neg c1]
    simp -dsimp -implicitDefEqProofs [-getElem?_pos, go_sem, hP, c1]
    refine done_zeroQ ?_
    rw [this]; rfl
  have hq := checkQ_iff.1 c1
  have pt := pt c1
  simp -dsimp -implicitDefEqProofs [-getElem?_pos, go_sem, hP, c1]
  refine awp_cut (by rw [hN]; kernel_rfl) ?_
  simp -dsimp -implicitDefEqProofs [-getElem?_pos, go_sem, hP]
  refine callB_is (py.lift _ _) hP en_99 (by simpa using ipp) .sc ?_
  cases c2 : payB p
  · have : addQ q p = (zeroQ, 64) := by rw [addQ, if_pos c1, if_neg (by simp [c2])]
    simp -dsimp -implicitDefEqProofs [-getElem?_pos, go_sem, hP, c2]
    refine done_zeroQ ?_
    rw [this]; rfl
  simp -dsimp -implicitDefEqProofs [-getElem?_pos, go_sem, hP, c2]
  refine callB_is (ct.lift _ _) hP en_173 (by simpa [imm_sc] using iq) .sc ?_
  by_cases c3 : p.Warrant ∈ q.Known
  · have : addQ q p = (zeroQ, 65) := by rw [addQ, if_pos c1, if_pos c2, if_pos c3]
    simp -dsimp -implicitDefEqProofs [-getElem?_pos, go_sem, hP, c2, c3]
    refine done_zeroQ ?_
    rw [this]; rfl
  by_cases c4 : q.Waiting.length = 100
  · have d4 : decide ((q.Waiting.length : Int) = 100) = true := decide_eq_true (by omega)
    have : addQ q p = (zeroQ, 3) := by rw [addQ, if_pos c1, if_pos c2, if_neg c3, if_pos (.inl c4)]
    simp -dsimp -implicitDefEqProofs [-getElem?_pos, go_sem, hP, c2, c3, d4]
    refine done_zeroQ ?_
    rw [this]; rfl
  have d4 : decide ((q.Waiting.length : Int) = 100) = false := decide_eq_false (by omega)
  by_cases c5 : q.Known.length = 200
  · have d5 : decide ((q.Known.length : Int) = 200) = true := decide_eq_true (by omega)
    have : addQ q p = (zeroQ, 3) := by rw [addQ, if_pos c1, if_pos c2, if_neg c3, if_pos (.inr c5)]
    simp -dsimp -implicitDefEqProofs [-getElem?_pos, go_sem, hP, c2, c3, d4, d5]
    refine done_zeroQ ?_
    rw [this]; rfl
  have d5 : decide ((q.Known.length : Int) = 200) = false := decide_eq_false (by omega)
  have hadd : addQ q p = (⟨ins befB q.Waiting p, ins ltB q.Known p.Warrant, q.Batches⟩, 0) := by rw [addQ, if_pos c1, if_pos c2, if_neg c3, if_neg (by omega)]
  rw [hadd]
  simp -dsimp -implicitDefEqProofs [-getElem?_pos, go_sem, hP, c2, c3, d4, d5]
  refine awp_cut (by rw [hN]; kernel_rfl) ?_
  simp -dsimp -implicitDefEqProofs [-getElem?_pos, go_sem, hP]
  obtain ⟨l, hl⟩ : ∃ l, l = q.Known := ⟨_, rfl⟩
  obtain ⟨W, hWt⟩ : ∃ W, W = q.Waiting := ⟨_, rfl⟩
  obtain ⟨bs, hbs⟩ : ∃ bs, bs = q.Batches := ⟨_, rfl⟩
  have lw : l.length ≤ 100000 := by rw [hl]; exact hf.k
  simp only [← hl, ← hWt, ← hbs] at *
  obtain ⟨Inv, hInv⟩ : ∃ Inv : St → Prop, Inv = fun s => ∃ k : Nat, k ≤ l.length ∧ ins ltB l p.Warrant = l.take k ++ p.Warrant :: l.drop k ∧ s.t 2 = .ref 0 0 0 ∧ s.t 3 = .ref 1 0 0 ∧ s.t 4 = .ref 2 0 0 ∧ s.t 7 = iv k ∧ s.H = [some ⟨32, 3, [[paysL W, .list 1 (l.map fun x => [iv x]), batsL bs]]⟩, some ⟨99, 5, [[iv p.Warrant, iv p.Payee, iv p.Amount, iv p.Due, iv p.Sub]]⟩, some ⟨32, 3, [[.nil, .nil, .nil]]⟩] := ⟨_, rfl⟩
  refine awp_join Inv (by rw [hN]; kernel_rfl) ?_ ?_
  rotate_left
  · intro s hs'
    rw [hInv] at hs'
    obtain ⟨k, hk, hi, t2, t3, t4, t7, hH⟩ := hs'
    refine awp_sound _ _ _ (by rw [hN]; kernel_rfl) ?_
    simp -dsimp -implicitDefEqProofs [-getElem?_pos, go_sem, hP]
    refine adrawB (fun i => decide (i < 3)) [15] hP (by kernel_rfl) (by kernel_rfl) ?_
    have D : ∀ i, decide (i < 3) = true → i = 0 ∨ i = 1 ∨ i = 2 := fun i hi => by
      simp only [decide_eq_true_eq] at hi
      omega
    obtain ⟨A, hA⟩ : ∃ A, A = l.take k := ⟨_, rfl⟩
    obtain ⟨B, hB⟩ : ∃ B, B = l.drop k := ⟨_, rfl⟩
    have lA : A.length = k := by rw [hA, List.length_take]; omega
    have lB : B.length = l.length - k := by rw [hB, List.length_drop]
    have eA : (l.map fun x => [iv x]).take k = A.map fun x => [iv x] := by rw [hA, List.map_take]
    have eB : (l.map fun x => [iv x]).drop k = B.map fun x => [iv x] := by rw [hB, List.map_drop]
    rw [← hA, ← hB] at hi
    simp -dsimp -implicitDefEqProofs [-getElem?_pos, go_sem, hP, t2, t3, t7, hH, asliceOp, bound, aslice, hk, eA, eB, lA, lB]
    refine ⟨by omega, by omega, fun i hi => ?_, by omega, by omega, fun i hi => ?_, by omega, by omega, fun i hi => ?_, ?_⟩
    · rcases D i hi with rfl | rfl | rfl <;> rfl
    · rcases D i hi with rfl | rfl | rfl <;> rfl
    · rcases D i hi with rfl | rfl | rfl <;> rfl
    have eAB : (A.map fun x => [iv x]) ++ [iv p.Warrant] :: (B.map fun x => [iv x]) = intRows (ins ltB l p.Warrant) := by rw [hi]; simp [intRows]
    have lI : k + 1 + (l.length - k) = (intRows (ins ltB l p.Warrant)).length := by rw [intRows_len, ins_len]; omega
    rw [eAB]
    generalize hH6 : (_ :: _ : Heap) = H6
    have b5 : H6[5]? = some (some ⟨3, 1, intRows (ins ltB l p.Warrant)⟩) := by rw [← hH6]; rfl
    have b2 : H6[2]? = some (some ⟨32, 3, [[.nil, .nil, .nil]]⟩) := by rw [← hH6]; rfl
    refine callB_frz (pt.lift _ _) hP hW en_174 (args_agg (cw_imm ip (cw_sref b5 lI (imm_ints _) (cw_imm i3 .nil))) (args_imm ipp (args_nil.2 trivial))) iqq ?_
    generalize hH7 : killAll _ H6 = H7
    have f2 : H7[2]? = some (some ⟨32, 3, [[.nil, .nil, .nil]]⟩) := by
      rw [← hH7]
      show (H6.set 5 none)[2]? = _
      rw [List.getElem?_set_ne (by omega), b2]
    have lt2 := (List.getElem?_eq_some_iff.1 f2).1
    simp -dsimp -implicitDefEqProofs [-getElem?_pos, go_sem, hP, t4, f2, lt2]
    exact done_imm (imm_pair iqq .sc) rfl
  simp -dsimp -implicitDefEqProofs [-getElem?_pos, go_sem, hP]
  obtain ⟨I, hI⟩ : ∃ I : Nat → St → Prop, I = fun m s => ∃ k : Nat, k ≤ l.length ∧ m = l.length - k ∧ ins ltB l p.Warrant = l.take k ++ ins ltB (l.drop k) p.Warrant ∧ s.t 2 = .ref 0 0 0 ∧ s.t 3 = .ref 1 0 0 ∧ s.t 4 = .ref 2 0 0 ∧ s.t 7 = iv k ∧ s.H = [some ⟨32, 3, [[paysL W, .list 1 (l.map fun x => [iv x]), batsL bs]]⟩, some ⟨99, 5, [[iv p.Warrant, iv p.Payee, iv p.Amount, iv p.Due, iv p.Sub]]⟩, some ⟨32, 3, [[.nil, .nil, .nil]]⟩] := ⟨_, rfl⟩
  refine aloop0 I (l.length) (by rw [hN]; rfl) ?_ ?_
  · rw [hI]
    exact ⟨0, by omega, by omega, by simp, by simp -dsimp -implicitDefEqProofs [-getElem?_pos, go_sem], by simp -dsimp -implicitDefEqProofs [-getElem?_pos, go_sem], by simp -dsimp -implicitDefEqProofs [-getElem?_pos, go_sem], by simp -dsimp -implicitDefEqProofs [-getElem?_pos, go_sem], by simp -dsimp -implicitDefEqProofs [-getElem?_pos, go_sem]⟩
  intro m s hs'
  rw [hI] at hs'
  obtain ⟨k, hk, hm, hi, t2, t3, t4, t7, hH⟩ := hs'
  simp -dsimp -implicitDefEqProofs [-getElem?_pos, go_sem, hP]
  refine adrawB (fun _ => true) [] hP (by kernel_rfl) (by kernel_rfl) ?_
  by_cases c : k < l.length
  · obtain ⟨x, hx⟩ : ∃ x, l[k]? = some x := ⟨_, List.getElem?_eq_getElem c⟩
    have d : decide ((k : Int) < (l.length : Int)) = true := decide_eq_true (by omega)
    rw [drop_at hx] at hi
    have wk := wrap_in ((k : Int) + 1) (by omega)
    by_cases cb : x < p.Warrant
    · have db : decide (x < p.Warrant) = true := decide_eq_true cb
      rw [ins_step ((ltB_lt _ _).2 cb)] at hi
      simp -dsimp -implicitDefEqProofs [-getElem?_pos, go_sem, hP, t2, t7, t3, hH, d, c, hx, db, wk]
      refine ⟨l.length - (k + 1), by omega, ?_⟩
      rw [hI]
      exact ⟨k + 1, by omega, rfl, by rw [hi, take_at hx]; simp, by simp -dsimp -implicitDefEqProofs [-getElem?_pos, go_sem, t2], by simp -dsimp -implicitDefEqProofs [-getElem?_pos, go_sem, t3], by simp -dsimp -implicitDefEqProofs [-getElem?_pos, go_sem, t4], by simp -dsimp -implicitDefEqProofs [-getElem?_pos, go_sem], by simp -dsimp -implicitDefEqProofs [-getElem?_pos, go_sem, hH]⟩
    · have db : decide (x < p.Warrant) = false := decide_eq_false cb
      rw [ins_stop (show ltB x p.Warrant = false from db), ← drop_at hx] at hi
      simp -dsimp -implicitDefEqProofs [-getElem?_pos, go_sem, hP, t2, t7, t3, hH, d, c, hx, db]
      refine ⟨_, Weaker.refl _, ?_⟩
      rw [hInv]
      exact ⟨k, hk, hi, by simp -dsimp -implicitDefEqProofs [-getElem?_pos, go_sem, t2], by simp -dsimp -implicitDefEqProofs [-getElem?_pos, go_sem, t3], by simp -dsimp -implicitDefEqProofs [-getElem?_pos, go_sem, t4], by simp -dsimp -implicitDefEqProofs [-getElem?_pos, go_sem, t7], by simp -dsimp -implicitDefEqProofs [-getElem?_pos, go_sem, hH]⟩
  · have hk : k = l.length := by omega
    have d : decide ((k : Int) < (l.length : Int)) = false := decide_eq_false (by omega)
    rw [List.drop_of_length_le (by omega), ins_nil] at hi
    simp -dsimp -implicitDefEqProofs [-getElem?_pos, go_sem, hP, t2, t7, t3, hH, d, c]
    refine ⟨_, Weaker.refl _, ?_⟩
    rw [hInv]
    exact ⟨k, by omega, by rw [hi, List.drop_of_length_le (by omega)], by simp -dsimp -implicitDefEqProofs [-getElem?_pos, go_sem, t2], by simp -dsimp -implicitDefEqProofs [-getElem?_pos, go_sem, t3], by simp -dsimp -implicitDefEqProofs [-getElem?_pos, go_sem, t4], by simp -dsimp -implicitDefEqProofs [-getElem?_pos, go_sem, t7], by simp -dsimp -implicitDefEqProofs [-getElem?_pos, go_sem, hH]⟩
open Go.PA
open Go.RowKit
open Go.PA
open Go.RowKit
set_option maxHeartbeats 4000000 in
theorem take25_pf (q : TQueue) (day : Int) (ws : List Int) (hf : FitQ q) (hw : ws.length ≤ 100000) : PFun Tryz.prog none none 50 [.agg q.cells, iv day, intsL ws] (· = .tup [.agg (takeQ q day ws).1.cells, .agg (takeQ q day ws).2.1.cells, iv (takeQ q day ws).2.2]) := by
  refine pfun_introA Tryz.func50 rfl (by simp [Tryz.f50]) ?_
  intro E hP hr hs hW hN
  have ck := rcheck25_pf q hf
  have iq := imm_que q
  have ip := imm_pays q.Waiting
  have i2 := imm_ints q.Known
  have i3 := imm_bats q.Batches
  have iw := imm_ints ws
  have lb := hf.b
  have lw := hf.w
  rw [cQu] at ck iq
  simp only [intsL] at i2 ck iq iw
  refine awp_cut (by rw [hN]; kernel_rfl) ?_
  simp -dsimp -implicitDefEqProofs [-getElem?_pos, go_sem, hP, cQu, intsL]
  refine awp_cut (by rw [hN]; kernel_rfl) ?_
  simp -dsimp -implicitDefEqProofs [-getElem?_pos, go_sem, hP]
  refine callB_is (ck.lift _ _) hP en_97 (by simpa using iq) .sc ?_
  by_cases c1 : checkQ q = 0
  rotate_left
  · have : takeQ q day ws = (zeroQ, zeroB, checkQ q) := by rw [takeQ, if_neg c1]
    simp -dsimp -implicitDefEqProofs [-getElem?_pos, go_sem, hP, c1]
    refine done_zeroQ3 ?_
    rw [this]; rfl
  have hq := checkQ_iff.1 c1
  simp -dsimp -implicitDefEqProofs [-getElem?_pos, go_sem, hP, c1]
  refine awp_cut (by rw [hN]; kernel_rfl) ?_
  simp -dsimp -implicitDefEqProofs [-getElem?_pos, go_sem, hP]
  obtain ⟨Inv, hInv⟩ : ∃ Inv : St → Prop, Inv = fun s => busB day = true ∧ ¬ day < lastQ q ∧ ¬ ws.length = 0 ∧ ¬ 10 < ws.length ∧ ¬ 200 ≤ q.Batches.length ∧ s.t 1 = iv day ∧ s.t 2 = .list 1 (ws.map fun x => [iv x]) ∧ s.t 3 = .ref 0 0 0 ∧ s.t 6 = .ref 1 0 0 ∧ s.t 7 = .ref 2 0 0 ∧ s.t 10 = iv q.Batches.length ∧ s.H = [some ⟨32, 3, [[paysL q.Waiting, .list 1 (q.Known.map fun x => [iv x]), batsL q.Batches]]⟩, some ⟨32, 3, [[.nil, .nil, .nil]]⟩, some ⟨45, 3, [[iv 0, iv 0, .nil]]⟩] := ⟨_, rfl⟩
  refine awp_join Inv (by rw [hN]; kernel_rfl) ?_ ?_
  rotate_left
  · intro s hs'
    rw [hInv] at hs'
    obtain ⟨c2, c3, c4, c5, c6, t1, t2, t3, t6, t7, t10, hH⟩ := hs'
    have wl := wrap_in ((q.Batches.length : Int) + 1) (by omega)
    have f6 : dueB q day ws = false → takeQ q day ws = (zeroQ, zeroB, 6) := fun h => by rw [takeQ, if_pos c1, if_pos c2, if_neg c3, if_neg c4, if_neg (by omega), if_neg (by simp [h])]
    refine awp_cut (by rw [hN]; kernel_rfl) ?_
    simp -dsimp -implicitDefEqProofs [-getElem?_pos, go_sem, hP, t10, t1, wl, hH]
    obtain ⟨Inv1, hInv1⟩ : ∃ Inv : St → Prop, Inv = fun s => dueB q day ws = true ∧ s.t 1 = iv day ∧ s.t 2 = .list 1 (ws.map fun x => [iv x]) ∧ s.t 3 = .ref 0 0 0 ∧ s.t 6 = .ref 1 0 0 ∧ s.t 7 = .ref 2 0 0 ∧ s.t 11 = .ref 3 0 0 ∧ s.H = [some ⟨32, 3, [[paysL q.Waiting, .list 1 (q.Known.map fun x => [iv x]), batsL q.Batches]]⟩, some ⟨32, 3, [[.nil, .nil, .nil]]⟩, some ⟨45, 3, [[iv 0, iv 0, .nil]]⟩, some ⟨45, 3, [[iv ((q.Batches.length : Int) + 1), iv day, .nil]]⟩] := ⟨_, rfl⟩
    refine awp_join Inv1 (by rw [hN]; kernel_rfl) ?_ ?_
    rotate_left
    · intro s hs'
      rw [hInv1] at hs'
      obtain ⟨hdue, t1, t2, t3, t6, t7, t11, hH⟩ := hs'
      have htk : takeQ q day ws = (⟨q.Waiting.filter (fun p => !takenB ws p), q.Known, q.Batches ++ [takeB q day ws]⟩, takeB q day ws, 0) := by rw [takeQ, if_pos c1, if_pos c2, if_neg c3, if_neg c4, if_neg (by omega), if_pos hdue]
      rw [htk, takeB]
      obtain ⟨W, hWt⟩ : ∃ W, W = q.Waiting := ⟨_, rfl⟩
      obtain ⟨Kn, hKn⟩ : ∃ Kn, Kn = q.Known := ⟨_, rfl⟩
      obtain ⟨bs, hbs⟩ : ∃ bs, bs = q.Batches := ⟨_, rfl⟩
      rw [← hWt, ← hKn, ← hbs] at hH ⊢
      rw [← hWt] at lw ip
      rw [← hbs] at lb i3 wl
      rw [← hKn] at i2
      refine awp_cut (by rw [hN]; kernel_rfl) ?_
      simp -dsimp -implicitDefEqProofs [-getElem?_pos, go_sem, hP]
      obtain ⟨Inv2, hInv2⟩ : ∃ Inv : St → Prop, Inv = fun s => ∃ (id : Nat) (ys zs : List TPayment), ys = W.filter (fun p => !takenB ws p) ∧ zs = W.filter (takenB ws) ∧ 4 ≤ id ∧ s.t 1 = iv day ∧ s.t 3 = .ref 0 0 0 ∧ s.t 6 = .ref 1 0 0 ∧ s.t 7 = .ref 2 0 0 ∧ s.t 11 = .ref 3 0 0 ∧ s.t 17 = .sref id 0 ys.length ∧ s.H[0]? = some (some ⟨32, 3, [[paysL W, .list 1 (Kn.map fun x => [iv x]), batsL bs]]⟩) ∧ s.H[1]? = some (some ⟨32, 3, [[.nil, .nil, .nil]]⟩) ∧ s.H[2]? = some (some ⟨45, 3, [[iv 0, iv 0, .nil]]⟩) ∧ s.H[3]? = some (some ⟨45, 3, [[iv ((bs.length : Int) + 1), iv day, paysL zs]]⟩) ∧ s.H[id]? = some (some ⟨99, 5, encL TPayment.cells ys⟩) := ⟨_, rfl⟩
      refine awp_join Inv2 (by rw [hN]; kernel_rfl) ?_ ?_
      rotate_left
      · intro s hs'
        rw [hInv2] at hs'
        obtain ⟨id, ys, zs, hys, hzs, hid, t1, t3, t6, t7, t11, t17, h0, h1, h2, h3, hi⟩ := hs'
        have lt0 := (List.getElem?_eq_some_iff.1 h0).1
        have lt1 := (List.getElem?_eq_some_iff.1 h1).1
        have lt2 := (List.getElem?_eq_some_iff.1 h2).1
        have lt3 := (List.getElem?_eq_some_iff.1 h3).1
        have lti := (List.getElem?_eq_some_iff.1 hi).1
        refine awp_sound _ _ _ (by rw [hN]; kernel_rfl) ?_
        simp -dsimp -implicitDefEqProofs [-getElem?_pos, go_sem, hP, t17, t3, h0, lt0]
        refine adrawB (fun i => decide (i < 4)) [7] hP (by kernel_rfl) (by kernel_rfl) ?_
        have D : ∀ i, decide (i < 4) = true → i < 4 := fun i hi => by simpa using hi
        simp -dsimp -implicitDefEqProofs [-getElem?_pos, go_sem, hP, t3, t11, h3, lt3, lt0]
        refine ⟨by omega, by omega, fun i hi => ?_, by omega, by omega, fun i hi => ?_, ?_⟩
        · have := D i hi
          rw [List.getElem?_append_left (by simp; omega)]
        · have := D i hi
          rw [List.getElem?_append_left (by simp; omega), List.getElem?_append_left (by simp; omega)]
        have en : encL TBatch.cells bs ++ [[iv ((bs.length : Int) + 1), iv day, paysL zs]] = encL TBatch.cells (bs ++ [⟨bs.length + 1, day, zs⟩]) := encL_snoc TBatch.cells bs ⟨bs.length + 1, day, zs⟩
        rw [en]
        generalize hH9 : (_ ++ _ : Heap) = H9
        obtain ⟨b', hb'⟩ : ∃ b', b' = s.H.length + 1 := ⟨_, rfl⟩
        have y0 : H9[0]? = some (some ⟨32, 3, [[.sref id 0 ys.length, .list 1 (Kn.map fun x => [iv x]), .sref b' 0 (bs.length + 1)]]⟩) := by rw [← hH9, List.getElem?_append_left (by simp; omega), List.getElem?_set_self lt0, hb']
        have y1 : H9[1]? = s.H[1]? := by rw [← hH9, List.getElem?_append_left (by simp; omega), List.getElem?_set_ne (by omega)]
        have y2 : H9[2]? = s.H[2]? := by rw [← hH9, List.getElem?_append_left (by simp; omega), List.getElem?_set_ne (by omega)]
        have y3 : H9[3]? = s.H[3]? := by rw [← hH9, List.getElem?_append_left (by simp; omega), List.getElem?_set_ne (by omega)]
        have yi : H9[id]? = s.H[id]? := by rw [← hH9, List.getElem?_append_left (by simp; omega), List.getElem?_set_ne (by omega)]
        have yb : H9[b']? = some (some ⟨45, 3, encL TBatch.cells (bs ++ [⟨bs.length + 1, day, zs⟩])⟩) := by rw [← hH9, hb', List.getElem?_append_right (by simp)]; simp
        rw [h1] at y1
        rw [h2] at y2
        rw [h3] at y3
        rw [hi] at yi
        clear hH9
        have r0 := (List.getElem?_eq_some_iff.1 y0).1
        have r1 := (List.getElem?_eq_some_iff.1 y1).1
        have r2 := (List.getElem?_eq_some_iff.1 y2).1
        have r3 := (List.getElem?_eq_some_iff.1 y3).1
        refine adrawB (fun i => decide (i = 0) || decide (i = 3)) [] hP (by kernel_rfl) (by kernel_rfl) ?_
        simp -dsimp -implicitDefEqProofs [-getElem?_pos, go_sem, hP, t3, t11, t6, t7, y0, y1, y2, y3, r0, r1, r2, r3]
        refine ⟨fun i hi => ?_, fun i hi => ?_, ?_⟩
        · simp only [Bool.or_eq_true, decide_eq_true_eq] at hi
          rw [List.getElem?_set_ne (by omega)]
        · simp only [Bool.or_eq_true, decide_eq_true_eq] at hi
          rw [List.getElem?_set_ne (by omega)]
        have iB := imm_bat ⟨bs.length + 1, day, zs⟩
        refine done_trip (cs' := (TQueue.mk ys Kn (bs ++ [⟨bs.length + 1, day, zs⟩])).cells) (ds' := (TBatch.mk (bs.length + 1) day zs).cells) ?_ (cw_immL (imm_agg.1 iB)) (by rw [hys, hzs]; rfl)
        refine cw_sref (ty := 99) (es := encL TPayment.cells ys) ?_ (by rw [encL_len]) (imm_pays _) (cw_imm i2 (cw_sref (ty := 45) (es := encL TBatch.cells (bs ++ [⟨bs.length + 1, day, zs⟩])) ?_ (by rw [encL_len]; simp) (imm_bats _) .nil))
        · rw [List.getElem?_set_ne (by omega), List.getElem?_set_ne (by omega), yi]
        · rw [List.getElem?_set_ne (by omega), List.getElem?_set_ne (by omega), yb]
      have zne : W.filter (takenB ws) ≠ [] := fun h => by
        have := taken_len hq.asc.nd hdue
        rw [← hWt, h] at this
        exact c4 this.symm
      simp -dsimp -implicitDefEqProofs [-getElem?_pos, go_sem, hP, t3, hH]
      refine aloop_own 17 99 5 (by simp -dsimp -implicitDefEqProofs [-getElem?_pos, go_sem]) ?_
      obtain ⟨I, hI⟩ : ∃ I : Nat → St → Prop, I = fun m s => ∃ (k id : Nat) (x : AV) (ys zs : List TPayment), k ≤ W.length ∧ m = W.length - k ∧ ys = (W.take k).filter (fun p => !takenB ws p) ∧ zs = (W.take k).filter (takenB ws) ∧ ys.length ≤ k ∧ zs.length ≤ k ∧ 4 ≤ id ∧ s.t 1 = iv day ∧ s.t 2 = .list 1 (ws.map fun x => [iv x]) ∧ s.t 3 = .ref 0 0 0 ∧ s.t 6 = .ref 1 0 0 ∧ s.t 7 = .ref 2 0 0 ∧ s.t 11 = .ref 3 0 0 ∧ s.t 123 = paysL W ∧ s.t 124 = iv W.length ∧ s.t 125 = iv k ∧ s.t 17 = .sref id 0 ys.length ∧ s.H[0]? = some (some ⟨32, 3, [[paysL W, .list 1 (Kn.map fun x => [iv x]), batsL bs]]⟩) ∧ s.H[1]? = some (some ⟨32, 3, [[.nil, .nil, .nil]]⟩) ∧ s.H[2]? = some (some ⟨45, 3, [[iv 0, iv 0, .nil]]⟩) ∧ s.H[3]? = some (some ⟨45, 3, [[iv ((bs.length : Int) + 1), iv day, x]]⟩) ∧ s.H[id]? = some (some ⟨99, 5, encL TPayment.cells ys⟩) ∧ ((x = .nil ∧ zs = []) ∨ ∃ jd, 4 ≤ jd ∧ jd ≠ id ∧ x = .sref jd 0 zs.length ∧ s.H[jd]? = some (some ⟨99, 5, encL TPayment.cells zs⟩)) := ⟨_, rfl⟩
      refine aloop0 I (W.length) (by rw [hN]; rfl) ?_ ?_
      · rw [hI]
        exact ⟨0, 4, .nil, [], [], by omega, by omega, by simp, by simp, by simp, by simp, by omega, by simp -dsimp -implicitDefEqProofs [-getElem?_pos, go_sem, t1], by simp -dsimp -implicitDefEqProofs [-getElem?_pos, go_sem, t2], by simp -dsimp -implicitDefEqProofs [-getElem?_pos, go_sem, t3], by simp -dsimp -implicitDefEqProofs [-getElem?_pos, go_sem, t6], by simp -dsimp -implicitDefEqProofs [-getElem?_pos, go_sem, t7], by simp -dsimp -implicitDefEqProofs [-getElem?_pos, go_sem, t11], by simp -dsimp -implicitDefEqProofs [-getElem?_pos, go_sem], by simp -dsimp -implicitDefEqProofs [-getElem?_pos, go_sem], by simp -dsimp -implicitDefEqProofs [-getElem?_pos, go_sem], by simp -dsimp -implicitDefEqProofs [-getElem?_pos, go_sem, hH], by simp -dsimp -implicitDefEqProofs [-getElem?_pos, go_sem, hH], by simp -dsimp -implicitDefEqProofs [-getElem?_pos, go_sem, hH], by simp -dsimp -implicitDefEqProofs [-getElem?_pos, go_sem, hH], by simp -dsimp -implicitDefEqProofs [-getElem?_pos, go_sem, hH], by simp -dsimp -implicitDefEqProofs [-getElem?_pos, go_sem, hH], .inl ⟨rfl, rfl⟩⟩
      clear t1 t2 t3 t6 t7 t11 hH
      intro m s hs'
      rw [hI] at hs'
      obtain ⟨k, id, x, ys, zs, hk, hm, hys, hzs, hyl, hzl, hid, t1, t2, t3, t6, t7, t11, t123, t124, t125, t17, h0, h1, h2, h3, hi, hx⟩ := hs'
      have lt0 := (List.getElem?_eq_some_iff.1 h0).1
      have lt3 := (List.getElem?_eq_some_iff.1 h3).1
      have lti := (List.getElem?_eq_some_iff.1 hi).1
      simp -dsimp -implicitDefEqProofs [-getElem?_pos, go_sem, hP, t124, t125]
      refine condP (fun hh => ?_) (fun hh => ?_)
      rotate_left
      · have hk : k = W.length := by simp at hh; omega
        subst hk
        rw [List.take_length] at hys hzs
        rcases hx with ⟨rfl, hx⟩ | ⟨jd, hj4, hji, rfl, hjo⟩
        · exact absurd (hzs ▸ hx) zne
        have ltj := (List.getElem?_eq_some_iff.1 hjo).1
        simp -dsimp -implicitDefEqProofs [-getElem?_pos, go_sem, hP]
        refine ⟨_, weaker_frzcell (o := 3) (id := jd) (r := 0) (c := 2) (ty := 45) (k := 3) (es := [[iv ((bs.length : Int) + 1), iv day, .sref jd 0 zs.length]]) (e := [iv ((bs.length : Int) + 1), iv day, .sref jd 0 zs.length]) (ty' := 99) (kk := 5) (fs := encL TPayment.cells zs) (n := zs.length) hW (by simp -dsimp -implicitDefEqProofs [-getElem?_pos, go_sem, h3]) (by omega) rfl rfl (by simp -dsimp -implicitDefEqProofs [-getElem?_pos, go_sem, hjo]) (by rw [encL_len]) (imm_pays _) (by omega), ?_⟩
        rw [hInv2]
        refine ⟨id, ys, zs, hys, hzs, hid, by simp -dsimp -implicitDefEqProofs [-getElem?_pos, go_sem, t1], by simp -dsimp -implicitDefEqProofs [-getElem?_pos, go_sem, t3], by simp -dsimp -implicitDefEqProofs [-getElem?_pos, go_sem, t6], by simp -dsimp -implicitDefEqProofs [-getElem?_pos, go_sem, t7], by simp -dsimp -implicitDefEqProofs [-getElem?_pos, go_sem, t11], by simp -dsimp -implicitDefEqProofs [-getElem?_pos, go_sem, t17], ?_, ?_, ?_, ?_, ?_⟩
        · dsimp only
          rw [List.getElem?_set_ne (by omega), List.getElem?_set_ne (by omega), h0]
        · dsimp only
          rw [List.getElem?_set_ne (by omega), List.getElem?_set_ne (by omega), h1]
        · dsimp only
          rw [List.getElem?_set_ne (by omega), List.getElem?_set_ne (by omega), h2]
        · dsimp only
          rw [List.getElem?_set_self (by simp; omega)]
          rfl
        · dsimp only
          rw [List.getElem?_set_ne (by omega), List.getElem?_set_ne (by omega), hi]
      have hk : k < W.length := by simpa using hh
      obtain ⟨p, hp⟩ : ∃ p, W[k]? = some p := ⟨_, List.getElem?_eq_getElem hk⟩
      have wk := wrap_in ((k : Int) + 1) (by omega)
      have ny : (W.take (k + 1)).filter (fun p => !takenB ws p) = if takenB ws p then ys else ys ++ [p] := by
        rw [take_at hp, List.filter_append, ← hys]
        cases ht : takenB ws p <;> simp [ht]
      have nz : (W.take (k + 1)).filter (takenB ws) = if takenB ws p then zs ++ [p] else zs := by
        rw [take_at hp, List.filter_append, ← hzs]
        cases ht : takenB ws p <;> simp [ht]
      simp -dsimp -implicitDefEqProofs [-getElem?_pos, go_sem, hP, t125, t123, hp, cPy, t2]
      generalize hH1 : s.H ++ _ = H1
      obtain ⟨n, hn⟩ : ∃ n, n = s.H.length := ⟨_, rfl⟩
      have kk : Kept [] s.H H1 := by rw [← hH1]; exact kept_app _ _ _
      have ep : H1[n]? = some (some ⟨99, 5, [[iv p.Warrant, iv p.Payee, iv p.Amount, iv p.Due, iv p.Sub]]⟩) := by rw [← hH1, hn]; simp
      have e0 := kk _ _ (by simp) h0
      have e1 := kk _ _ (by simp) h1
      have e2 := kk _ _ (by simp) h2
      have e3 := kk _ _ (by simp) h3
      have ei := kk _ _ (by simp) hi
      have ltp := (List.getElem?_eq_some_iff.1 ep).1
      have ll1 : H1.length = n + 1 := by rw [← hH1, hn]; simp
      obtain ⟨J, hJ⟩ : ∃ I : Nat → St → Prop, I = fun m s => ∃ (j : Nat), j ≤ ws.length ∧ m = ws.length - j ∧ s.t 20 = bv (decide (p.Warrant ∈ ws.take j)) ∧ s.t 1 = iv day ∧ s.t 2 = .list 1 (ws.map fun x => [iv x]) ∧ s.t 3 = .ref 0 0 0 ∧ s.t 6 = .ref 1 0 0 ∧ s.t 7 = .ref 2 0 0 ∧ s.t 11 = .ref 3 0 0 ∧ s.t 123 = paysL W ∧ s.t 124 = iv W.length ∧ s.t 125 = iv k ∧ s.t 17 = .sref id 0 ys.length ∧ s.t 19 = .ref n 0 0 ∧ s.t 129 = .list 1 (ws.map fun x => [iv x]) ∧ s.t 130 = iv ws.length ∧ s.t 131 = iv j ∧ s.H = H1 := ⟨_, rfl⟩
      refine aloop0 J (ws.length) (by rw [hN]; rfl) ?_ ?_
      · rw [hJ]
        exact ⟨0, by omega, by omega, by simp -dsimp -implicitDefEqProofs [-getElem?_pos, go_sem], by simp -dsimp -implicitDefEqProofs [-getElem?_pos, go_sem, t1], by simp -dsimp -implicitDefEqProofs [-getElem?_pos, go_sem, t2], by simp -dsimp -implicitDefEqProofs [-getElem?_pos, go_sem, t3], by simp -dsimp -implicitDefEqProofs [-getElem?_pos, go_sem, t6], by simp -dsimp -implicitDefEqProofs [-getElem?_pos, go_sem, t7], by simp -dsimp -implicitDefEqProofs [-getElem?_pos, go_sem, t11], by simp -dsimp -implicitDefEqProofs [-getElem?_pos, go_sem, t123], by simp -dsimp -implicitDefEqProofs [-getElem?_pos, go_sem, t124], by simp -dsimp -implicitDefEqProofs [-getElem?_pos, go_sem, t125], by simp -dsimp -implicitDefEqProofs [-getElem?_pos, go_sem, t17], by simp -dsimp -implicitDefEqProofs [-getElem?_pos, go_sem, hn], by simp -dsimp -implicitDefEqProofs [-getElem?_pos, go_sem], by simp -dsimp -implicitDefEqProofs [-getElem?_pos, go_sem], by simp -dsimp -implicitDefEqProofs [-getElem?_pos, go_sem], rfl⟩
      clear t1 t2 t3 t6 t7 t11 t123 t124 t125 t17
      intro m s hs'
      rw [hJ] at hs'
      obtain ⟨j, hj, hm', t20, t1, t2, t3, t6, t7, t11, t123, t124, t125, t17, t19, t129, t130, t131, hH⟩ := hs'
      simp -dsimp -implicitDefEqProofs [-getElem?_pos, go_sem, hP, t130, t131]
      refine condP (fun hh => ?_) (fun hh => ?_)
      · have hj : j < ws.length := by simpa using hh
        obtain ⟨w, hw'⟩ : ∃ w, ws[j]? = some w := ⟨_, List.getElem?_eq_getElem hj⟩
        have wj := wrap_in ((j : Int) + 1) (by omega)
        have em : decide (p.Warrant ∈ ws.take (j + 1)) = (decide (p.Warrant ∈ ws.take j) || decide (w = p.Warrant)) := by
          rw [take_at hw']
          by_cases c : p.Warrant ∈ ws.take j <;> simp [c, eq_comm]
        have fin : ∀ s' : St, s'.t 20 = bv (decide (p.Warrant ∈ ws.take (j + 1))) → s'.t 1 = s.t 1 → s'.t 2 = s.t 2 → s'.t 3 = s.t 3 → s'.t 6 = s.t 6 → s'.t 7 = s.t 7 → s'.t 11 = s.t 11 → s'.t 123 = s.t 123 → s'.t 124 = s.t 124 → s'.t 125 = s.t 125 → s'.t 17 = s.t 17 → s'.t 19 = s.t 19 → s'.t 129 = s.t 129 → s'.t 130 = s.t 130 → s'.t 131 = iv ((j : Int) + 1) → s'.H = s.H → ∃ n', n' < m ∧ J n' s' := fun s' a1 a2 a3 a4 a5 a6 a7 a8 a9 a10 a11 a12 a13 a14 a15 a16 => by
          refine ⟨ws.length - (j + 1), by omega, ?_⟩
          rw [hJ]
          exact ⟨j + 1, by omega, rfl, a1, by rw [a2, t1], by rw [a3, t2], by rw [a4, t3], by rw [a5, t6], by rw [a6, t7], by rw [a7, t11], by rw [a8, t123], by rw [a9, t124], by rw [a10, t125], by rw [a11, t17], by rw [a12, t19], by rw [a13, t129], by rw [a14, t130], by rw [a15]; simp, by rw [a16, hH]⟩
        by_cases c9 : p.Warrant ∈ ws.take j
        · have d9 : decide (p.Warrant ∈ ws.take j) = true := decide_eq_true c9
          rw [d9] at em t20
          simp -dsimp -implicitDefEqProofs [-getElem?_pos, go_sem, hP, t131, t129, hw', t20, wj]
          exact fin _ (by rw [em]; simp -dsimp -implicitDefEqProofs [-getElem?_pos, go_sem]) (by simp -dsimp -implicitDefEqProofs [-getElem?_pos, go_sem]) (by simp -dsimp -implicitDefEqProofs [-getElem?_pos, go_sem]) (by simp -dsimp -implicitDefEqProofs [-getElem?_pos, go_sem]) (by simp -dsimp -implicitDefEqProofs [-getElem?_pos, go_sem]) (by simp -dsimp -implicitDefEqProofs [-getElem?_pos, go_sem]) (by simp -dsimp -implicitDefEqProofs [-getElem?_pos, go_sem]) (by simp -dsimp -implicitDefEqProofs [-getElem?_pos, go_sem]) (by simp -dsimp -implicitDefEqProofs [-getElem?_pos, go_sem]) (by simp -dsimp -implicitDefEqProofs [-getElem?_pos, go_sem]) (by simp -dsimp -implicitDefEqProofs [-getElem?_pos, go_sem]) (by simp -dsimp -implicitDefEqProofs [-getElem?_pos, go_sem]) (by simp -dsimp -implicitDefEqProofs [-getElem?_pos, go_sem]) (by simp -dsimp -implicitDefEqProofs [-getElem?_pos, go_sem]) (by simp -dsimp -implicitDefEqProofs [-getElem?_pos, go_sem]) (by simp -dsimp -implicitDefEqProofs [-getElem?_pos, go_sem])
        · have d9 : decide (p.Warrant ∈ ws.take j) = false := decide_eq_false c9
          rw [d9, Bool.false_or] at em
          rw [d9] at t20
          simp -dsimp -implicitDefEqProofs [-getElem?_pos, go_sem, hP, t131, t129, hw', t20, wj, t19, hH, ep, ltp]
          exact fin _ (by rw [em]; simp -dsimp -implicitDefEqProofs [-getElem?_pos, go_sem]) (by simp -dsimp -implicitDefEqProofs [-getElem?_pos, go_sem]) (by simp -dsimp -implicitDefEqProofs [-getElem?_pos, go_sem]) (by simp -dsimp -implicitDefEqProofs [-getElem?_pos, go_sem]) (by simp -dsimp -implicitDefEqProofs [-getElem?_pos, go_sem]) (by simp -dsimp -implicitDefEqProofs [-getElem?_pos, go_sem]) (by simp -dsimp -implicitDefEqProofs [-getElem?_pos, go_sem]) (by simp -dsimp -implicitDefEqProofs [-getElem?_pos, go_sem]) (by simp -dsimp -implicitDefEqProofs [-getElem?_pos, go_sem]) (by simp -dsimp -implicitDefEqProofs [-getElem?_pos, go_sem]) (by simp -dsimp -implicitDefEqProofs [-getElem?_pos, go_sem]) (by simp -dsimp -implicitDefEqProofs [-getElem?_pos, go_sem]) (by simp -dsimp -implicitDefEqProofs [-getElem?_pos, go_sem]) (by simp -dsimp -implicitDefEqProofs [-getElem?_pos, go_sem]) (by simp -dsimp -implicitDefEqProofs [-getElem?_pos, go_sem]) (by simp -dsimp -implicitDefEqProofs [-getElem?_pos, go_sem, hH])
      have hj : j = ws.length := by simp at hh; omega
      subst hj
      rw [List.take_length] at t20
      have etk : decide (p.Warrant ∈ ws) = takenB ws p := rfl
      rw [etk] at t20
      cases ht : takenB ws p
      · rw [ht] at ny nz t20
        have nid : ¬ id = n := by omega
        simp -dsimp -implicitDefEqProofs [-getElem?_pos, go_sem, hP, t20, t17, t19, hH, ep, ltp, ei, nid, t125, wk]
        refine ⟨by omega, by omega, ?_⟩
        refine ⟨W.length - (k + 1), by omega, ?_⟩
        rw [hI]
        refine ⟨k + 1, n + 1, x, ys ++ [p], zs, by omega, rfl, ny.symm, nz.symm, by simp; omega, by omega, by omega, by simp -dsimp -implicitDefEqProofs [-getElem?_pos, go_sem, t1], by simp -dsimp -implicitDefEqProofs [-getElem?_pos, go_sem, t2], by simp -dsimp -implicitDefEqProofs [-getElem?_pos, go_sem, t3], by simp -dsimp -implicitDefEqProofs [-getElem?_pos, go_sem, t6], by simp -dsimp -implicitDefEqProofs [-getElem?_pos, go_sem, t7], by simp -dsimp -implicitDefEqProofs [-getElem?_pos, go_sem, t11], by simp -dsimp -implicitDefEqProofs [-getElem?_pos, go_sem, t123], by simp -dsimp -implicitDefEqProofs [-getElem?_pos, go_sem, t124], by simp -dsimp -implicitDefEqProofs [-getElem?_pos, go_sem], by simp -dsimp -implicitDefEqProofs [-getElem?_pos, go_sem, ll1], ?_, ?_, ?_, ?_, ?_, ?_⟩
        · dsimp only
          rw [List.getElem?_append_left (by simp; omega), List.getElem?_set_ne (by omega), e0]
        · dsimp only
          rw [List.getElem?_append_left (by simp; omega), List.getElem?_set_ne (by omega), e1]
        · dsimp only
          rw [List.getElem?_append_left (by simp; omega), List.getElem?_set_ne (by omega), e2]
        · dsimp only
          rw [List.getElem?_append_left (by simp; omega), List.getElem?_set_ne (by omega), e3]
        · dsimp only
          rw [List.getElem?_append_right (by simp; omega), ← encL_snoc]
          simp -dsimp -implicitDefEqProofs [-getElem?_pos, go_sem, ll1, cPy]
        · rcases hx with hx | ⟨jd, hj4, hji, rfl, hjo⟩
          · exact .inl hx
          · have hjo' := kk _ _ (by simp) hjo
            have ltj := (List.getElem?_eq_some_iff.1 hjo).1
            refine .inr ⟨jd, hj4, by omega, rfl, ?_⟩
            dsimp only
            rw [List.getElem?_append_left (by simp; omega), List.getElem?_set_ne (by omega), hjo']
      · rw [ht] at ny nz t20
        have l3 : 3 < H1.length := by omega
        have n3 : ¬ n = 3 := by omega
        rcases hx with ⟨rfl, hx⟩ | ⟨jd, hj4, hji, rfl, hjo⟩
        · rw [hx, List.nil_append] at nz
          simp -dsimp -implicitDefEqProofs [-getElem?_pos, go_sem, hP, t20, t19, t11, hH, ep, ltp, e3, t125, wk, l3]
          refine ⟨W.length - (k + 1), by omega, ?_⟩
          rw [hI]
          refine ⟨k + 1, id, .sref (n + 1) 0 1, ys, [p], by omega, rfl, ny.symm, nz.symm, by omega, by simp, by omega, by simp -dsimp -implicitDefEqProofs [-getElem?_pos, go_sem, t1], by simp -dsimp -implicitDefEqProofs [-getElem?_pos, go_sem, t2], by simp -dsimp -implicitDefEqProofs [-getElem?_pos, go_sem, t3], by simp -dsimp -implicitDefEqProofs [-getElem?_pos, go_sem, t6], by simp -dsimp -implicitDefEqProofs [-getElem?_pos, go_sem, t7], by simp -dsimp -implicitDefEqProofs [-getElem?_pos, go_sem, t11], by simp -dsimp -implicitDefEqProofs [-getElem?_pos, go_sem, t123], by simp -dsimp -implicitDefEqProofs [-getElem?_pos, go_sem, t124], by simp -dsimp -implicitDefEqProofs [-getElem?_pos, go_sem], by simp -dsimp -implicitDefEqProofs [-getElem?_pos, go_sem, t17], ?_, ?_, ?_, ?_, ?_, .inr ⟨n + 1, by omega, by omega, rfl, ?_⟩⟩
          · dsimp only
            rw [List.getElem?_append_left (by simp; omega)]
            repeat rw [List.getElem?_set_ne (by omega)]
            exact e0
          · dsimp only
            rw [List.getElem?_append_left (by simp; omega)]
            repeat rw [List.getElem?_set_ne (by omega)]
            exact e1
          · dsimp only
            rw [List.getElem?_append_left (by simp; omega)]
            repeat rw [List.getElem?_set_ne (by omega)]
            exact e2
          · dsimp only
            rw [List.getElem?_append_left (by simp; omega), List.getElem?_set_self (by omega), ll1]
          · dsimp only
            rw [List.getElem?_append_left (by simp; omega)]
            repeat rw [List.getElem?_set_ne (by omega)]
            exact ei
          · dsimp only
            rw [List.getElem?_append_right (by simp; omega)]
            show _ = some (some (⟨99, 5, [p.cells]⟩ : AObj))
            simp -dsimp -implicitDefEqProofs [-getElem?_pos, go_sem, ll1, cPy]
        · have hjo' := kk _ _ (by simp) hjo
          have ltj := (List.getElem?_eq_some_iff.1 hjo).1
          have ltj1 := (List.getElem?_eq_some_iff.1 hjo').1
          have nj3 : ¬ jd = 3 := by omega
          have nj3' : ¬ 3 = jd := by omega
          simp -dsimp -implicitDefEqProofs [-getElem?_pos, go_sem, hP, t20, t19, t11, hH, ep, ltp, e3, t125, wk, hjo', ltj1, nj3, nj3', l3]
          refine ⟨by omega, by omega, ?_⟩
          refine ⟨W.length - (k + 1), by omega, ?_⟩
          rw [hI]
          refine ⟨k + 1, id, .sref (n + 1) 0 (zs.length + 1), ys, (zs ++ [p]), by omega, rfl, ny.symm, nz.symm, by omega, by rw [List.length_append]; simp; omega, by omega, by simp -dsimp -implicitDefEqProofs [-getElem?_pos, go_sem, t1], by simp -dsimp -implicitDefEqProofs [-getElem?_pos, go_sem, t2], by simp -dsimp -implicitDefEqProofs [-getElem?_pos, go_sem, t3], by simp -dsimp -implicitDefEqProofs [-getElem?_pos, go_sem, t6], by simp -dsimp -implicitDefEqProofs [-getElem?_pos, go_sem, t7], by simp -dsimp -implicitDefEqProofs [-getElem?_pos, go_sem, t11], by simp -dsimp -implicitDefEqProofs [-getElem?_pos, go_sem, t123], by simp -dsimp -implicitDefEqProofs [-getElem?_pos, go_sem, t124], by simp -dsimp -implicitDefEqProofs [-getElem?_pos, go_sem], by simp -dsimp -implicitDefEqProofs [-getElem?_pos, go_sem, t17], ?_, ?_, ?_, ?_, ?_, .inr ⟨n + 1, by omega, by omega, by rw [List.length_append]; rfl, ?_⟩⟩
          · dsimp only
            rw [List.getElem?_append_left (by simp; omega)]
            repeat rw [List.getElem?_set_ne (by omega)]
            exact e0
          · dsimp only
            rw [List.getElem?_append_left (by simp; omega)]
            repeat rw [List.getElem?_set_ne (by omega)]
            exact e1
          · dsimp only
            rw [List.getElem?_append_left (by simp; omega)]
            repeat rw [List.getElem?_set_ne (by omega)]
            exact e2
          · dsimp only
            rw [List.getElem?_append_left (by simp; omega), List.getElem?_set_self (by simp; omega), ll1]
          · dsimp only
            rw [List.getElem?_append_left (by simp; omega)]
            repeat rw [List.getElem?_set_ne (by omega)]
            exact ei
          · dsimp only
            rw [List.getElem?_append_right (by simp; omega)]
            rw [← encL_snoc]
            simp -dsimp -implicitDefEqProofs [-getElem?_pos, go_sem, ll1, cPy]
    simp -dsimp -implicitDefEqProofs [-getElem?_pos, go_sem, hP, t2]
    obtain ⟨I, hI⟩ : ∃ I : Nat → St → Prop, I = fun m s => ∃ (k : Nat), k ≤ ws.length ∧ m = ws.length - k ∧ (ws.take k).Nodup ∧ (∀ w, w ∈ ws.take k → ∃ p, p ∈ q.Waiting ∧ p.Warrant = w ∧ p.Due ≤ day) ∧ s.t 1 = iv day ∧ s.t 2 = .list 1 (ws.map fun x => [iv x]) ∧ s.t 3 = .ref 0 0 0 ∧ s.t 6 = .ref 1 0 0 ∧ s.t 7 = .ref 2 0 0 ∧ s.t 11 = .ref 3 0 0 ∧ s.t 83 = .list 1 (ws.map fun x => [iv x]) ∧ s.t 84 = iv ws.length ∧ s.t 85 = iv k ∧ s.H = [some ⟨32, 3, [[paysL q.Waiting, .list 1 (q.Known.map fun x => [iv x]), batsL q.Batches]]⟩, some ⟨32, 3, [[.nil, .nil, .nil]]⟩, some ⟨45, 3, [[iv 0, iv 0, .nil]]⟩, some ⟨45, 3, [[iv ((q.Batches.length : Int) + 1), iv day, .nil]]⟩] := ⟨_, rfl⟩
    refine aloop0 I (ws.length) (by rw [hN]; rfl) ?_ ?_
    · rw [hI]
      exact ⟨0, by omega, by omega, by simp, by simp, by simp -dsimp -implicitDefEqProofs [-getElem?_pos, go_sem, t1], by simp -dsimp -implicitDefEqProofs [-getElem?_pos, go_sem, t2], by simp -dsimp -implicitDefEqProofs [-getElem?_pos, go_sem, t3], by simp -dsimp -implicitDefEqProofs [-getElem?_pos, go_sem, t6], by simp -dsimp -implicitDefEqProofs [-getElem?_pos, go_sem, t7], by simp -dsimp -implicitDefEqProofs [-getElem?_pos, go_sem], by simp -dsimp -implicitDefEqProofs [-getElem?_pos, go_sem], by simp -dsimp -implicitDefEqProofs [-getElem?_pos, go_sem], by simp -dsimp -implicitDefEqProofs [-getElem?_pos, go_sem], by simp -dsimp -implicitDefEqProofs [-getElem?_pos, go_sem]⟩
    clear t1 t2 t3 t6 t7 t10 hH
    intro m s hs'
    rw [hI] at hs'
    obtain ⟨k, hk, hm, hnd, hall, t1, t2, t3, t6, t7, t11, t83, t84, t85, hH⟩ := hs'
    simp -dsimp -implicitDefEqProofs [-getElem?_pos, go_sem, hP, t84, t85]
    refine condP (fun hh => ?_) (fun hh => ?_)
    rotate_left
    · have hk : k = ws.length := by simp at hh; omega
      subst hk
      rw [List.take_length] at hnd hall
      simp -dsimp -implicitDefEqProofs [-getElem?_pos, go_sem, hP]
      refine ⟨_, Weaker.refl _, ?_⟩
      rw [hInv1]
      exact ⟨dueB_iff.2 ⟨hnd, hall⟩, by simp -dsimp -implicitDefEqProofs [-getElem?_pos, go_sem, t1], by simp -dsimp -implicitDefEqProofs [-getElem?_pos, go_sem, t2], by simp -dsimp -implicitDefEqProofs [-getElem?_pos, go_sem, t3], by simp -dsimp -implicitDefEqProofs [-getElem?_pos, go_sem, t6], by simp -dsimp -implicitDefEqProofs [-getElem?_pos, go_sem, t7], by simp -dsimp -implicitDefEqProofs [-getElem?_pos, go_sem, t11], by simp -dsimp -implicitDefEqProofs [-getElem?_pos, go_sem, hH]⟩
    have hk : k < ws.length := by simpa using hh
    obtain ⟨w, hw'⟩ : ∃ w, ws[k]? = some w := ⟨_, List.getElem?_eq_getElem hk⟩
    have wk := wrap_in ((k : Int) + 1) (by omega)
    have wt := rwaits_pf q w (by omega)
    rw [cQu] at wt
    simp only [intsL] at wt
    simp -dsimp -implicitDefEqProofs [-getElem?_pos, go_sem, hP, t85, t83, hw', t3, hH]
    refine callB_is (wt.lift _ _) hP en_106 (by simpa [imm_sc] using iq) .sc ?_
    by_cases c7 : waitQ q w < 0
    · have d7 : decide (waitQ q w < 0) = true := decide_eq_true c7
      have := f6 (Bool.eq_false_iff.2 fun h => by
        obtain ⟨p, hp, e, _⟩ := (dueB_iff.1 h).2 w (List.mem_of_getElem? hw')
        exact waitQ_none.1 c7 p hp e)
      simp -dsimp -implicitDefEqProofs [-getElem?_pos, go_sem, hP, d7, t6, t7, hH]
      refine done_zeroQ3 ?_
      rw [this]; rfl
    have d7 : decide (waitQ q w < 0) = false := decide_eq_false c7
    obtain ⟨i, p, hi, hip, hpw, hil⟩ := waitQ_some c7
    have d7' := d7
    rw [hi] at d7'
    by_cases c8 : day < p.Due
    · have d8 : decide (day < p.Due) = true := decide_eq_true c8
      have := f6 (Bool.eq_false_iff.2 fun h => by
        obtain ⟨p', hp', e, hd⟩ := (dueB_iff.1 h).2 w (List.mem_of_getElem? hw')
        have := uniqW hq.asc.nd hp' (List.mem_of_getElem? hip) (e.trans hpw.symm)
        subst this
        omega)
      simp -dsimp -implicitDefEqProofs [-getElem?_pos, go_sem, hP, hi, d7', t6, t7, hH, t3, hip, cPy, t1, d8]
      refine done_zeroQ3 ?_
      rw [this]; rfl
    have d8 : decide (day < p.Due) = false := decide_eq_false c8
    obtain ⟨T, hT⟩ : ∃ T, T = ws.take k := ⟨_, rfl⟩
    have g1 : (ws.map fun x => [iv x]).take k = T.map fun x => [iv x] := by rw [hT, List.map_take]
    have hk' : k ≤ ws.length := by omega
    have lk : T.length = k := by rw [hT, List.length_take]; omega
    simp -dsimp -implicitDefEqProofs [-getElem?_pos, go_sem, hP, hi, d7', hH, t3, hip, cPy, t1, d8, t2, asliceOp, bound, aslice, hk', g1, lk]
    obtain ⟨J, hJ⟩ : ∃ I : Nat → St → Prop, I = fun m s => ∃ (j : Nat), j ≤ k ∧ m = k - j ∧ (∀ x, x ∈ T.take j → x ≠ w) ∧ s.t 1 = iv day ∧ s.t 2 = .list 1 (ws.map fun x => [iv x]) ∧ s.t 3 = .ref 0 0 0 ∧ s.t 6 = .ref 1 0 0 ∧ s.t 7 = .ref 2 0 0 ∧ s.t 11 = .ref 3 0 0 ∧ s.t 13 = iv w ∧ s.t 83 = .list 1 (ws.map fun x => [iv x]) ∧ s.t 84 = iv ws.length ∧ s.t 85 = iv k ∧ s.t 109 = .list 1 (T.map fun x => [iv x]) ∧ s.t 110 = iv k ∧ s.t 111 = iv j ∧ s.H = [some ⟨32, 3, [[paysL q.Waiting, .list 1 (q.Known.map fun x => [iv x]), batsL q.Batches]]⟩, some ⟨32, 3, [[.nil, .nil, .nil]]⟩, some ⟨45, 3, [[iv 0, iv 0, .nil]]⟩, some ⟨45, 3, [[iv ((q.Batches.length : Int) + 1), iv day, .nil]]⟩] := ⟨_, rfl⟩
    refine aloop0 J (k) (by rw [hN]; rfl) ?_ ?_
    · rw [hJ]
      exact ⟨0, by omega, by omega, by simp, by simp -dsimp -implicitDefEqProofs [-getElem?_pos, go_sem, t1], by simp -dsimp -implicitDefEqProofs [-getElem?_pos, go_sem, t2], by simp -dsimp -implicitDefEqProofs [-getElem?_pos, go_sem, t3], by simp -dsimp -implicitDefEqProofs [-getElem?_pos, go_sem, t6], by simp -dsimp -implicitDefEqProofs [-getElem?_pos, go_sem, t7], by simp -dsimp -implicitDefEqProofs [-getElem?_pos, go_sem, t11], by simp -dsimp -implicitDefEqProofs [-getElem?_pos, go_sem], by simp -dsimp -implicitDefEqProofs [-getElem?_pos, go_sem, t83], by simp -dsimp -implicitDefEqProofs [-getElem?_pos, go_sem, t84], by simp -dsimp -implicitDefEqProofs [-getElem?_pos, go_sem, t85], by simp -dsimp -implicitDefEqProofs [-getElem?_pos, go_sem], by simp -dsimp -implicitDefEqProofs [-getElem?_pos, go_sem, lk], by simp -dsimp -implicitDefEqProofs [-getElem?_pos, go_sem], by simp -dsimp -implicitDefEqProofs [-getElem?_pos, go_sem, hH]⟩
    clear t1 t2 t3 t6 t7 t11 t83 t84 t85 hH
    intro m s hs'
    rw [hJ] at hs'
    obtain ⟨j, hj, hm, hne, t1, t2, t3, t6, t7, t11, t13, t83, t84, t85, t109, t110, t111, hH⟩ := hs'
    simp -dsimp -implicitDefEqProofs [-getElem?_pos, go_sem, hP, t110, t111]
    refine condP (fun hh => ?_) (fun hh => ?_)
    · have hj : j < k := by simpa using hh
      obtain ⟨x, hx⟩ : ∃ x, T[j]? = some x := ⟨_, List.getElem?_eq_getElem (by omega)⟩
      have wj := wrap_in ((j : Int) + 1) (by omega)
      by_cases c9 : x = w
      · have d9 : decide (x = w) = true := decide_eq_true c9
        have := f6 (Bool.eq_false_iff.2 fun h => by
          have hn := (dueB_iff.1 h).1
          have e1 : (ws.take (k + 1)).Nodup := hn.sublist (List.take_sublist _ _)
          rw [take_at hw', ← hT, List.nodup_append] at e1
          exact e1.2.2 x (List.mem_of_getElem? hx) w (by simp) c9)
        simp -dsimp -implicitDefEqProofs [-getElem?_pos, go_sem, hP, t111, t109, hx, t13, d9, c9, t6, t7, hH]
        refine done_zeroQ3 ?_
        rw [this]; rfl
      · have d9 : decide (x = w) = false := decide_eq_false c9
        simp -dsimp -implicitDefEqProofs [-getElem?_pos, go_sem, hP, t111, t109, hx, t13, d9, c9, wj]
        refine ⟨k - (j + 1), by omega, ?_⟩
        rw [hJ]
        refine ⟨j + 1, by omega, rfl, ?_, by simp -dsimp -implicitDefEqProofs [-getElem?_pos, go_sem, t1], by simp -dsimp -implicitDefEqProofs [-getElem?_pos, go_sem, t2], by simp -dsimp -implicitDefEqProofs [-getElem?_pos, go_sem, t3], by simp -dsimp -implicitDefEqProofs [-getElem?_pos, go_sem, t6], by simp -dsimp -implicitDefEqProofs [-getElem?_pos, go_sem, t7], by simp -dsimp -implicitDefEqProofs [-getElem?_pos, go_sem, t11], by simp -dsimp -implicitDefEqProofs [-getElem?_pos, go_sem, t13], by simp -dsimp -implicitDefEqProofs [-getElem?_pos, go_sem, t83], by simp -dsimp -implicitDefEqProofs [-getElem?_pos, go_sem, t84], by simp -dsimp -implicitDefEqProofs [-getElem?_pos, go_sem, t85], by simp -dsimp -implicitDefEqProofs [-getElem?_pos, go_sem, t109], by simp -dsimp -implicitDefEqProofs [-getElem?_pos, go_sem, t110], by simp -dsimp -implicitDefEqProofs [-getElem?_pos, go_sem], by simp -dsimp -implicitDefEqProofs [-getElem?_pos, go_sem, hH]⟩
        intro y hy
        rw [take_at hx] at hy
        rcases List.mem_append.1 hy with hy | hy
        · exact hne y hy
        · simp at hy; subst hy; exact c9
    · have hj : j = k := by simp at hh; omega
      subst hj
      rw [List.take_of_length_le (by omega)] at hne
      simp -dsimp -implicitDefEqProofs [-getElem?_pos, go_sem, hP, t85, wk]
      refine ⟨ws.length - (j + 1), by omega, ?_⟩
      rw [hI]
      refine ⟨j + 1, by omega, rfl, ?_, ?_, by simp -dsimp -implicitDefEqProofs [-getElem?_pos, go_sem, t1], by simp -dsimp -implicitDefEqProofs [-getElem?_pos, go_sem, t2], by simp -dsimp -implicitDefEqProofs [-getElem?_pos, go_sem, t3], by simp -dsimp -implicitDefEqProofs [-getElem?_pos, go_sem, t6], by simp -dsimp -implicitDefEqProofs [-getElem?_pos, go_sem, t7], by simp -dsimp -implicitDefEqProofs [-getElem?_pos, go_sem, t11], by simp -dsimp -implicitDefEqProofs [-getElem?_pos, go_sem, t83], by simp -dsimp -implicitDefEqProofs [-getElem?_pos, go_sem, t84], by simp -dsimp -implicitDefEqProofs [-getElem?_pos, go_sem], by simp -dsimp -implicitDefEqProofs [-getElem?_pos, go_sem, hH]⟩
      · rw [take_at hw', ← hT, List.nodup_append]
        refine ⟨hT ▸ hnd, by simp, fun a ha b hb => ?_⟩
        simp at hb
        subst hb
        exact hne a ha
      · intro y hy
        rw [take_at hw'] at hy
        rcases List.mem_append.1 hy with hy | hy
        · exact hall y hy
        · simp at hy; subst hy
          exact ⟨p, List.mem_of_getElem? hip, hpw, by omega⟩
  have bad66 : busB day = false → takeQ q day ws = (zeroQ, zeroB, 66) := fun c2 => by rw [takeQ, if_pos c1, if_neg (by simp [c2])]
  by_cases c2a : day < 0
  · have d2 : decide (day < 0) = true := decide_eq_true c2a
    have := bad66 (by rw [busB, amg_no (by omega)]; rfl)
    simp -dsimp -implicitDefEqProofs [-getElem?_pos, go_sem, hP, d2]
    refine done_zeroQ3 ?_
    rw [this]; rfl
  have d2a : decide (day < 0) = false := decide_eq_false c2a
  by_cases c2b : 36000 < day
  · have d2 : decide (36000 < day) = true := decide_eq_true c2b
    have := bad66 (by rw [busB, amg_no (by omega)]; rfl)
    simp -dsimp -implicitDefEqProofs [-getElem?_pos, go_sem, hP, d2a, d2]
    refine done_zeroQ3 ?_
    rw [this]; rfl
  have d2b : decide (36000 < day) = false := decide_eq_false c2b
  simp -dsimp -implicitDefEqProofs [-getElem?_pos, go_sem, hP, d2a, d2b]
  refine callB_is ((r02business_pf day).lift _ _) hP en_46 (by simp [imm_sc]) .sc ?_
  cases c2 : busB day
  · have := bad66 c2
    simp -dsimp -implicitDefEqProofs [-getElem?_pos, go_sem, hP, c2]
    refine done_zeroQ3 ?_
    rw [this]; rfl
  have c7 : ∀ P : Prop, (q.Batches.length = 0 → day < lastQ q → False) := fun _ h1 h2 => by
    have : q.Batches = [] := List.eq_nil_of_length_eq_zero h1
    rw [lastQ, this] at h2
    simp at h2
    omega
  by_cases c3 : day < lastQ q
  · have : takeQ q day ws = (zeroQ, zeroB, 8) := by rw [takeQ, if_pos c1, if_pos c2, if_pos c3]
    have hpos : ¬ q.Batches.length = 0 := fun h => c7 True h c3
    obtain ⟨b, hlast⟩ : ∃ b, q.Batches.getLast? = some b := ⟨_, List.getLast?_eq_some_getLast (by intro h; simp [h] at hpos)⟩
    have l0 : lastQ q = b.Day := by rw [lastQ, hlast]
    have hb : q.Batches[q.Batches.length - 1]? = some b := by rw [← List.getLast?_eq_getElem?]; exact hlast
    have d0 : decide ((0 : Int) < (q.Batches.length : Int)) = true := decide_eq_true (by omega)
    have w1 : IntKind.i64.wrap ((q.Batches.length : Int) - 1) = ((q.Batches.length - 1 : Nat) : Int) := by rw [wrap_in _ (by omega)]; omega
    have d3 : decide (day < b.Day) = true := decide_eq_true (by omega)
    have hp0 : 0 < q.Batches.length := by omega
    simp -dsimp -implicitDefEqProofs [-getElem?_pos, go_sem, hP, c2, d0, w1, hb, cBt, d3, hp0]
    refine done_zeroQ3 ?_
    rw [this]; rfl
  by_cases c0 : q.Batches.length = 0
  · have d0 : decide ((0 : Int) < (q.Batches.length : Int)) = false := decide_eq_false (by omega)
    have d0n : decide (0 < q.Batches.length) = false := decide_eq_false (by omega)
    by_cases c4 : ws.length = 0
    · have d4 : decide ((ws.length : Int) = 0) = true := decide_eq_true (by omega)
      have : takeQ q day ws = (zeroQ, zeroB, 10) := by rw [takeQ, if_pos c1, if_pos c2, if_neg c3, if_pos c4]
      simp -dsimp -implicitDefEqProofs [-getElem?_pos, go_sem, hP, c2, d0, d0n, d4, c4]
      refine done_zeroQ3 ?_
      rw [this]; rfl
    have d4 : decide ((ws.length : Int) = 0) = false := decide_eq_false (by omega)
    by_cases c5 : 10 < ws.length
    · have d5 : decide ((10 : Int) < (ws.length : Int)) = true := decide_eq_true (by omega)
      have : takeQ q day ws = (zeroQ, zeroB, 3) := by rw [takeQ, if_pos c1, if_pos c2, if_neg c3, if_neg c4, if_pos (.inl c5)]
      simp -dsimp -implicitDefEqProofs [-getElem?_pos, go_sem, hP, c2, d0, d0n, d4, c4, d5]
      refine done_zeroQ3 ?_
      rw [this]; rfl
    have d5 : decide ((10 : Int) < (ws.length : Int)) = false := decide_eq_false (by omega)
    by_cases c6 : 200 ≤ q.Batches.length
    · have d6 : decide ((200 : Int) ≤ (q.Batches.length : Int)) = true := decide_eq_true (by omega)
      have : takeQ q day ws = (zeroQ, zeroB, 3) := by rw [takeQ, if_pos c1, if_pos c2, if_neg c3, if_neg c4, if_pos (.inr c6)]
      simp -dsimp -implicitDefEqProofs [-getElem?_pos, go_sem, hP, c2, d0, d0n, d4, c4, d5, d6]
      refine done_zeroQ3 ?_
      rw [this]; rfl
    have d6 : decide ((200 : Int) ≤ (q.Batches.length : Int)) = false := decide_eq_false (by omega)
    simp -dsimp -implicitDefEqProofs [-getElem?_pos, go_sem, hP, c2, d0, d0n, d4, c4, d5, d6]
    refine ⟨_, Weaker.refl _, ?_⟩
    rw [hInv]
    exact ⟨c2, c3, c4, c5, c6, by simp -dsimp -implicitDefEqProofs [-getElem?_pos, go_sem], by simp -dsimp -implicitDefEqProofs [-getElem?_pos, go_sem], by simp -dsimp -implicitDefEqProofs [-getElem?_pos, go_sem], by simp -dsimp -implicitDefEqProofs [-getElem?_pos, go_sem], by simp -dsimp -implicitDefEqProofs [-getElem?_pos, go_sem], by simp -dsimp -implicitDefEqProofs [-getElem?_pos, go_sem], rfl⟩
  · obtain ⟨b, hlast⟩ : ∃ b, q.Batches.getLast? = some b := ⟨_, List.getLast?_eq_some_getLast (by intro h; simp [h] at c0)⟩
    have l0 : lastQ q = b.Day := by rw [lastQ, hlast]
    have hb : q.Batches[q.Batches.length - 1]? = some b := by rw [← List.getLast?_eq_getElem?]; exact hlast
    have d0 : decide ((0 : Int) < (q.Batches.length : Int)) = true := decide_eq_true (by omega)
    have w1 : IntKind.i64.wrap ((q.Batches.length : Int) - 1) = ((q.Batches.length - 1 : Nat) : Int) := by rw [wrap_in _ (by omega)]; omega
    have d3 : decide (day < b.Day) = false := decide_eq_false (by omega)
    have hp0 : 0 < q.Batches.length := by omega
    by_cases c4 : ws.length = 0
    · have d4 : decide ((ws.length : Int) = 0) = true := decide_eq_true (by omega)
      have : takeQ q day ws = (zeroQ, zeroB, 10) := by rw [takeQ, if_pos c1, if_pos c2, if_neg c3, if_pos c4]
      simp -dsimp -implicitDefEqProofs [-getElem?_pos, go_sem, hP, c2, d0, w1, hb, cBt, d3, hp0, d4, c4]
      refine done_zeroQ3 ?_
      rw [this]; rfl
    have d4 : decide ((ws.length : Int) = 0) = false := decide_eq_false (by omega)
    by_cases c5 : 10 < ws.length
    · have d5 : decide ((10 : Int) < (ws.length : Int)) = true := decide_eq_true (by omega)
      have : takeQ q day ws = (zeroQ, zeroB, 3) := by rw [takeQ, if_pos c1, if_pos c2, if_neg c3, if_neg c4, if_pos (.inl c5)]
      simp -dsimp -implicitDefEqProofs [-getElem?_pos, go_sem, hP, c2, d0, w1, hb, cBt, d3, hp0, d4, c4, d5]
      refine done_zeroQ3 ?_
      rw [this]; rfl
    have d5 : decide ((10 : Int) < (ws.length : Int)) = false := decide_eq_false (by omega)
    by_cases c6 : 200 ≤ q.Batches.length
    · have d6 : decide ((200 : Int) ≤ (q.Batches.length : Int)) = true := decide_eq_true (by omega)
      have : takeQ q day ws = (zeroQ, zeroB, 3) := by rw [takeQ, if_pos c1, if_pos c2, if_neg c3, if_neg c4, if_pos (.inr c6)]
      simp -dsimp -implicitDefEqProofs [-getElem?_pos, go_sem, hP, c2, d0, w1, hb, cBt, d3, hp0, d4, c4, d5, d6]
      refine done_zeroQ3 ?_
      rw [this]; rfl
    have d6 : decide ((200 : Int) ≤ (q.Batches.length : Int)) = false := decide_eq_false (by omega)
    simp -dsimp -implicitDefEqProofs [-getElem?_pos, go_sem, hP, c2, d0, w1, hb, cBt, d3, hp0, d4, c4, d5, d6]
    refine ⟨_, Weaker.refl _, ?_⟩
    rw [hInv]
    exact ⟨c2, c3, c4, c5, c6, by simp -dsimp -implicitDefEqProofs [-getElem?_pos, go_sem], by simp -dsimp -implicitDefEqProofs [-getElem?_pos, go_sem], by simp -dsimp -implicitDefEqProofs [-getElem?_pos, go_sem], by simp -dsimp -implicitDefEqProofs [-getElem?_pos, go_sem], by simp -dsimp -implicitDefEqProofs [-getElem?_pos, go_sem], by simp -dsimp -implicitDefEqProofs [-getElem?_pos, go_sem], rfl⟩
end Go.Proofs.YtpjecipdklcjbaaGreatDoor
namespace Go.PA
open Go.RowKit
end Go.PA
namespace Go.Proofs.YtpjecipdklcjbaaGreatDoor
open Go.PA
open Go.RowKit
theorem cQn (q : TQueue) : q.cells = [paysL q.Waiting, numsL q.Known, batsL q.Batches] := rfl
theorem cDn (d : TDesk) : d.cells = [iv d.Account.Credit, subsL d.Account.Subs, entsL d.Account.Entries, paysL d.Queue.Waiting, numsL d.Queue.Known, batsL d.Queue.Batches, itemsL d.Items] := rfl
theorem equalInts_pf (a b : List Int) (ha : a.length ≤ 100000) (hb : b.length ≤ 100000) :
    PFun Tryz.prog none none 92 [.list 1 (encL encI a), .list 1 (encL encI b)] (· = bv (decide (a = b))) := by
  refine pfun_intro Tryz.func92 rfl (by simp [Tryz.f92]) (by kernel_rfl) ?_
  intro E hP hr hs hW hN
  by_cases hlen : a.length = b.length
  rotate_left
  · have hne : ¬ a = b := fun h => hlen (by rw [h])
    have hl : decide ((a.length : Int) = (b.length : Int)) = false := by simp; omega
    simp -dsimp -implicitDefEqProofs [-getElem?_pos, go_sem, hP, hl, hne]
  have hl : decide ((a.length : Int) = (b.length : Int)) = true := by simp; omega
  simp -dsimp -implicitDefEqProofs [-getElem?_pos, go_sem, hP, hl]
  obtain ⟨I, hI⟩ : ∃ I : Nat → St → Prop, I = fun m s => ∃ k : Nat, k ≤ a.length ∧ m = a.length - k ∧ s.t 0 = .list 1 (encL encI a) ∧ s.t 1 = .list 1 (encL encI b) ∧ s.t 12 = iv a.length ∧ s.t 13 = iv k ∧ a.take k = b.take k := ⟨_, rfl⟩
  refine aloop0 I (a.length) (by rw [hN]; rfl) ?_ ?_
  · rw [hI]
    exact ⟨0, by omega, by omega, by simp -dsimp -implicitDefEqProofs [-getElem?_pos, go_sem], by simp -dsimp -implicitDefEqProofs [-getElem?_pos, go_sem], by simp -dsimp -implicitDefEqProofs [-getElem?_pos, go_sem], by simp -dsimp -implicitDefEqProofs [-getElem?_pos, go_sem], by simp⟩
  intro m s hs'
  rw [hI] at hs'
  obtain ⟨k, hk, hm, t0, t1, t12, t13, heq⟩ := hs'
  simp -dsimp -implicitDefEqProofs [-getElem?_pos, go_sem, hP, t12, t13]
  refine condP (fun h => ?_) (fun h => ?_)
  · have hk : k < a.length := by simpa using h
    obtain ⟨x, hx⟩ : ∃ x, a[k]? = some x := ⟨_, List.getElem?_eq_getElem hk⟩
    obtain ⟨y, hy⟩ : ∃ y, b[k]? = some y := ⟨_, List.getElem?_eq_getElem (by omega)⟩
    have wk := wrap_in ((k : Int) + 1) (by omega)
    have tx : a.take (k + 1) = a.take k ++ [x] := by rw [List.take_add_one, hx]; rfl
    have ty : b.take (k + 1) = b.take k ++ [y] := by rw [List.take_add_one, hy]; rfl
    simp -dsimp -implicitDefEqProofs [-getElem?_pos, go_sem, hP, t13]
    refine adrawB (fun _ => true) [] hP (by kernel_rfl) (by kernel_rfl) ?_
    by_cases hxy : x = y
    · subst hxy
      simp -dsimp -implicitDefEqProofs [-getElem?_pos, go_sem, hP, t0, t1, hx, hy, encI, t13, wk]
      refine ⟨a.length - (k + 1), by omega, ?_⟩
      rw [hI]
      exact ⟨k + 1, by omega, rfl, by simp -dsimp -implicitDefEqProofs [-getElem?_pos, go_sem, t0], by simp -dsimp -implicitDefEqProofs [-getElem?_pos, go_sem, t1], by simp -dsimp -implicitDefEqProofs [-getElem?_pos, go_sem, t12], by simp -dsimp -implicitDefEqProofs [-getElem?_pos, go_sem], by rw [tx, ty, heq]⟩
    · have hne : ¬ a = b := fun h => by
        subst h
        rw [hx] at hy
        exact hxy (Option.some.inj hy)
      have dxy : decide (x = y) = false := decide_eq_false hxy
      simp -dsimp -implicitDefEqProofs [-getElem?_pos, go_sem, hP, t0, t1, hx, hy, encI, t13, wk, dxy, hne]
  · have hk : k = a.length := by simp at h; omega
    subst hk
    rw [List.take_length] at heq
    rw [hlen, List.take_length] at heq
    simp -dsimp -implicitDefEqProofs [-getElem?_pos, go_sem, hP, heq]
theorem indexPay_pf (l : List TPayment) (v : TPayment) (hl : l.length ≤ 1000000) : PFun Tryz.prog none none 183 [paysL l, .agg v.cells] (· = iv (idxI (fun x => decide (v = x)) l)) := by
  refine pfun_intro Tryz.func183 rfl (by simp [Tryz.f183]) (by kernel_rfl) ?_
  intro E hP hr hs hW hN
  simp -dsimp -implicitDefEqProofs [-getElem?_pos, go_sem, hP, cPy]
  obtain ⟨I, hI⟩ : ∃ I : Nat → St → Prop, I = fun m s => ∃ k : Nat, k ≤ l.length ∧ m = l.length - k ∧ idxI (fun x => decide (v = x)) l = idxFrom (fun x => decide (v = x)) k (l.drop k) ∧ s.t 0 = paysL l ∧ s.t 3 = .ref 0 0 0 ∧ s.t 7 = iv l.length ∧ s.t 8 = iv k ∧ s.H[0]? = some (some ⟨99, 5, [[iv v.Warrant, iv v.Payee, iv v.Amount, iv v.Due, iv v.Sub]]⟩) := ⟨_, rfl⟩
  refine aloop0 I (l.length) (by rw [hN]; rfl) ?_ ?_
  · rw [hI]
    exact ⟨0, by omega, by omega, by simp [idxI], by simp -dsimp -implicitDefEqProofs [-getElem?_pos, go_sem], by simp -dsimp -implicitDefEqProofs [-getElem?_pos, go_sem], by simp -dsimp -implicitDefEqProofs [-getElem?_pos, go_sem], by simp -dsimp -implicitDefEqProofs [-getElem?_pos, go_sem], by simp -dsimp -implicitDefEqProofs [-getElem?_pos, go_sem]⟩
  intro m s hs'
  rw [hI] at hs'
  obtain ⟨k, hk, hm, hi, t0, t3, t7, t8, h0⟩ := hs'
  have lt0 := (List.getElem?_eq_some_iff.1 h0).1
  simp -dsimp -implicitDefEqProofs [-getElem?_pos, go_sem, hP, t7, t8]
  refine condP (fun h => ?_) (fun h => ?_)
  · have hk : k < l.length := by simpa using h
    obtain ⟨a, ha⟩ : ∃ a, l[k]? = some a := ⟨_, List.getElem?_eq_getElem hk⟩
    have wk := wrap_in ((k : Int) + 1) (by omega)
    rw [drop_at ha] at hi
    simp only [idxFrom] at hi
    simp -dsimp -implicitDefEqProofs [-getElem?_pos, go_sem, hP, t8]
    refine adrawB (fun _ => true) [] hP (by kernel_rfl) (by kernel_rfl) ?_
    by_cases hp : v = a
    · subst hp
      rw [if_pos (by simp)] at hi
      simp -dsimp -implicitDefEqProofs [-getElem?_pos, go_sem, hP, t8, t3, t0, ha, h0, lt0, cPy]
      exact hi.symm
    · rw [if_neg (by simpa using hp)] at hi
      simp -dsimp -implicitDefEqProofs [-getElem?_pos, go_sem, hP, t8, t3, t0, ha, h0, lt0, cPy, wk]
      refine condP (fun h => ?_) (fun h => ?_)
      · exact absurd (by cases v; cases a; simp at h; simp [h]) hp
      · simp -dsimp -implicitDefEqProofs [-getElem?_pos, go_sem, hP, t8, wk]
        refine ⟨l.length - (k + 1), by omega, ?_⟩
        rw [hI]
        exact ⟨k + 1, by omega, rfl, hi, by simp -dsimp -implicitDefEqProofs [-getElem?_pos, go_sem, t0], by simp -dsimp -implicitDefEqProofs [-getElem?_pos, go_sem, t3], by simp -dsimp -implicitDefEqProofs [-getElem?_pos, go_sem, t7], by simp -dsimp -implicitDefEqProofs [-getElem?_pos, go_sem], by simp -dsimp -implicitDefEqProofs [-getElem?_pos, go_sem, h0]⟩
  · have hk : k = l.length := by simp at h; omega
    subst hk
    rw [List.drop_length] at hi
    simp -dsimp -implicitDefEqProofs [-getElem?_pos, go_sem, hP]
    exact hi.symm
theorem containsPay_pf (l : List TPayment) (v : TPayment) (hl : l.length ≤ 1000000) : PFun Tryz.prog none none 150 [paysL l, .agg v.cells] (· = bv (decide (v ∈ l))) := by
  refine pfun_intro Tryz.func150 rfl (by simp [Tryz.f150]) (by kernel_rfl) ?_
  intro E hP hr hs hW hN
  have ix := indexPay_pf l v hl
  have iv' := imm_pay v
  have il := imm_pays l
  rw [cPy] at ix iv'
  simp -dsimp -implicitDefEqProofs [-getElem?_pos, go_sem, hP, cPy]
  refine callB_is (ix.lift _ _) hP en_183 (by simpa using ⟨il, iv'⟩) .sc ?_
  rcases idxI_spec (fun x => decide (v = x)) l with ⟨h1, h2⟩ | ⟨i, a, h1, h2, h3, _⟩
  · have : decide (v ∈ l) = false := decide_eq_false fun hv => by simpa using h2 v hv
    simp -dsimp -implicitDefEqProofs [-getElem?_pos, go_sem, hP, h1, this]
  · have d : decide ((0 : Int) ≤ (i : Int)) = true := decide_eq_true (by omega)
    have hva : v = a := by simpa using h2
    have : decide (v ∈ l) = true := decide_eq_true (hva ▸ List.mem_of_getElem? h1)
    simp -dsimp -implicitDefEqProofs [-getElem?_pos, go_sem, hP, h3, d, this]
def CutI (l : List TItem) (w : Int) (k : Nat) : Prop := k ≤ l.length ∧ ∀ h x, l[h]? = some x → (x.Payment.Warrant < w ↔ h < k)
def PlaceQ (l : List TItem) (w : Int) (r : AV) : Prop := ∃ i : Nat, i ≤ l.length ∧ r = .tup [iv i, bv (decide ((l[i]?).map wrt = some w))] ∧ ∀ k, CutI l w k → i = k
theorem PlaceQ.flat {l : List TItem} {w : Int} {r : AV} (h : PlaceQ l w r) : Flat r := by
  obtain ⟨i, _, rfl, _⟩ := h
  simp [flat_tup, flat_sc]
open Go.PA
open Go.RowKit
theorem out_pf (x : TItem) : PFun Tryz.prog none none 187 [.agg x.cells] (· = bv (goneB x)) := by
  refine pfun_intro Tryz.func187 rfl (by simp [Tryz.f187]) (by kernel_rfl) ?_
  intro E hP hr hs hW hN
  by_cases h1 : x.State = 2
  · simp -dsimp -implicitDefEqProofs [-getElem?_pos, go_sem, hP, cIt, h1, goneB]
  · have d1 := decide_eq_false h1
    simp -dsimp -implicitDefEqProofs [-getElem?_pos, go_sem, hP, cIt, h1, d1, goneB]
theorem sent1_pf (p : TPayment) (w : Int) : PFun Tryz.prog none none 186 [.agg p.cells, .iref [iv w]] (· = bv (hasW w p)) := by
  refine pfun_intro Tryz.func186 rfl (by simp [Tryz.f186]) (by kernel_rfl) ?_
  intro E hP hr hs hW hN
  simp -dsimp -implicitDefEqProofs [-getElem?_pos, go_sem, hP, cPy, hasW]
theorem sent_pf (q : TQueue) (w : Int) (hf : FitQ q) : PFun Tryz.prog none none 153 [.agg q.cells, iv w] (· = iv (sentN q w)) := by
  refine pfun_intro Tryz.func153 rfl (by simp [Tryz.f153]) (by kernel_rfl) ?_
  intro E hP hr hs hW hN
  obtain ⟨R, hR⟩ : ∃ R, R = sentN q w := ⟨_, rfl⟩
  rw [← hR]
  rw [sentN] at hR
  have lb := hf.b
  have each := hf.each
  obtain ⟨l, hl⟩ : ∃ l, l = q.Batches := ⟨_, rfl⟩
  rw [← hl] at hR lb each
  simp -dsimp -implicitDefEqProofs [-getElem?_pos, go_sem, hP, cQn, ← hl]
  obtain ⟨I, hI⟩ : ∃ I : Nat → St → Prop, I = fun m s => ∃ k : Nat, k ≤ l.length ∧ m = l.length - k ∧ s.t 3 = .ref 1 0 0 ∧ s.t 5 = iv ((l.take k).countP fun b => b.Payments.any (hasW w)) ∧ s.t 9 = batsL l ∧ s.t 10 = iv l.length ∧ s.t 11 = iv k ∧ s.H[1]? = some (some ⟨3, 1, [[iv w]]⟩) := ⟨_, rfl⟩
  refine aloop0 I (l.length) (by rw [hN]; rfl) ?_ ?_
  · rw [hI]
    exact ⟨0, by omega, by omega, by simp -dsimp -implicitDefEqProofs [-getElem?_pos, go_sem], by simp -dsimp -implicitDefEqProofs [-getElem?_pos, go_sem], by simp -dsimp -implicitDefEqProofs [-getElem?_pos, go_sem], by simp -dsimp -implicitDefEqProofs [-getElem?_pos, go_sem], by simp -dsimp -implicitDefEqProofs [-getElem?_pos, go_sem], by simp -dsimp -implicitDefEqProofs [-getElem?_pos, go_sem]⟩
  intro m s hs'
  rw [hI] at hs'
  obtain ⟨k, hk, hm, t3, t5, t9, t10, t11, h1⟩ := hs'
  have lt1 := (List.getElem?_eq_some_iff.1 h1).1
  simp -dsimp -implicitDefEqProofs [-getElem?_pos, go_sem, hP, t10, t11]
  refine condP (fun h => ?_) (fun h => ?_)
  · have hk : k < l.length := by simpa using h
    obtain ⟨b, hb⟩ : ∃ b, l[k]? = some b := ⟨_, List.getElem?_eq_getElem hk⟩
    have wk := wrap_in ((k : Int) + 1) (by omega)
    have hbl := each b (List.mem_of_getElem? hb)
    have ip := imm_pays b.Payments
    have g1 : ∀ x : Option AObj, (s.H ++ [x])[1]? = some (some ⟨3, 1, [[iv w]]⟩) := fun x => by rw [List.getElem?_append_left lt1]; exact h1
    have es : (l.take (k + 1)).countP (fun b => b.Payments.any (hasW w)) = (l.take k).countP (fun b => b.Payments.any (hasW w)) + if b.Payments.any (hasW w) = true then 1 else 0 := by rw [take_at hb, List.countP_append, List.countP_cons, List.countP_nil, Nat.zero_add]
    have lc := List.countP_le_length (p := fun b : TBatch => b.Payments.any (hasW w)) (l := l.take k)
    rw [List.length_take] at lc
    generalize (l.take k).countP (fun b => b.Payments.any (hasW w)) = c at es t5 lc
    have wc := wrap_in ((c : Int) + 1) (by omega)
    simp -dsimp -implicitDefEqProofs [-getElem?_pos, go_sem, hP, t9, t11, hb, cBt, t3]
    refine callB_pure (contains_pf_pay b.Payments 186 [.iref [iv w]] (hasW w) (by omega) en_186 (by simp [imm_iref, imm_sc]) fun p _ => sent1_pf p w) hP en_180 (args_imm ip (args_fnc (cs := [.ref 1 0 0]) (by simp -dsimp -implicitDefEqProofs [-getElem?_pos, go_sem, viewR_ref, g1, lt1, h1]) (by simp [imm_iref, imm_sc]) (args_nil.2 trivial))) .sc ?_
    cases hc : b.Payments.any (hasW w)
    · rw [hc] at es
      simp -dsimp -implicitDefEqProofs [-getElem?_pos, go_sem, hP, t5, t11, wk]
      refine ⟨l.length - (k + 1), by omega, ?_⟩
      rw [hI]
      exact ⟨k + 1, by omega, rfl, by simp -dsimp -implicitDefEqProofs [-getElem?_pos, go_sem, t3], by simp -dsimp -implicitDefEqProofs [-getElem?_pos, go_sem, t5, es], by simp -dsimp -implicitDefEqProofs [-getElem?_pos, go_sem, t9], by simp -dsimp -implicitDefEqProofs [-getElem?_pos, go_sem, t10], by simp -dsimp -implicitDefEqProofs [-getElem?_pos, go_sem], by simp -dsimp -implicitDefEqProofs [-getElem?_pos, go_sem, lt1, h1]⟩
    · rw [hc] at es
      simp -dsimp -implicitDefEqProofs [-getElem?_pos, go_sem, hP, t5, t11, wk, wc]
      refine ⟨l.length - (k + 1), by omega, ?_⟩
      rw [hI]
      exact ⟨k + 1, by omega, rfl, by simp -dsimp -implicitDefEqProofs [-getElem?_pos, go_sem, t3], by simp -dsimp -implicitDefEqProofs [-getElem?_pos, go_sem, es], by simp -dsimp -implicitDefEqProofs [-getElem?_pos, go_sem, t9], by simp -dsimp -implicitDefEqProofs [-getElem?_pos, go_sem, t10], by simp -dsimp -implicitDefEqProofs [-getElem?_pos, go_sem], by simp -dsimp -implicitDefEqProofs [-getElem?_pos, go_sem, lt1, h1]⟩
  · have hk : k = l.length := by simp at h; omega
    subst hk
    rw [List.take_length] at t5
    simp -dsimp -implicitDefEqProofs [-getElem?_pos, go_sem, hP, t5, hR]
theorem moved_pf (a : TAccount) (x : TItem) (he : a.Entries.length ≤ 100000) (hs1 : 1 ≤ x.Payment.Sub) : PFun Tryz.prog none none 154 [.agg a.cells, .agg x.cells] (· = bv (movedB a x)) := by
  refine pfun_intro Tryz.func154 rfl (by simp [Tryz.f154]) (by kernel_rfl) ?_
  intro E hP hr hs hW hN
  have ix := imm_item x
  have ot := out_pf x
  rw [cIt] at ix ot
  obtain ⟨R, hR⟩ : ∃ R, R = movedB a x := ⟨_, rfl⟩
  rw [← hR]
  rw [movedB] at hR
  obtain ⟨l, hl⟩ : ∃ l, l = a.Entries := ⟨_, rfl⟩
  rw [← hl] at hR he
  simp -dsimp -implicitDefEqProofs [-getElem?_pos, go_sem, hP, cA, cIt, ← hl]
  obtain ⟨I, hI⟩ : ∃ I : Nat → St → Prop, I = fun m s => ∃ k : Nat, k ≤ l.length ∧ m = l.length - k ∧ (l.take k).all (okE x.Payment) = true ∧ s.t 3 = .ref 1 0 0 ∧ s.t 5 = iv ((l.take k).countP (outE x.Payment)) ∧ s.t 6 = iv ((l.take k).countP (inE x.Payment)) ∧ s.t 10 = entsL l ∧ s.t 11 = iv l.length ∧ s.t 12 = iv k ∧ s.H[1]? = some (some ⟨112, 7, [[iv x.Payment.Warrant, iv x.Payment.Payee, iv x.Payment.Amount, iv x.Payment.Due, iv x.Payment.Sub, iv x.State, iv x.Attempts]]⟩) := ⟨_, rfl⟩
  refine aloop0 I (l.length) (by rw [hN]; rfl) ?_ ?_
  · rw [hI]
    exact ⟨0, by omega, by omega, by simp, by simp -dsimp -implicitDefEqProofs [-getElem?_pos, go_sem], by simp -dsimp -implicitDefEqProofs [-getElem?_pos, go_sem], by simp -dsimp -implicitDefEqProofs [-getElem?_pos, go_sem], by simp -dsimp -implicitDefEqProofs [-getElem?_pos, go_sem], by simp -dsimp -implicitDefEqProofs [-getElem?_pos, go_sem], by simp -dsimp -implicitDefEqProofs [-getElem?_pos, go_sem], by simp -dsimp -implicitDefEqProofs [-getElem?_pos, go_sem]⟩
  intro m s hs'
  rw [hI] at hs'
  obtain ⟨k, hk, hm, hall, t3, t5, t6, t10, t11, t12, h1⟩ := hs'
  have lt1 := (List.getElem?_eq_some_iff.1 h1).1
  have lo := List.countP_le_length (p := outE x.Payment) (l := l.take k)
  have li := List.countP_le_length (p := inE x.Payment) (l := l.take k)
  rw [List.length_take] at lo li
  simp -dsimp -implicitDefEqProofs [-getElem?_pos, go_sem, hP, t11, t12]
  refine condP (fun h => ?_) (fun h => ?_)
  · have hk : k < l.length := by simpa using h
    obtain ⟨e, hee⟩ : ∃ e, l[k]? = some e := ⟨_, List.getElem?_eq_getElem hk⟩
    have wk := wrap_in ((k : Int) + 1) (by omega)
    have g1 : ∀ y : Option AObj, (s.H ++ [y])[1]? = some (some ⟨112, 7, [[iv x.Payment.Warrant, iv x.Payment.Payee, iv x.Payment.Amount, iv x.Payment.Due, iv x.Payment.Sub, iv x.State, iv x.Attempts]]⟩) := fun y => by rw [List.getElem?_append_left lt1]; exact h1
    have eo : (l.take (k + 1)).countP (outE x.Payment) = (l.take k).countP (outE x.Payment) + if outE x.Payment e = true then 1 else 0 := by rw [take_at hee, List.countP_append, List.countP_cons, List.countP_nil, Nat.zero_add]
    have ei : (l.take (k + 1)).countP (inE x.Payment) = (l.take k).countP (inE x.Payment) + if inE x.Payment e = true then 1 else 0 := by rw [take_at hee, List.countP_append, List.countP_cons, List.countP_nil, Nat.zero_add]
    have ea : (l.take (k + 1)).all (okE x.Payment) = okE x.Payment e := by rw [take_at hee, List.all_append, hall]; simp
    generalize (l.take k).countP (outE x.Payment) = co at eo t5 lo
    generalize (l.take k).countP (inE x.Payment) = ci at ei t6 li
    have wo := wrap_in ((co : Int) + 1) (by omega)
    have wi := wrap_in ((ci : Int) + 1) (by omega)
    have fin : ∀ s' : St, okE x.Payment e = true → s'.t 3 = .ref 1 0 0 → s'.t 5 = iv ((l.take (k + 1)).countP (outE x.Payment)) → s'.t 6 = iv ((l.take (k + 1)).countP (inE x.Payment)) → s'.t 10 = entsL l → s'.t 11 = iv l.length → s'.t 12 = iv (k + 1) → s'.H[1]? = some (some ⟨112, 7, [[iv x.Payment.Warrant, iv x.Payment.Payee, iv x.Payment.Amount, iv x.Payment.Due, iv x.Payment.Sub, iv x.State, iv x.Attempts]]⟩) → ∃ m', m' < m ∧ I m' s' := fun s' a1 a2 a3 a4 a5 a6 a7 a8 => by
      refine ⟨l.length - (k + 1), by omega, ?_⟩
      rw [hI]
      exact ⟨k + 1, by omega, rfl, by rw [ea]; exact a1, a2, a3, a4, a5, a6, a7, a8⟩
    have bad : okE x.Payment e = false → R = false := fun h => by
      rw [hR, Bool.and_eq_false_iff]
      refine .inl (List.all_eq_false.2 ⟨e, List.mem_of_getElem? hee, by simp [h]⟩)
    by_cases c1 : e.Ref = x.Payment.Warrant
    rotate_left
    · have d1 := decide_eq_false c1
      rw [show outE x.Payment e = false by simp [outE, d1], if_neg (by simp)] at eo
      rw [show inE x.Payment e = false by simp [inE, d1], if_neg (by simp)] at ei
      simp -dsimp -implicitDefEqProofs [-getElem?_pos, go_sem, hP, t10, t12, hee, cE, t3, g1, lt1, h1, c1, d1, wk]
      exact fin _ (by simp [okE, d1]) (by simp -dsimp -implicitDefEqProofs [-getElem?_pos, go_sem, t3]) (by simp -dsimp -implicitDefEqProofs [-getElem?_pos, go_sem, t5, eo]) (by simp -dsimp -implicitDefEqProofs [-getElem?_pos, go_sem, t6, ei]) (by simp -dsimp -implicitDefEqProofs [-getElem?_pos, go_sem, t10]) (by simp -dsimp -implicitDefEqProofs [-getElem?_pos, go_sem, t11]) (by simp -dsimp -implicitDefEqProofs [-getElem?_pos, go_sem]) (by simp -dsimp -implicitDefEqProofs [-getElem?_pos, go_sem, lt1, h1])
    have d1 : decide (e.Ref = x.Payment.Warrant) = true := decide_eq_true c1
    have bool1 : ∀ a b c d f : Bool, (a && (b && c)) = false → (d && (f && c)) = false → (!true || (c && (a && b || d && f))) = false := by decide
    simp -dsimp -implicitDefEqProofs [-getElem?_pos, go_sem, hP, t10, t12, hee, cE, t3, g1, lt1, h1, c1]
    refine condP (fun q1 => ?_) (fun q1 => ?_)
    · simp only [Bool.and_eq_true, decide_eq_true_eq] at q1
      obtain ⟨q1, q2, q3⟩ := q1
      rw [show outE x.Payment e = true by simp [outE, c1, q1, q2], if_pos rfl] at eo
      rw [show inE x.Payment e = false by simp [inE, c1, q1]; omega, if_neg (by simp)] at ei
      simp -dsimp -implicitDefEqProofs [-getElem?_pos, go_sem, hP, t5, t12, wo, wk]
      exact fin _ (by simp [okE, d1, q1, q2, q3]) (by simp -dsimp -implicitDefEqProofs [-getElem?_pos, go_sem, t3]) (by simp -dsimp -implicitDefEqProofs [-getElem?_pos, go_sem, eo]) (by simp -dsimp -implicitDefEqProofs [-getElem?_pos, go_sem, t6, ei]) (by simp -dsimp -implicitDefEqProofs [-getElem?_pos, go_sem, t10]) (by simp -dsimp -implicitDefEqProofs [-getElem?_pos, go_sem, t11]) (by simp -dsimp -implicitDefEqProofs [-getElem?_pos, go_sem]) (by simp -dsimp -implicitDefEqProofs [-getElem?_pos, go_sem, lt1, h1])
    simp -dsimp -implicitDefEqProofs [-getElem?_pos, go_sem, hP, t3, g1, lt1, h1]
    refine condP (fun q5 => ?_) (fun q5 => ?_)
    · simp only [Bool.and_eq_true, decide_eq_true_eq] at q5
      obtain ⟨q5, q6, q7⟩ := q5
      rw [show outE x.Payment e = false by simp [outE, c1, q5]; omega, if_neg (by simp)] at eo
      rw [show inE x.Payment e = true by simp [inE, c1, q5, q6], if_pos rfl] at ei
      simp -dsimp -implicitDefEqProofs [-getElem?_pos, go_sem, hP, t6, t12, wi, wk]
      exact fin _ (by simp [okE, d1, q5, q6, q7]) (by simp -dsimp -implicitDefEqProofs [-getElem?_pos, go_sem, t3]) (by simp -dsimp -implicitDefEqProofs [-getElem?_pos, go_sem, t5, eo]) (by simp -dsimp -implicitDefEqProofs [-getElem?_pos, go_sem, ei]) (by simp -dsimp -implicitDefEqProofs [-getElem?_pos, go_sem, t10]) (by simp -dsimp -implicitDefEqProofs [-getElem?_pos, go_sem, t11]) (by simp -dsimp -implicitDefEqProofs [-getElem?_pos, go_sem]) (by simp -dsimp -implicitDefEqProofs [-getElem?_pos, go_sem, lt1, h1])
    have := bad (by rw [okE, d1]; exact bool1 _ _ _ _ _ q1 q5)
    simp -dsimp -implicitDefEqProofs [-getElem?_pos, go_sem, hP, this]
  · have hk : k = l.length := by simp at h; omega
    subst hk
    rw [List.take_length] at t5 t6 hall lo li
    rw [hall, Bool.true_and] at hR
    generalize l.countP (outE x.Payment) = co at hR t5 lo
    generalize l.countP (inE x.Payment) = ci at hR t6 li
    have wi := wrap_in ((ci : Int) + 1) (by omega)
    simp -dsimp -implicitDefEqProofs [-getElem?_pos, go_sem, hP, t3, h1, lt1]
    refine callB_is (ot.lift _ _) hP en_187 (by simpa using ix) .sc ?_
    cases hg : goneB x
    · rw [show goneN x = 0 by simp [goneN, hg]] at hR
      by_cases c2 : (co : Int) = x.Attempts
      · have d2 := decide_eq_true c2
        rw [d2, Bool.true_and] at hR
        simp -dsimp -implicitDefEqProofs [-getElem?_pos, go_sem, hP, hg, t5, t6, t3, h1, lt1, d2, hR, c2]
      · have d2 := decide_eq_false c2
        rw [d2, Bool.false_and] at hR
        simp -dsimp -implicitDefEqProofs [-getElem?_pos, go_sem, hP, hg, t5, t6, t3, h1, lt1, d2, hR, c2]
    · rw [show goneN x = 1 by simp [goneN, hg]] at hR
      by_cases c2 : (co : Int) = x.Attempts
      · have d2 := decide_eq_true c2
        rw [d2, Bool.true_and] at hR
        simp -dsimp -implicitDefEqProofs [-getElem?_pos, go_sem, hP, hg, t5, t6, t3, h1, lt1, d2, hR, c2, wi]
      · have d2 := decide_eq_false c2
        rw [d2, Bool.false_and] at hR
        simp -dsimp -implicitDefEqProofs [-getElem?_pos, go_sem, hP, hg, t5, t6, t3, h1, lt1, d2, hR, c2, wi]
open Go.PA
open Go.RowKit
abbrev deskO (d : TDesk) : AObj := ⟨35, 7, [[iv d.Account.Credit, subsL d.Account.Subs, entsL d.Account.Entries, paysL d.Queue.Waiting, numsL d.Queue.Known, batsL d.Queue.Batches, itemsL d.Items]]⟩
abbrev itemO (x : TItem) : AObj := ⟨112, 7, [[iv x.Payment.Warrant, iv x.Payment.Payee, iv x.Payment.Amount, iv x.Payment.Due, iv x.Payment.Sub, iv x.State, iv x.Attempts]]⟩
set_option maxHeartbeats 2000000 in
theorem right_pf (d : TDesk) (x : TItem) (hf : FitD d) : PFun Tryz.prog none none 91 [.agg d.cells, .agg x.cells] (· = bv (rightB d x)) := by
  refine pfun_introA Tryz.func91 rfl (by simp [Tryz.f91]) ?_
  intro E hP hr hs hW hN
  have ix := imm_item x
  have ia := imm_acc d.Account
  have iq := imm_que d.Queue
  have ip := imm_pay x.Payment
  have i1 := imm_pays d.Queue.Waiting
  have bl := balance_pf d.Account x.Payment.Sub hf.s hf.e
  have py := bpay_pf x.Payment
  have cp := containsPay_pf d.Queue.Waiting x.Payment (by have := hf.q.w; omega)
  have sn := sent_pf d.Queue x.Payment.Warrant hf.q
  have mv := fun h => moved_pf d.Account x hf.e h
  rw [cIt] at ix
  rw [cA] at ia bl
  rw [cPy] at ip py cp
  rw [cQn] at iq sn
  rw [cA, cIt] at mv
  obtain ⟨R, hR⟩ : ∃ R, R = rightB d x := ⟨_, rfl⟩
  rw [← hR]
  rw [rightB] at hR
  refine awp_cut (by rw [hN]; kernel_rfl) ?_
  simp -dsimp -implicitDefEqProofs [-getElem?_pos, go_sem, hP, cDn, cIt]
  refine awp_cut (by rw [hN]; kernel_rfl) ?_
  simp -dsimp -implicitDefEqProofs [-getElem?_pos, go_sem, hP]
  obtain ⟨Inv, hInv⟩ : ∃ Inv : St → Prop, Inv = fun s => s.t 2 = .ref 0 0 0 ∧ s.t 3 = .ref 1 0 0 ∧ s.t 5 = iv (mostI x) ∧ s.t 6 = iv (leastI x) ∧ s.H = [some (deskO d), some (itemO x)] := ⟨_, rfl⟩
  refine awp_join Inv (by rw [hN]; kernel_rfl) ?_ ?_
  · by_cases s1 : x.State = 1
    · have e1 : mostI x = 4 := by rw [mostI, if_pos s1]
      have e2 : leastI x = 0 := by rw [leastI, if_pos s1]
      simp -dsimp -implicitDefEqProofs [-getElem?_pos, go_sem, hP, s1]
      refine ⟨_, Weaker.refl _, ?_⟩
      rw [hInv]
      exact ⟨by simp -dsimp -implicitDefEqProofs [-getElem?_pos, go_sem], by simp -dsimp -implicitDefEqProofs [-getElem?_pos, go_sem], by simp -dsimp -implicitDefEqProofs [-getElem?_pos, go_sem, e1], by simp -dsimp -implicitDefEqProofs [-getElem?_pos, go_sem, e2], by simp [s1]⟩
    have d1 := decide_eq_false s1
    have e1 : mostI x = 5 := by rw [mostI, if_neg s1]
    by_cases s5 : x.State = 5
    · have e2 : leastI x = 0 := by rw [leastI, if_neg s1, if_pos s5]
      simp -dsimp -implicitDefEqProofs [-getElem?_pos, go_sem, hP, s1, d1, s5]
      refine ⟨_, Weaker.refl _, ?_⟩
      rw [hInv]
      exact ⟨by simp -dsimp -implicitDefEqProofs [-getElem?_pos, go_sem], by simp -dsimp -implicitDefEqProofs [-getElem?_pos, go_sem], by simp -dsimp -implicitDefEqProofs [-getElem?_pos, go_sem, e1], by simp -dsimp -implicitDefEqProofs [-getElem?_pos, go_sem, e2], by simp [s5]⟩
    · have d5 := decide_eq_false s5
      have e2 : leastI x = 1 := by rw [leastI, if_neg s1, if_neg s5]
      simp -dsimp -implicitDefEqProofs [-getElem?_pos, go_sem, hP, s1, d1, s5, d5]
      refine ⟨_, Weaker.refl _, ?_⟩
      rw [hInv]
      exact ⟨by simp -dsimp -implicitDefEqProofs [-getElem?_pos, go_sem], by simp -dsimp -implicitDefEqProofs [-getElem?_pos, go_sem], by simp -dsimp -implicitDefEqProofs [-getElem?_pos, go_sem, e1], by simp -dsimp -implicitDefEqProofs [-getElem?_pos, go_sem, e2], rfl⟩
  intro s hs'
  rw [hInv] at hs'
  obtain ⟨t2, t3, t5, t6, hH⟩ := hs'
  clear hInv Inv
  refine awp_sound _ _ _ (by rw [hN]; kernel_rfl) ?_
  simp -dsimp -implicitDefEqProofs [-getElem?_pos, go_sem, hP, t2, t3, hH]
  refine callB_is (cp.lift _ _) hP en_150 (by simpa using ⟨i1, ip⟩) .sc ?_
  simp -dsimp -implicitDefEqProofs [-getElem?_pos, go_sem, hP, t2, t3, hH]
  refine callB_is (bl.lift _ _) hP en_151 (by simpa [imm_sc] using ia) (imm_pair .sc .sc) ?_
  simp -dsimp -implicitDefEqProofs [-getElem?_pos, go_sem, hP, t2, t3, hH]
  refine adrawB (fun _ => true) [] hP (by kernel_rfl) (by kernel_rfl) ?_
  cases c1 : (balanceA d.Account x.Payment.Sub).2
  · rw [c1, Bool.false_and] at hR
    simp -dsimp -implicitDefEqProofs [-getElem?_pos, go_sem, hP, c1, hR]
  rw [c1, Bool.true_and] at hR
  simp -dsimp -implicitDefEqProofs [-getElem?_pos, go_sem, hP, t2, t3, hH]
  refine callB_is (py.lift _ _) hP en_152 (by simpa using ip) .sc ?_
  cases c2 : payB x.Payment
  · rw [c2, Bool.false_and] at hR
    simp -dsimp -implicitDefEqProofs [-getElem?_pos, go_sem, hP, c2, hR]
  have hsub := ((payB_iff x.Payment).1 c2).sub.1
  rw [c2, Bool.true_and] at hR
  simp -dsimp -implicitDefEqProofs [-getElem?_pos, go_sem, hP, t2, t3, hH]
  by_cases c3 : 1 ≤ x.State
  rotate_left
  · rw [amg_no (by omega), Bool.false_and] at hR
    have d3 := decide_eq_false c3
    simp -dsimp -implicitDefEqProofs [-getElem?_pos, go_sem, hP, t2, t3, c3, d3, hR]
  have d3 := decide_eq_true c3
  by_cases c4 : x.State ≤ 5
  rotate_left
  · rw [amg_no (by omega), Bool.false_and] at hR
    have d4 := decide_eq_false c4
    simp -dsimp -implicitDefEqProofs [-getElem?_pos, go_sem, hP, t2, t3, d3, d4, hR]
  have d4 := decide_eq_true c4
  rw [amg_iff.2 ⟨c3, c4⟩, Bool.true_and] at hR
  by_cases c5 : leastI x ≤ x.Attempts
  rotate_left
  · rw [amg_no (by omega), Bool.false_and] at hR
    have d5 := decide_eq_false c5
    simp -dsimp -implicitDefEqProofs [-getElem?_pos, go_sem, hP, t2, t3, d3, d4, d5, hR, t5, t6]
  have d5 := decide_eq_true c5
  by_cases c6 : x.Attempts ≤ mostI x
  rotate_left
  · rw [amg_no (by omega), Bool.false_and] at hR
    have d6 := decide_eq_false c6
    simp -dsimp -implicitDefEqProofs [-getElem?_pos, go_sem, hP, t2, t3, d3, d4, d5, d6, hR, t5, t6]
  have d6 := decide_eq_true c6
  rw [amg_iff.2 ⟨c5, c6⟩, Bool.true_and] at hR
  simp -dsimp -implicitDefEqProofs [-getElem?_pos, go_sem, hP, t2, t3, d3, d4, d5, d6, t5, t6]
  by_cases c7 : decide (x.Payment ∈ d.Queue.Waiting) = decide (x.State = 1)
  rotate_left
  · rw [decide_eq_false c7, Bool.false_and] at hR
    have d7 : (decide (x.Payment ∈ d.Queue.Waiting) == decide (x.State = 1)) = false := by rw [beq_eq_false_iff_ne]; exact c7
    simp -dsimp -implicitDefEqProofs [-getElem?_pos, go_sem, hP, t2, t3, d7, hR]
  have d7 : (decide (x.Payment ∈ d.Queue.Waiting) == decide (x.State = 1)) = true := by rw [beq_iff_eq]; exact c7
  rw [decide_eq_true c7, Bool.true_and] at hR
  simp -dsimp -implicitDefEqProofs [-getElem?_pos, go_sem, hP, t2, t3, d7]
  refine callB_is (sn.lift _ _) hP en_153 (by simpa [imm_sc] using iq) .sc ?_
  by_cases c8 : (sentN d.Queue x.Payment.Warrant : Int) = x.Attempts
  rotate_left
  · rw [decide_eq_false c8, Bool.false_and] at hR
    have d8 := decide_eq_false c8
    simp -dsimp -implicitDefEqProofs [-getElem?_pos, go_sem, hP, t2, t3, d7, d8, hR]
  have d8 := decide_eq_true c8
  rw [d8, Bool.true_and] at hR
  simp -dsimp -implicitDefEqProofs [-getElem?_pos, go_sem, hP, t2, t3, d7, d8]
  refine callB_is ((mv hsub).lift _ _) hP en_154 (by simpa using ⟨ia, ix⟩) .sc ?_
  simp -dsimp -implicitDefEqProofs [-getElem?_pos, go_sem, hP, d7, d8, hR]
theorem deskP_or {d : TDesk} (hq : QOk d.Queue) (ha : checkA d.Account = 0) : checkD d = if deskP d = true then 0 else 68 := by
  rw [checkD, if_pos ha, if_pos (checkQ_iff.2 hq), deskP_eq hq]
theorem map_snoc_take {l : List TItem} {k : Nat} {x : TItem} (h : l[k]? = some x) : (l.take (k + 1)).map wrt = (l.take k).map wrt ++ [wrt x] := by rw [take_at h, List.map_append]; rfl
set_option maxHeartbeats 2000000 in
theorem dcheck_pf (d : TDesk) (hf : FitD d) : PFun Tryz.prog none none 41 [.agg d.cells] (· = iv (checkD d)) := by
  refine pfun_intro Tryz.func41 rfl (by simp [Tryz.f41]) (by kernel_rfl) ?_
  intro E hP hr hs hW hN
  have ia := imm_acc d.Account
  have iq := imm_que d.Queue
  have id' := imm_desk d
  have cka := check_pf d.Account hf.s hf.e
  have ckq := bcheck_pf d.Queue hf.q
  have rt := fun x => right_pf d x hf
  rw [cA] at ia cka
  rw [cQn] at iq ckq
  rw [cDn] at id'
  simp only [cDn] at rt
  have li := hf.i
  have lk := hf.q.k
  have lw := hf.q.w
  obtain ⟨R, hR⟩ : ∃ R, R = checkD d := ⟨_, rfl⟩
  rw [← hR]
  simp -dsimp -implicitDefEqProofs [-getElem?_pos, go_sem, hP, cDn]
  refine callB_is (cka.lift _ _) hP en_89 (by simpa using ia) .sc ?_
  by_cases c1 : checkA d.Account = 0
  rotate_left
  · have : R = checkA d.Account := by rw [hR, checkD, if_neg c1]
    simp -dsimp -implicitDefEqProofs [-getElem?_pos, go_sem, hP, c1, this]
  simp -dsimp -implicitDefEqProofs [-getElem?_pos, go_sem, hP, c1]
  refine callB_is (ckq.lift _ _) hP en_90 (by simpa using iq) .sc ?_
  by_cases c2 : checkQ d.Queue = 0
  rotate_left
  · have : R = checkQ d.Queue := by rw [hR, checkD, if_pos c1, if_neg c2]
    simp -dsimp -implicitDefEqProofs [-getElem?_pos, go_sem, hP, c2, this]
  have hq := checkQ_iff.1 c2
  rw [deskP_or hq c1] at hR
  obtain ⟨l, hl⟩ : ∃ l, l = d.Items := ⟨_, rfl⟩
  have hRl : R = if (l.all (rightB d) && (decide (l.map wrt = d.Queue.Known) && decide (l.countP queuedB = d.Queue.Waiting.length))) = true then 0 else 68 := by rw [hR, hl]; rfl
  clear hR
  rw [← hl] at li
  simp only [← hl] at rt id'
  simp -dsimp -implicitDefEqProofs [-getElem?_pos, go_sem, hP, c2, ← hl]
  refine aloop_own 5 3 1 (by simp -dsimp -implicitDefEqProofs [-getElem?_pos, go_sem]) ?_
  obtain ⟨I, hI⟩ : ∃ I : Nat → St → Prop, I = fun m s => ∃ (k id : Nat), k ≤ l.length ∧ m = l.length - k ∧ (l.take k).all (rightB d) = true ∧ 1 ≤ id ∧ s.t 1 = .ref 0 0 0 ∧ s.t 5 = .sref id 0 k ∧ s.t 6 = iv ((l.take k).countP queuedB) ∧ s.t 22 = itemsL l ∧ s.t 23 = iv l.length ∧ s.t 24 = iv k ∧ s.H[0]? = some (some ⟨35, 7, [[iv d.Account.Credit, subsL d.Account.Subs, entsL d.Account.Entries, paysL d.Queue.Waiting, numsL d.Queue.Known, batsL d.Queue.Batches, itemsL l]]⟩) ∧ s.H[id]? = some (some ⟨3, 1, encL encI ((l.take k).map wrt)⟩) := ⟨_, rfl⟩
  refine aloop0 I (l.length) (by rw [hN]; rfl) ?_ ?_
  · rw [hI]
    exact ⟨0, 1, by omega, by omega, by simp, by omega, by simp -dsimp -implicitDefEqProofs [-getElem?_pos, go_sem], by simp -dsimp -implicitDefEqProofs [-getElem?_pos, go_sem], by simp -dsimp -implicitDefEqProofs [-getElem?_pos, go_sem], by simp -dsimp -implicitDefEqProofs [-getElem?_pos, go_sem], by simp -dsimp -implicitDefEqProofs [-getElem?_pos, go_sem], by simp -dsimp -implicitDefEqProofs [-getElem?_pos, go_sem], by simp -dsimp -implicitDefEqProofs [-getElem?_pos, go_sem], by simp -dsimp -implicitDefEqProofs [-getElem?_pos, go_sem, encL]⟩
  intro m s hs'
  rw [hI] at hs'
  obtain ⟨k, id, hk, hm, hall, hid, t1, t5, t6, t22, t23, t24, h0, hH⟩ := hs'
  have lt0 := (List.getElem?_eq_some_iff.1 h0).1
  have lti := (List.getElem?_eq_some_iff.1 hH).1
  have lc := List.countP_le_length (p := queuedB) (l := l.take k)
  rw [List.length_take] at lc
  have lws : (encL encI ((l.take k).map wrt)).length = k := by rw [encL_len, List.length_map, List.length_take]; omega
  simp -dsimp -implicitDefEqProofs [-getElem?_pos, go_sem, hP, t23, t24]
  refine condP (fun hh => ?_) (fun hh => ?_)
  · have hk : k < l.length := by simpa using hh
    obtain ⟨x, hx⟩ : ∃ x, l[k]? = some x := ⟨_, List.getElem?_eq_getElem hk⟩
    have wk := wrap_in ((k : Int) + 1) (by omega)
    have ix := imm_item x
    have rx := rt x
    rw [cIt] at ix rx
    have g0 : ∀ y : Option AObj, (s.H ++ [y])[0]? = some (some ⟨35, 7, [[iv d.Account.Credit, subsL d.Account.Subs, entsL d.Account.Entries, paysL d.Queue.Waiting, numsL d.Queue.Known, batsL d.Queue.Batches, itemsL l]]⟩) := fun y => by rw [List.getElem?_append_left lt0]; exact h0
    have gi : ∀ y : Option AObj, (s.H ++ [y])[id]? = some (some ⟨3, 1, encL encI ((l.take k).map wrt)⟩) := fun y => by rw [List.getElem?_append_left lti]; exact hH
    have ec : (l.take (k + 1)).countP queuedB = (l.take k).countP queuedB + if queuedB x = true then 1 else 0 := by rw [take_at hx, List.countP_append, List.countP_cons, List.countP_nil, Nat.zero_add]
    have ea : (l.take (k + 1)).all (rightB d) = rightB d x := by rw [take_at hx, List.all_append, hall]; simp
    have ew : encL encI ((l.take (k + 1)).map wrt) = encL encI ((l.take k).map wrt) ++ [[iv x.Payment.Warrant]] := by rw [map_snoc_take hx]; exact (encL_snoc encI _ _).symm
    generalize (l.take k).countP queuedB = cq at ec t6 lc
    generalize encL encI ((l.take k).map wrt) = ws at ew hH gi lws
    have wq := wrap_in ((cq : Int) + 1) (by omega)
    simp -dsimp -implicitDefEqProofs [-getElem?_pos, go_sem, hP, t22, t24, hx, cIt, t1, g0, lt0, h0]
    refine callB_is (rx.lift _ _) hP en_91 (by simpa using ⟨id', ix⟩) .sc ?_
    have n0 : ¬ id = 0 := by omega
    cases hrx : rightB d x
    · have : R = 68 := by
        rw [hRl, if_neg]
        rw [Bool.and_eq_true]
        rintro ⟨h1, _⟩
        have := List.all_eq_true.1 h1 x (List.mem_of_getElem? hx)
        rw [hrx] at this
        cases this
      simp -dsimp -implicitDefEqProofs [-getElem?_pos, go_sem, hP, this]
    rw [hrx] at ea
    have fin : ∀ s' : St, s'.t 1 = .ref 0 0 0 → s'.t 5 = .sref (s.H.length + 1) 0 (k + 1) → s'.t 6 = iv ((l.take (k + 1)).countP queuedB) → s'.t 22 = itemsL l → s'.t 23 = iv l.length → s'.t 24 = iv (k + 1) → s'.H[0]? = some (some ⟨35, 7, [[iv d.Account.Credit, subsL d.Account.Subs, entsL d.Account.Entries, paysL d.Queue.Waiting, numsL d.Queue.Known, batsL d.Queue.Batches, itemsL l]]⟩) → s'.H[s.H.length + 1]? = some (some ⟨3, 1, ws ++ [[iv x.Payment.Warrant]]⟩) → ∃ m', m' < m ∧ I m' s' := fun s' a1 a2 a3 a4 a5 a6 a7 a8 => by
      refine ⟨l.length - (k + 1), by omega, ?_⟩
      rw [hI]
      exact ⟨k + 1, s.H.length + 1, by omega, rfl, ea, by omega, a1, a2, a3, a4, a5, a6, a7, by rw [ew]; exact a8⟩
    by_cases hs : x.State = 1
    · rw [show queuedB x = true by simp [queuedB, hs], if_pos rfl] at ec
      simp -dsimp -implicitDefEqProofs [-getElem?_pos, go_sem, hP, hs, t6, wq, t5, gi, hH, lti, lws, t24, wk]
      refine ⟨by omega, by omega, ?_⟩
      exact fin _ (by simp -dsimp -implicitDefEqProofs [-getElem?_pos, go_sem, t1]) (by simp -dsimp -implicitDefEqProofs [-getElem?_pos, go_sem]) (by simp -dsimp -implicitDefEqProofs [-getElem?_pos, go_sem, ec]) (by simp -dsimp -implicitDefEqProofs [-getElem?_pos, go_sem, t22]) (by simp -dsimp -implicitDefEqProofs [-getElem?_pos, go_sem, t23]) (by simp -dsimp -implicitDefEqProofs [-getElem?_pos, go_sem]) (by simp -dsimp -implicitDefEqProofs [-getElem?_pos, go_sem, lt0, h0, n0]) (by simp -dsimp -implicitDefEqProofs [-getElem?_pos, go_sem])
    · rw [show queuedB x = false by simp [queuedB, hs], if_neg (by simp)] at ec
      have ds := decide_eq_false hs
      simp -dsimp -implicitDefEqProofs [-getElem?_pos, go_sem, hP, hs, ds, t5, gi, hH, lti, lws, t24, wk]
      refine ⟨by omega, by omega, ?_⟩
      exact fin _ (by simp -dsimp -implicitDefEqProofs [-getElem?_pos, go_sem, t1]) (by simp -dsimp -implicitDefEqProofs [-getElem?_pos, go_sem]) (by simp -dsimp -implicitDefEqProofs [-getElem?_pos, go_sem, t6, ec]) (by simp -dsimp -implicitDefEqProofs [-getElem?_pos, go_sem, t22]) (by simp -dsimp -implicitDefEqProofs [-getElem?_pos, go_sem, t23]) (by simp -dsimp -implicitDefEqProofs [-getElem?_pos, go_sem]) (by simp -dsimp -implicitDefEqProofs [-getElem?_pos, go_sem, lt0, h0, n0]) (by simp -dsimp -implicitDefEqProofs [-getElem?_pos, go_sem])
  · have hk : k = l.length := by simp at hh; omega
    subst hk
    rw [List.take_length] at t6 hall hH
    rw [hall, Bool.true_and] at hRl
    have eq := equalInts_pf (l.map wrt) d.Queue.Known (by rw [List.length_map]; omega) (by omega)
    simp -dsimp -implicitDefEqProofs [-getElem?_pos, go_sem, hP, t5, t1, h0, lt0]
    refine callB_pure eq hP en_92 (args_sref hH (by rw [encL_len, List.length_map]) (imm_nums _) (args_imm (imm_nums _) (args_nil.2 trivial))) .sc ?_
    by_cases c3 : l.map wrt = d.Queue.Known
    rotate_left
    · have d3 := decide_eq_false c3
      rw [d3, Bool.false_and] at hRl
      simp -dsimp -implicitDefEqProofs [-getElem?_pos, go_sem, hP, d3, hRl]
    have d3 := decide_eq_true c3
    rw [d3, Bool.true_and] at hRl
    by_cases c4 : l.countP queuedB = d.Queue.Waiting.length
    · have d4 : decide ((l.countP queuedB : Int) = (d.Queue.Waiting.length : Int)) = true := decide_eq_true (by omega)
      rw [decide_eq_true c4] at hRl
      simp -dsimp -implicitDefEqProofs [-getElem?_pos, go_sem, hP, d3, t1, h0, lt0, t6, d4, hRl]
    · have d4 : decide ((l.countP queuedB : Int) = (d.Queue.Waiting.length : Int)) = false := decide_eq_false (by omega)
      rw [decide_eq_false c4] at hRl
      simp -dsimp -implicitDefEqProofs [-getElem?_pos, go_sem, hP, d3, t1, h0, lt0, t6, d4, hRl]
open Go.PA
open Go.RowKit
open Go.PA
open Go.RowKit
theorem DOk.ks {d : TDesk} (h : DOk d) : (d.Items.map wrt).Pairwise (· < ·) := by rw [h.k]; exact h.q.ks
theorem DOk.nd {d : TDesk} (h : DOk d) : (d.Items.map wrt).Nodup := sorted_nodup h.ks
theorem posI_at {l : List TItem} (hn : (l.map wrt).Nodup) {k : Nat} {x : TItem} (hx : l[k]? = some x) : posI l x.Payment.Warrant = k := by
  unfold posI
  rcases idxI_spec (fun y : TItem => decide (y.Payment.Warrant = x.Payment.Warrant)) l with ⟨h1, h2⟩ | ⟨i, a, h1, h2, h3, _⟩
  · have := h2 x (List.mem_of_getElem? hx)
    simp at this
  · have h2 : a.Payment.Warrant = x.Payment.Warrant := by simpa using h2
    have e1 : (l.map wrt)[i]? = some x.Payment.Warrant := by rw [List.getElem?_map, h1]; exact congrArg some h2
    have e2 : (l.map wrt)[k]? = some x.Payment.Warrant := by rw [List.getElem?_map, hx]; rfl
    have := (List.getElem?_inj (List.getElem?_eq_some_iff.1 e1).1 hn).1 (e1.trans e2.symm)
    rw [h3, this]
theorem posI_none {l : List TItem} {w : Int} (h : w ∉ l.map wrt) : posI l w = -1 := by
  unfold posI
  rcases idxI_spec (fun y : TItem => decide (y.Payment.Warrant = w)) l with ⟨h1, h2⟩ | ⟨i, a, h1, h2, h3, _⟩
  · exact h1
  · have h2 : a.Payment.Warrant = w := by simpa using h2
    exact absurd (List.mem_map.2 ⟨a, List.mem_of_getElem? h1, h2⟩) h
theorem changeD_bad {d : TDesk} {w st : Int} {f : TDesk → TItem → Done1} (h : ¬ checkD d = 0) : changeD d w st f = (zeroD, checkD d) := by rw [changeD, if_neg h]
theorem changeD_none {d : TDesk} {w st : Int} {f : TDesk → TItem → Done1} (h : checkD d = 0) (hw : w ∉ d.Items.map wrt) : changeD d w st f = (zeroD, 6) := by
  rw [changeD, if_pos h]
  split
  · rfl
  · rw [if_pos (by rw [posI_none hw]; omega)]
theorem changeD_at {d : TDesk} {st : Int} {f : TDesk → TItem → Done1} (h : checkD d = 0) {k : Nat} {x : TItem} (hx : d.Items[k]? = some x) : changeD d x.Payment.Warrant st f = if x.State = st then (if (f d x).e = 0 then (⟨(f d x).a, (f d x).q, d.Items.set k (f d x).x⟩, 0) else (zeroD, (f d x).e)) else (zeroD, 67) := by
  have hp := posI_at (checkD_iff.1 h).nd hx
  rw [changeD, if_pos h, hp, Int.toNat_natCast, hx]
  simp only
  rw [if_neg (by omega)]
theorem cw_zeroD {H : Heap} : CW H [iv 0, .nil, .nil, .nil, .nil, .nil, .nil] zeroD.cells := cw_sc (cw_nil (cw_nil (cw_nil (cw_nil (cw_nil (cw_nil .nil))))))
theorem done_zeroD {H : Heap} {n : Int} {Q : AV → Prop} {b : Bx Q} (h : Q (.tup [.agg zeroD.cells, iv n])) : Done H (.tup [.agg [iv 0, .nil, .nil, .nil, .nil, .nil, .nil], iv n]) Q b := done_agg2 cw_zeroD h
open Go.PA
open Go.RowKit
theorem encL_set {α : Type} (f : α → List AV) (l : List α) (i : Nat) (x : α) : (encL f l).set i (f x) = encL f (l.set i x) := by
  simp [encL, List.map_set]
open Go.PA
open Go.RowKit
theorem rat_pf (d : TDesk) (w : Int) (hl : d.Items.length ≤ 1000000) : PFun Tryz.prog none none 51 [.agg d.cells, iv w] (· = iv (posI d.Items w)) := by
  refine pfun_intro Tryz.func51 rfl (by simp [Tryz.f51]) (by kernel_rfl) ?_
  intro E hP hr hs hW hN
  obtain ⟨R, hR⟩ : ∃ R, R = posI d.Items w := ⟨_, rfl⟩
  rw [← hR]
  rw [posI] at hR
  obtain ⟨l, hll⟩ : ∃ l, l = d.Items := ⟨_, rfl⟩
  rw [← hll] at hR hl
  simp -dsimp -implicitDefEqProofs [-getElem?_pos, go_sem, hP, cDn, ← hll]
  obtain ⟨I, hI⟩ : ∃ I : Nat → St → Prop, I = fun m s => ∃ k : Nat, k ≤ l.length ∧ m = l.length - k ∧ R = idxFrom (fun x : TItem => decide (x.Payment.Warrant = w)) k (l.drop k) ∧ s.t 1 = iv w ∧ s.t 8 = itemsL l ∧ s.t 9 = iv l.length ∧ s.t 10 = iv k := ⟨_, rfl⟩
  refine aloop0 I (l.length) (by rw [hN]; rfl) ?_ ?_
  · rw [hI]
    exact ⟨0, by omega, by omega, by rw [hR]; rfl, by simp -dsimp -implicitDefEqProofs [-getElem?_pos, go_sem], by simp -dsimp -implicitDefEqProofs [-getElem?_pos, go_sem], by simp -dsimp -implicitDefEqProofs [-getElem?_pos, go_sem], by simp -dsimp -implicitDefEqProofs [-getElem?_pos, go_sem]⟩
  intro m s hs'
  rw [hI] at hs'
  obtain ⟨k, hk, hm, hq, t1, t8, t9, t10⟩ := hs'
  simp -dsimp -implicitDefEqProofs [-getElem?_pos, go_sem, hP, t9, t10]
  refine condP (fun h => ?_) (fun h => ?_)
  · have hk : k < l.length := by simpa using h
    obtain ⟨a, ha⟩ : ∃ a, l[k]? = some a := ⟨_, List.getElem?_eq_getElem hk⟩
    have wk := wrap_in ((k : Int) + 1) (by omega)
    rw [drop_at ha, idxFrom] at hq
    by_cases c : a.Payment.Warrant = w
    · rw [if_pos (by simpa using c)] at hq
      simp -dsimp -implicitDefEqProofs [-getElem?_pos, go_sem, hP, t8, t10, ha, cIt, t1, c, hq]
    · rw [if_neg (by simpa using c)] at hq
      have d := decide_eq_false c
      simp -dsimp -implicitDefEqProofs [-getElem?_pos, go_sem, hP, t8, t10, ha, cIt, t1, c, d, wk]
      refine ⟨l.length - (k + 1), by omega, ?_⟩
      rw [hI]
      exact ⟨k + 1, by omega, rfl, hq, by simp -dsimp -implicitDefEqProofs [-getElem?_pos, go_sem, t1], by simp -dsimp -implicitDefEqProofs [-getElem?_pos, go_sem, t8], by simp -dsimp -implicitDefEqProofs [-getElem?_pos, go_sem, t9], by simp -dsimp -implicitDefEqProofs [-getElem?_pos, go_sem]⟩
  · have hk : k = l.length := by simp at h; omega
    subst hk
    rw [List.drop_length, idxFrom] at hq
    simp -dsimp -implicitDefEqProofs [-getElem?_pos, go_sem, hP, hq]
abbrev zeroP : TPayment := ⟨0, 0, 0, 0, 0⟩
theorem rwaiting_pf (q : TQueue) (w : Int) (hl : q.Waiting.length ≤ 1000000) : PFun Tryz.prog none none 100 [.agg q.cells, iv w] (· = .tup [.agg ((waitO q w).getD zeroP).cells, bv (waitO q w).isSome]) := by
  refine pfun_intro Tryz.func100 rfl (by simp [Tryz.f100]) (by kernel_rfl) ?_
  intro E hP hr hs hW hN
  obtain ⟨o, ho⟩ : ∃ o, o = waitO q w := ⟨_, rfl⟩
  rw [← ho]
  rw [waitO] at ho
  obtain ⟨l, hll⟩ : ∃ l, l = q.Waiting := ⟨_, rfl⟩
  rw [← hll] at ho hl
  simp -dsimp -implicitDefEqProofs [-getElem?_pos, go_sem, hP, cQn, ← hll]
  obtain ⟨I, hI⟩ : ∃ I : Nat → St → Prop, I = fun m s => ∃ k : Nat, k ≤ l.length ∧ m = l.length - k ∧ o = (l.drop k).find? (hasW w) ∧ s.t 1 = iv w ∧ s.t 4 = .ref 1 0 0 ∧ s.t 9 = paysL l ∧ s.t 10 = iv l.length ∧ s.t 11 = iv k ∧ s.H[1]? = some (some ⟨99, 5, [[iv 0, iv 0, iv 0, iv 0, iv 0]]⟩) := ⟨_, rfl⟩
  refine aloop0 I (l.length) (by rw [hN]; rfl) ?_ ?_
  · rw [hI]
    exact ⟨0, by omega, by omega, by rw [ho]; rfl, by simp -dsimp -implicitDefEqProofs [-getElem?_pos, go_sem], by simp -dsimp -implicitDefEqProofs [-getElem?_pos, go_sem], by simp -dsimp -implicitDefEqProofs [-getElem?_pos, go_sem], by simp -dsimp -implicitDefEqProofs [-getElem?_pos, go_sem], by simp -dsimp -implicitDefEqProofs [-getElem?_pos, go_sem], by simp -dsimp -implicitDefEqProofs [-getElem?_pos, go_sem]⟩
  intro m s hs'
  rw [hI] at hs'
  obtain ⟨k, hk, hm, hq, t1, t4, t9, t10, t11, h1⟩ := hs'
  have lt1 := (List.getElem?_eq_some_iff.1 h1).1
  simp -dsimp -implicitDefEqProofs [-getElem?_pos, go_sem, hP, t10, t11]
  refine condP (fun h => ?_) (fun h => ?_)
  · have hk : k < l.length := by simpa using h
    obtain ⟨a, ha⟩ : ∃ a, l[k]? = some a := ⟨_, List.getElem?_eq_getElem hk⟩
    have wk := wrap_in ((k : Int) + 1) (by omega)
    have g1 : ∀ x : Option AObj, (s.H ++ [x])[1]? = some (some ⟨99, 5, [[iv 0, iv 0, iv 0, iv 0, iv 0]]⟩) := fun x => by rw [List.getElem?_append_left lt1]; exact h1
    rw [drop_at ha, List.find?_cons] at hq
    by_cases c : a.Warrant = w
    · rw [show hasW w a = true by simp [hasW, c]] at hq
      simp only at hq
      simp -dsimp -implicitDefEqProofs [-getElem?_pos, go_sem, hP, t9, t11, ha, cPy, t1, c, t4, g1, lt1, h1]
      refine done_imm (imm_pair (imm_pay ⟨w, a.Payee, a.Amount, a.Due, a.Sub⟩) .sc) ?_
      rw [hq, Option.getD_some, cPy, c]
      rfl
    · rw [show hasW w a = false by simp [hasW, c]] at hq
      simp only at hq
      have d := decide_eq_false c
      simp -dsimp -implicitDefEqProofs [-getElem?_pos, go_sem, hP, t9, t11, ha, cPy, t1, c, d, wk]
      refine ⟨l.length - (k + 1), by omega, ?_⟩
      rw [hI]
      exact ⟨k + 1, by omega, rfl, hq, by simp -dsimp -implicitDefEqProofs [-getElem?_pos, go_sem, t1], by simp -dsimp -implicitDefEqProofs [-getElem?_pos, go_sem, t4], by simp -dsimp -implicitDefEqProofs [-getElem?_pos, go_sem, t9], by simp -dsimp -implicitDefEqProofs [-getElem?_pos, go_sem, t10], by simp -dsimp -implicitDefEqProofs [-getElem?_pos, go_sem], by simp -dsimp -implicitDefEqProofs [-getElem?_pos, go_sem, lt1, h1]⟩
  · have hk : k = l.length := by simp at h; omega
    subst hk
    rw [List.drop_length, List.find?_nil] at hq
    simp -dsimp -implicitDefEqProofs [-getElem?_pos, go_sem, hP, t4, h1, lt1, hq]
    exact done_imm (imm_pair (imm_pay zeroP) .sc) (by rw [hq]; rfl)
theorem rbatched_pf (q : TQueue) (w : Int) (hf : FitQ q) : PFun Tryz.prog none none 101 [.agg q.cells, iv w] (· = iv (batN q w)) := by
  refine pfun_intro Tryz.func101 rfl (by simp [Tryz.f101]) (by kernel_rfl) ?_
  intro E hP hr hs hW hN
  obtain ⟨R, hR⟩ : ∃ R, R = batN q w := ⟨_, rfl⟩
  rw [← hR]
  rw [batN] at hR
  have lb := hf.b
  have each := hf.each
  obtain ⟨l, hl⟩ : ∃ l, l = q.Batches := ⟨_, rfl⟩
  rw [← hl] at hR lb each
  simp -dsimp -implicitDefEqProofs [-getElem?_pos, go_sem, hP, cQn, ← hl]
  obtain ⟨I, hI⟩ : ∃ I : Nat → St → Prop, I = fun m s => ∃ (k c : Nat), k ≤ l.length ∧ m = l.length - k ∧ c = ((l.take k).map fun b => b.Payments.countP (hasW w)).sum ∧ c ≤ 100000 * k ∧ s.t 1 = iv w ∧ s.t 5 = iv c ∧ s.t 11 = batsL l ∧ s.t 12 = iv l.length ∧ s.t 13 = iv k := ⟨_, rfl⟩
  refine aloop0 I (l.length) (by rw [hN]; rfl) ?_ ?_
  · rw [hI]
    exact ⟨0, 0, by omega, by omega, by simp, by omega, by simp -dsimp -implicitDefEqProofs [-getElem?_pos, go_sem], by simp -dsimp -implicitDefEqProofs [-getElem?_pos, go_sem], by simp -dsimp -implicitDefEqProofs [-getElem?_pos, go_sem], by simp -dsimp -implicitDefEqProofs [-getElem?_pos, go_sem], by simp -dsimp -implicitDefEqProofs [-getElem?_pos, go_sem]⟩
  intro m s hs'
  rw [hI] at hs'
  obtain ⟨k, c, hk, hm, hc, hcl, t1, t5, t11, t12, t13⟩ := hs'
  simp -dsimp -implicitDefEqProofs [-getElem?_pos, go_sem, hP, t12, t13]
  refine condP (fun h => ?_) (fun h => ?_)
  · have hk : k < l.length := by simpa using h
    obtain ⟨b, hb⟩ : ∃ b, l[k]? = some b := ⟨_, List.getElem?_eq_getElem hk⟩
    have wk := wrap_in ((k : Int) + 1) (by omega)
    have hbl := each b (List.mem_of_getElem? hb)
    have es : ((l.take (k + 1)).map fun b => b.Payments.countP (hasW w)).sum = ((l.take k).map fun b => b.Payments.countP (hasW w)).sum + b.Payments.countP (hasW w) := by rw [take_at hb, List.map_append, List.sum_append]; simp
    have lp := List.countP_le_length (p := hasW w) (l := b.Payments)
    obtain ⟨P, hPP⟩ : ∃ P, P = b.Payments := ⟨_, rfl⟩
    rw [← hPP] at hbl es lp
    simp -dsimp -implicitDefEqProofs [-getElem?_pos, go_sem, hP, t11, t13, hb, cBt, ← hPP]
    obtain ⟨J, hJ⟩ : ∃ I : Nat → St → Prop, I = fun m s => ∃ (j : Nat), j ≤ P.length ∧ m = P.length - j ∧ s.t 1 = iv w ∧ s.t 5 = iv (c + (P.take j).countP (hasW w)) ∧ s.t 11 = batsL l ∧ s.t 12 = iv l.length ∧ s.t 13 = iv k ∧ s.t 18 = paysL P ∧ s.t 19 = iv P.length ∧ s.t 20 = iv j := ⟨_, rfl⟩
    refine aloop0 J (P.length) (by rw [hN]; rfl) ?_ ?_
    · rw [hJ]
      exact ⟨0, by omega, by omega, by simp -dsimp -implicitDefEqProofs [-getElem?_pos, go_sem, t1], by simp -dsimp -implicitDefEqProofs [-getElem?_pos, go_sem, t5], by simp -dsimp -implicitDefEqProofs [-getElem?_pos, go_sem, t11], by simp -dsimp -implicitDefEqProofs [-getElem?_pos, go_sem, t12], by simp -dsimp -implicitDefEqProofs [-getElem?_pos, go_sem, t13], by simp -dsimp -implicitDefEqProofs [-getElem?_pos, go_sem], by simp -dsimp -implicitDefEqProofs [-getElem?_pos, go_sem], by simp -dsimp -implicitDefEqProofs [-getElem?_pos, go_sem]⟩
    clear t1 t5 t11 t12 t13
    intro m s hs'
    rw [hJ] at hs'
    obtain ⟨j, hj, hm2, t1, t5, t11, t12, t13, t18, t19, t20⟩ := hs'
    simp -dsimp -implicitDefEqProofs [-getElem?_pos, go_sem, hP, t19, t20]
    refine condP (fun h => ?_) (fun h => ?_)
    · have hj : j < P.length := by simpa using h
      obtain ⟨p, hp⟩ : ∃ p, P[j]? = some p := ⟨_, List.getElem?_eq_getElem hj⟩
      have wj := wrap_in ((j : Int) + 1) (by omega)
      have ej : (P.take (j + 1)).countP (hasW w) = (P.take j).countP (hasW w) + if hasW w p = true then 1 else 0 := by rw [take_at hp, List.countP_append, List.countP_cons, List.countP_nil, Nat.zero_add]
      have lj := List.countP_le_length (p := hasW w) (l := P.take j)
      rw [List.length_take] at lj
      generalize (P.take j).countP (hasW w) = cj at ej t5 lj
      have wc := wrap_in ((c : Int) + cj + 1) (by omega)
      by_cases e : p.Warrant = w
      · rw [show hasW w p = true by simp [hasW, e], if_pos rfl] at ej
        have e1 : (c : Int) + ((P.take (j + 1)).countP (hasW w) : Nat) = c + cj + 1 := by rw [ej]; omega
        simp -dsimp -implicitDefEqProofs [-getElem?_pos, go_sem, hP, t18, t20, hp, cPy, t1, e, t5, wc, wj]
        refine ⟨P.length - (j + 1), by omega, ?_⟩
        rw [hJ]
        exact ⟨j + 1, by omega, rfl, by simp -dsimp -implicitDefEqProofs [-getElem?_pos, go_sem, t1], by simp -dsimp -implicitDefEqProofs [-getElem?_pos, go_sem, e1], by simp -dsimp -implicitDefEqProofs [-getElem?_pos, go_sem, t11], by simp -dsimp -implicitDefEqProofs [-getElem?_pos, go_sem, t12], by simp -dsimp -implicitDefEqProofs [-getElem?_pos, go_sem, t13], by simp -dsimp -implicitDefEqProofs [-getElem?_pos, go_sem, t18], by simp -dsimp -implicitDefEqProofs [-getElem?_pos, go_sem, t19], by simp -dsimp -implicitDefEqProofs [-getElem?_pos, go_sem]⟩
      · rw [show hasW w p = false by simp [hasW, e], if_neg (by simp)] at ej
        have d := decide_eq_false e
        simp -dsimp -implicitDefEqProofs [-getElem?_pos, go_sem, hP, t18, t20, hp, cPy, t1, e, d, wj]
        refine ⟨P.length - (j + 1), by omega, ?_⟩
        rw [hJ]
        exact ⟨j + 1, by omega, rfl, by simp -dsimp -implicitDefEqProofs [-getElem?_pos, go_sem, t1], by simp -dsimp -implicitDefEqProofs [-getElem?_pos, go_sem, t5, ej], by simp -dsimp -implicitDefEqProofs [-getElem?_pos, go_sem, t11], by simp -dsimp -implicitDefEqProofs [-getElem?_pos, go_sem, t12], by simp -dsimp -implicitDefEqProofs [-getElem?_pos, go_sem, t13], by simp -dsimp -implicitDefEqProofs [-getElem?_pos, go_sem, t18], by simp -dsimp -implicitDefEqProofs [-getElem?_pos, go_sem, t19], by simp -dsimp -implicitDefEqProofs [-getElem?_pos, go_sem]⟩
    · have hj : j = P.length := by simp at h; omega
      subst hj
      rw [List.take_length] at t5
      simp -dsimp -implicitDefEqProofs [-getElem?_pos, go_sem, hP, t13, wk]
      refine ⟨l.length - (k + 1), by omega, ?_⟩
      rw [hI]
      exact ⟨k + 1, c + P.countP (hasW w), by omega, rfl, by rw [es, hc], by omega, by simp -dsimp -implicitDefEqProofs [-getElem?_pos, go_sem, t1], by simp -dsimp -implicitDefEqProofs [-getElem?_pos, go_sem, t5], by simp -dsimp -implicitDefEqProofs [-getElem?_pos, go_sem, t11], by simp -dsimp -implicitDefEqProofs [-getElem?_pos, go_sem, t12], by simp -dsimp -implicitDefEqProofs [-getElem?_pos, go_sem]⟩
  · have hk : k = l.length := by simp at h; omega
    subst hk
    rw [List.take_length] at hc
    simp -dsimp -implicitDefEqProofs [-getElem?_pos, go_sem, hP, t5, hR, hc]
theorem rcounted_pf (a : TAccount) (p : TPayment) (he : a.Entries.length ≤ 100000) (hs1 : 1 ≤ p.Sub) : PFun Tryz.prog none none 102 [.agg a.cells, .agg p.cells] (· = .tup [iv (a.Entries.countP (outE p)), iv (a.Entries.countP (inE p)), bv (a.Entries.all (okE p))]) := by
  refine pfun_intro Tryz.func102 rfl (by simp [Tryz.f102]) (by kernel_rfl) ?_
  intro E hP hr hs hW hN
  obtain ⟨l, hl⟩ : ∃ l, l = a.Entries := ⟨_, rfl⟩
  rw [← hl] at he
  simp -dsimp -implicitDefEqProofs [-getElem?_pos, go_sem, hP, cA, cPy, ← hl]
  obtain ⟨I, hI⟩ : ∃ I : Nat → St → Prop, I = fun m s => ∃ (k o i : Nat), k ≤ l.length ∧ m = l.length - k ∧ o ≤ k ∧ i ≤ k ∧ o = (l.take k).countP (outE p) ∧ i = (l.take k).countP (inE p) ∧ s.t 3 = .ref 1 0 0 ∧ s.t 7 = iv o ∧ s.t 8 = iv i ∧ s.t 9 = bv ((l.take k).all (okE p)) ∧ s.t 13 = entsL l ∧ s.t 14 = iv l.length ∧ s.t 15 = iv k ∧ s.H[1]? = some (some ⟨99, 5, [[iv p.Warrant, iv p.Payee, iv p.Amount, iv p.Due, iv p.Sub]]⟩) := ⟨_, rfl⟩
  refine aloop0 I (l.length) (by rw [hN]; rfl) ?_ ?_
  · rw [hI]
    exact ⟨0, 0, 0, by omega, by omega, by omega, by omega, by simp, by simp, by simp -dsimp -implicitDefEqProofs [-getElem?_pos, go_sem], by simp -dsimp -implicitDefEqProofs [-getElem?_pos, go_sem], by simp -dsimp -implicitDefEqProofs [-getElem?_pos, go_sem], by simp -dsimp -implicitDefEqProofs [-getElem?_pos, go_sem], by simp -dsimp -implicitDefEqProofs [-getElem?_pos, go_sem], by simp -dsimp -implicitDefEqProofs [-getElem?_pos, go_sem], by simp -dsimp -implicitDefEqProofs [-getElem?_pos, go_sem], by simp -dsimp -implicitDefEqProofs [-getElem?_pos, go_sem]⟩
  intro m s hs'
  rw [hI] at hs'
  obtain ⟨k, o, i, hk, hm, lo, li, ho, hi, t3, t7, t8, t9, t13, t14, t15, h1⟩ := hs'
  have lt1 := (List.getElem?_eq_some_iff.1 h1).1
  simp -dsimp -implicitDefEqProofs [-getElem?_pos, go_sem, hP, t14, t15]
  refine condP (fun h => ?_) (fun h => ?_)
  · have hk : k < l.length := by simpa using h
    obtain ⟨e, hee⟩ : ∃ e, l[k]? = some e := ⟨_, List.getElem?_eq_getElem hk⟩
    have wk := wrap_in ((k : Int) + 1) (by omega)
    have g1 : ∀ y : Option AObj, (s.H ++ [y])[1]? = some (some ⟨99, 5, [[iv p.Warrant, iv p.Payee, iv p.Amount, iv p.Due, iv p.Sub]]⟩) := fun y => by rw [List.getElem?_append_left lt1]; exact h1
    have eo : (l.take (k + 1)).countP (outE p) = (l.take k).countP (outE p) + if outE p e = true then 1 else 0 := by rw [take_at hee, List.countP_append, List.countP_cons, List.countP_nil, Nat.zero_add]
    have ei : (l.take (k + 1)).countP (inE p) = (l.take k).countP (inE p) + if inE p e = true then 1 else 0 := by rw [take_at hee, List.countP_append, List.countP_cons, List.countP_nil, Nat.zero_add]
    have ea : (l.take (k + 1)).all (okE p) = ((l.take k).all (okE p) && okE p e) := by rw [take_at hee, List.all_append]; simp
    rw [← ho] at eo
    rw [← hi] at ei
    generalize (l.take k).all (okE p) = bk at ea t9
    have wo := wrap_in ((o : Int) + 1) (by omega)
    have wi := wrap_in ((i : Int) + 1) (by omega)
    have fin : ∀ (s' : St) (o' i' : Nat), o' ≤ k + 1 → i' ≤ k + 1 → o' = (l.take (k + 1)).countP (outE p) → i' = (l.take (k + 1)).countP (inE p) → s'.t 3 = .ref 1 0 0 → s'.t 7 = iv o' → s'.t 8 = iv i' → s'.t 9 = bv (bk && okE p e) → s'.t 13 = entsL l → s'.t 14 = iv l.length → s'.t 15 = iv (k + 1) → s'.H[1]? = some (some ⟨99, 5, [[iv p.Warrant, iv p.Payee, iv p.Amount, iv p.Due, iv p.Sub]]⟩) → ∃ m', m' < m ∧ I m' s' := fun s' o' i' b1 b2 b3 b4 a1 a2 a3 a4 a5 a6 a7 a8 => by
      refine ⟨l.length - (k + 1), by omega, ?_⟩
      rw [hI]
      exact ⟨k + 1, o', i', by omega, rfl, b1, b2, b3, b4, a1, a2, a3, by rw [ea]; exact a4, a5, a6, a7, a8⟩
    by_cases c1 : e.Ref = p.Warrant
    rotate_left
    · have d1 := decide_eq_false c1
      have hok : okE p e = true := by simp [okE, d1]
      rw [show outE p e = false by simp [outE, d1], if_neg (by simp)] at eo
      rw [show inE p e = false by simp [inE, d1], if_neg (by simp)] at ei
      simp -dsimp -implicitDefEqProofs [-getElem?_pos, go_sem, hP, t13, t15, hee, cE, t3, g1, lt1, h1, c1, d1, wk]
      exact fin _ o i (by omega) (by omega) (by omega) (by omega) (by simp -dsimp -implicitDefEqProofs [-getElem?_pos, go_sem, t3]) (by simp -dsimp -implicitDefEqProofs [-getElem?_pos, go_sem, t7]) (by simp -dsimp -implicitDefEqProofs [-getElem?_pos, go_sem, t8]) (by simp -dsimp -implicitDefEqProofs [-getElem?_pos, go_sem, t9, hok]) (by simp -dsimp -implicitDefEqProofs [-getElem?_pos, go_sem, t13]) (by simp -dsimp -implicitDefEqProofs [-getElem?_pos, go_sem, t14]) (by simp -dsimp -implicitDefEqProofs [-getElem?_pos, go_sem]) (by simp -dsimp -implicitDefEqProofs [-getElem?_pos, go_sem, lt1, h1])
    have d1 : decide (e.Ref = p.Warrant) = true := decide_eq_true c1
    by_cases c2 : e.From = p.Sub
    · have c3 : ¬ e.From = 0 := by omega
      have d3 := decide_eq_false c3
      by_cases c4 : e.To = 0
      · have hok : okE p e = decide (e.Amount = p.Amount) := by simp [okE, c1, c2, c4]
        rw [show outE p e = true by simp [outE, c1, c2, c4], if_pos rfl] at eo
        rw [show inE p e = false by simp [inE, c3], if_neg (by simp)] at ei
        cases bk
        · simp -dsimp -implicitDefEqProofs [-getElem?_pos, go_sem, hP, t13, t15, hee, cE, t3, g1, lt1, h1, c1, c2, c4, t7, t9, wo, wk]
          exact fin _ (o + 1) i (by omega) (by omega) (by omega) (by omega) (by simp -dsimp -implicitDefEqProofs [-getElem?_pos, go_sem, t3]) (by simp -dsimp -implicitDefEqProofs [-getElem?_pos, go_sem]) (by simp -dsimp -implicitDefEqProofs [-getElem?_pos, go_sem, t8]) (by simp -dsimp -implicitDefEqProofs [-getElem?_pos, go_sem]) (by simp -dsimp -implicitDefEqProofs [-getElem?_pos, go_sem, t13]) (by simp -dsimp -implicitDefEqProofs [-getElem?_pos, go_sem, t14]) (by simp -dsimp -implicitDefEqProofs [-getElem?_pos, go_sem]) (by simp -dsimp -implicitDefEqProofs [-getElem?_pos, go_sem, lt1, h1])
        · simp -dsimp -implicitDefEqProofs [-getElem?_pos, go_sem, hP, t13, t15, hee, cE, t3, g1, lt1, h1, c1, c2, c4, t7, t9, wo, wk]
          exact fin _ (o + 1) i (by omega) (by omega) (by omega) (by omega) (by simp -dsimp -implicitDefEqProofs [-getElem?_pos, go_sem, t3]) (by simp -dsimp -implicitDefEqProofs [-getElem?_pos, go_sem]) (by simp -dsimp -implicitDefEqProofs [-getElem?_pos, go_sem, t8]) (by simp -dsimp -implicitDefEqProofs [-getElem?_pos, go_sem, hok]) (by simp -dsimp -implicitDefEqProofs [-getElem?_pos, go_sem, t13]) (by simp -dsimp -implicitDefEqProofs [-getElem?_pos, go_sem, t14]) (by simp -dsimp -implicitDefEqProofs [-getElem?_pos, go_sem]) (by simp -dsimp -implicitDefEqProofs [-getElem?_pos, go_sem, lt1, h1])
      · have d4 := decide_eq_false c4
        have hok : okE p e = false := by simp [okE, d1, d3, d4]
        rw [show outE p e = false by simp [outE, d4], if_neg (by simp)] at eo
        rw [show inE p e = false by simp [inE, d3], if_neg (by simp)] at ei
        have nz : ¬ p.Sub = 0 := by omega
        simp -dsimp -implicitDefEqProofs [-getElem?_pos, go_sem, hP, t13, t15, hee, cE, t3, g1, lt1, h1, c1, c2, c4, d4, nz, d3, wk]
        exact fin _ o i (by omega) (by omega) (by omega) (by omega) (by simp -dsimp -implicitDefEqProofs [-getElem?_pos, go_sem, t3]) (by simp -dsimp -implicitDefEqProofs [-getElem?_pos, go_sem, t7]) (by simp -dsimp -implicitDefEqProofs [-getElem?_pos, go_sem, t8]) (by simp -dsimp -implicitDefEqProofs [-getElem?_pos, go_sem, hok]) (by simp -dsimp -implicitDefEqProofs [-getElem?_pos, go_sem, t13]) (by simp -dsimp -implicitDefEqProofs [-getElem?_pos, go_sem, t14]) (by simp -dsimp -implicitDefEqProofs [-getElem?_pos, go_sem]) (by simp -dsimp -implicitDefEqProofs [-getElem?_pos, go_sem, lt1, h1])
    · have d2 := decide_eq_false c2
      rw [show outE p e = false by simp [outE, d2], if_neg (by simp)] at eo
      by_cases c3 : e.From = 0
      · by_cases c4 : e.To = p.Sub
        · have hok : okE p e = decide (e.Amount = p.Amount) := by simp [okE, d1, c3, c4]
          rw [show inE p e = true by simp [inE, c1, c3, c4], if_pos rfl] at ei
          have d2' : decide ((0 : Int) = p.Sub) = false := by rw [← c3]; exact d2
          cases bk
          · simp -dsimp -implicitDefEqProofs [-getElem?_pos, go_sem, hP, t13, t15, hee, cE, t3, g1, lt1, h1, c1, c2, d2, d2', c3, c4, t8, t9, wi, wk]
            exact fin _ o (i + 1) (by omega) (by omega) (by omega) (by omega) (by simp -dsimp -implicitDefEqProofs [-getElem?_pos, go_sem, t3]) (by simp -dsimp -implicitDefEqProofs [-getElem?_pos, go_sem, t7]) (by simp -dsimp -implicitDefEqProofs [-getElem?_pos, go_sem]) (by simp -dsimp -implicitDefEqProofs [-getElem?_pos, go_sem]) (by simp -dsimp -implicitDefEqProofs [-getElem?_pos, go_sem, t13]) (by simp -dsimp -implicitDefEqProofs [-getElem?_pos, go_sem, t14]) (by simp -dsimp -implicitDefEqProofs [-getElem?_pos, go_sem]) (by simp -dsimp -implicitDefEqProofs [-getElem?_pos, go_sem, lt1, h1, c3])
          · simp -dsimp -implicitDefEqProofs [-getElem?_pos, go_sem, hP, t13, t15, hee, cE, t3, g1, lt1, h1, c1, c2, d2, d2', c3, c4, t8, t9, wi, wk]
            exact fin _ o (i + 1) (by omega) (by omega) (by omega) (by omega) (by simp -dsimp -implicitDefEqProofs [-getElem?_pos, go_sem, t3]) (by simp -dsimp -implicitDefEqProofs [-getElem?_pos, go_sem, t7]) (by simp -dsimp -implicitDefEqProofs [-getElem?_pos, go_sem]) (by simp -dsimp -implicitDefEqProofs [-getElem?_pos, go_sem, hok]) (by simp -dsimp -implicitDefEqProofs [-getElem?_pos, go_sem, t13]) (by simp -dsimp -implicitDefEqProofs [-getElem?_pos, go_sem, t14]) (by simp -dsimp -implicitDefEqProofs [-getElem?_pos, go_sem]) (by simp -dsimp -implicitDefEqProofs [-getElem?_pos, go_sem, lt1, h1, c3])
        · have d4 := decide_eq_false c4
          have hok : okE p e = false := by simp [okE, d1, d2, d4]
          have d2' : decide ((0 : Int) = p.Sub) = false := by rw [← c3]; exact d2
          rw [show inE p e = false by simp [inE, d4], if_neg (by simp)] at ei
          simp -dsimp -implicitDefEqProofs [-getElem?_pos, go_sem, hP, t13, t15, hee, cE, t3, g1, lt1, h1, c1, c2, d2, d2', c3, c4, d4, wk]
          exact fin _ o i (by omega) (by omega) (by omega) (by omega) (by simp -dsimp -implicitDefEqProofs [-getElem?_pos, go_sem, t3]) (by simp -dsimp -implicitDefEqProofs [-getElem?_pos, go_sem, t7]) (by simp -dsimp -implicitDefEqProofs [-getElem?_pos, go_sem, t8]) (by simp -dsimp -implicitDefEqProofs [-getElem?_pos, go_sem, hok]) (by simp -dsimp -implicitDefEqProofs [-getElem?_pos, go_sem, t13]) (by simp -dsimp -implicitDefEqProofs [-getElem?_pos, go_sem, t14]) (by simp -dsimp -implicitDefEqProofs [-getElem?_pos, go_sem]) (by simp -dsimp -implicitDefEqProofs [-getElem?_pos, go_sem, lt1, h1, c3])
      · have d3 := decide_eq_false c3
        have hok : okE p e = false := by simp [okE, d1, d2, d3]
        rw [show inE p e = false by simp [inE, d3], if_neg (by simp)] at ei
        simp -dsimp -implicitDefEqProofs [-getElem?_pos, go_sem, hP, t13, t15, hee, cE, t3, g1, lt1, h1, c1, c2, d2, c3, d3, wk]
        exact fin _ o i (by omega) (by omega) (by omega) (by omega) (by simp -dsimp -implicitDefEqProofs [-getElem?_pos, go_sem, t3]) (by simp -dsimp -implicitDefEqProofs [-getElem?_pos, go_sem, t7]) (by simp -dsimp -implicitDefEqProofs [-getElem?_pos, go_sem, t8]) (by simp -dsimp -implicitDefEqProofs [-getElem?_pos, go_sem, hok]) (by simp -dsimp -implicitDefEqProofs [-getElem?_pos, go_sem, t13]) (by simp -dsimp -implicitDefEqProofs [-getElem?_pos, go_sem, t14]) (by simp -dsimp -implicitDefEqProofs [-getElem?_pos, go_sem]) (by simp -dsimp -implicitDefEqProofs [-getElem?_pos, go_sem, lt1, h1])
  · have hk : k = l.length := by simp at h; omega
    subst hk
    rw [List.take_length] at t9 ho hi
    simp -dsimp -implicitDefEqProofs [-getElem?_pos, go_sem, hP, t7, t8, t9]
    exact done_imm (imm_trip .sc .sc .sc) (by rw [ho, hi, hl])
end Go.Proofs.YtpjecipdklcjbaaGreatDoor
