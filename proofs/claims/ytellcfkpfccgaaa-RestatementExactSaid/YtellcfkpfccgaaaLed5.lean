/- Ledgers: the reference's checks. -/
import Derived.Test.YtellcfkpfccgaaaLed3
set_option linter.unusedSimpArgs false
set_option linter.unusedVariables false
namespace Go.Proofs.Ytellcfkpfccgaaa
open Go.PA
open Go.RowKit

theorem rday_pf (n : Int) : PFun Try.prog none none 87 [iv n] (· = bv (betw n 0 36000)) := by
  refine pfun_intro Try.func87 rfl (by simp [Try.f87]) (by kernel_rfl) ?_
  intro E hP hr hs hW hN
  by_cases h1 : 0 ≤ n <;> by_cases h2 : n ≤ 36000 <;> simp -dsimp -implicitDefEqProofs [-getElem?_pos, go_sem, hP, h1, h2, betw]
theorem rclass_pf (n : Int) : PFun Try.prog none none 25 [iv n] (· = iv (classI n)) := by
  refine pfun_intro Try.func25 rfl (by simp [Try.f25]) (by kernel_rfl) ?_
  intro E hP hr hs hW hN
  by_cases h1 : n < 100
  · have h2 : classI n = 0 := if_neg (by omega)
    simp -dsimp -implicitDefEqProofs [-getElem?_pos, go_sem, hP, h1, h2]
  by_cases h3 : 599 < n
  · have h2 : classI n = 0 := if_neg (by omega)
    simp -dsimp -implicitDefEqProofs [-getElem?_pos, go_sem, hP, h1, h3, h2]
  · have h : 100 ≤ n ∧ n ≤ 599 := by omega
    have h2 : classI n = n / 100 := if_pos h
    simp -dsimp -implicitDefEqProofs [-getElem?_pos, go_sem, hP, h1, h3, tdiv100 h, h2]
theorem classI_zero (n : Int) : decide (classI n = 0) = !betw n 100 599 := by
  have h := class_betw n
  have h2 := classI_nat' n
  cases hb : betw n 100 599 <;> simp only [hb, decide_eq_false_iff_not, decide_eq_true_eq, Bool.not_false, Bool.not_true] at h ⊢ <;> omega
theorem ge_le (n lo hi : Int) : betw n lo hi = (decide (lo ≤ n) && decide (n ≤ hi)) := rfl

set_option maxHeartbeats 4000000 in
theorem rposting_pf (p : TPosting) : PFun Try.prog none none 64 [.agg p.cells] (· = bv (postB p)) := by
  refine pfun_intro Try.func64 rfl (by simp [Try.f64]) (by kernel_rfl) ?_
  intro E hP hr hs hW hN
  have i2 := rday_pf p.Day
  have i4 := classI_zero p.Debit
  have i5 := classI_zero p.Credit
  have pb : postB p = (betw p.Number 1 1000000 && betw p.Day 0 36000 && betw p.Entity 1 10 && betw p.Debit 100 599 && betw p.Credit 100 599 && !decide (p.Debit = p.Credit) && betw p.Amount 1 1000000000000 && betw p.Partner 0 10 && !decide (p.Partner = p.Entity) && betw p.Ref 0 1000000) := rfl
  generalize betw p.Day 0 36000 = b2 at i2 pb
  generalize betw p.Debit 100 599 = b4 at i4 pb
  generalize betw p.Credit 100 599 = b5 at i5 pb
  rw [ge_le p.Number, ge_le p.Entity, ge_le p.Amount, ge_le p.Partner, ge_le p.Ref] at pb
  rw [pb]
  by_cases a1 : 1 ≤ p.Number
  rotate_left
  · simp -dsimp -implicitDefEqProofs [-getElem?_pos, go_sem, hP, cP, a1, decide_false, Bool.false_and]
  by_cases a2 : p.Number ≤ 1000000
  rotate_left
  · simp -dsimp -implicitDefEqProofs [-getElem?_pos, go_sem, hP, cP, a1, a2, decide_false, Bool.false_and, Bool.and_false]
  simp -dsimp -implicitDefEqProofs [-getElem?_pos, go_sem, hP, cP, a1, a2]
  refine callB_pure i2 hP en_87 (args_same (by simp -dsimp -implicitDefEqProofs [-getElem?_pos, go_sem])) .sc ?_
  cases b2
  · simp -dsimp -implicitDefEqProofs [-getElem?_pos, go_sem, hP, Bool.false_and, Bool.true_and]
  by_cases a3 : 1 ≤ p.Entity
  rotate_left
  · simp -dsimp -implicitDefEqProofs [-getElem?_pos, go_sem, hP, a3, Bool.false_and, Bool.and_false]
  by_cases a4 : p.Entity ≤ 10
  rotate_left
  · simp -dsimp -implicitDefEqProofs [-getElem?_pos, go_sem, hP, a3, a4, Bool.false_and, Bool.and_false]
  by_cases h6 : p.Debit = p.Credit
  · simp -dsimp -implicitDefEqProofs [-getElem?_pos, go_sem, hP, a3, a4, h6, Bool.false_and, Bool.and_false]
  have d6 : decide (p.Debit = p.Credit) = false := decide_eq_false h6
  simp -dsimp -implicitDefEqProofs [-getElem?_pos, go_sem, hP, a3, a4, d6]
  refine callB_pure (rclass_pf p.Debit) hP en_25 (args_same (by simp -dsimp -implicitDefEqProofs [-getElem?_pos, go_sem])) .sc ?_
  cases b4
  · simp -dsimp -implicitDefEqProofs [-getElem?_pos, go_sem, hP, i4, Bool.false_and, Bool.and_false]
  simp -dsimp -implicitDefEqProofs [-getElem?_pos, go_sem, hP, i4]
  refine callB_pure (rclass_pf p.Credit) hP en_25 (args_same (by simp -dsimp -implicitDefEqProofs [-getElem?_pos, go_sem])) .sc ?_
  cases b5
  · simp -dsimp -implicitDefEqProofs [-getElem?_pos, go_sem, hP, i5, Bool.false_and, Bool.and_false]
  by_cases a7 : 1 ≤ p.Amount
  rotate_left
  · simp -dsimp -implicitDefEqProofs [-getElem?_pos, go_sem, hP, i5, a7, Bool.false_and, Bool.and_false]
  by_cases a8 : p.Amount ≤ 1000000000000
  rotate_left
  · simp -dsimp -implicitDefEqProofs [-getElem?_pos, go_sem, hP, i5, a7, a8, Bool.false_and, Bool.and_false]
  by_cases a9 : 0 ≤ p.Partner
  rotate_left
  · simp -dsimp -implicitDefEqProofs [-getElem?_pos, go_sem, hP, i5, a7, a8, a9, Bool.false_and, Bool.and_false]
  by_cases b9 : p.Partner ≤ 10
  rotate_left
  · simp -dsimp -implicitDefEqProofs [-getElem?_pos, go_sem, hP, i5, a7, a8, a9, b9, Bool.false_and, Bool.and_false]
  by_cases h9 : p.Partner = p.Entity
  · have b9' : p.Entity ≤ 10 := a4
    rw [h9] at a9 b9
    simp -dsimp -implicitDefEqProofs [-getElem?_pos, go_sem, hP, i5, a7, a8, a9, b9, h9, Bool.false_and, Bool.and_false]
  have d9 : decide (p.Partner = p.Entity) = false := decide_eq_false h9
  by_cases a10 : 0 ≤ p.Ref <;> by_cases b10 : p.Ref ≤ 1000000 <;> simp -dsimp -implicitDefEqProofs [-getElem?_pos, go_sem, hP, i5, a1, a2, a3, a4, a7, a8, a9, b9, d9, a10, b10, d6]

set_option maxHeartbeats 2000000 in
theorem rcheck_pf (l : TLedger) (hl : l.Postings.length ≤ 100000) : PFun Try.prog none none 60 [.agg l.cells] (· = iv (checkL l.Postings)) := by
  refine pfun_intro Try.func60 rfl (by simp [Try.f60]) (by kernel_rfl) ?_
  intro E hP hr hs hW hN
  obtain ⟨l⟩ := l
  simp only at hl
  simp -dsimp -implicitDefEqProofs [-getElem?_pos, go_sem, hP, cL]
  refine condP (fun h => ?_) (fun h => ?_)
  · have h' : 400 < l.length := by simp at h; omega
    have : checkL l = 3 := if_pos h'
    simp -dsimp -implicitDefEqProofs [-getElem?_pos, go_sem, hP, this]
  have h0 : ¬ 400 < l.length := by simp at h; omega
  simp -dsimp -implicitDefEqProofs [-getElem?_pos, go_sem, hP]
  obtain ⟨J, hJ⟩ : ∃ I : Nat → St → Prop, I = fun m s => ∃ k : Nat, k ≤ l.length ∧ m = l.length - k ∧ (∀ p, p ∈ l.take k → postB p = true) ∧ s.t 1 = .ref 0 0 0 ∧ s.t 12 = postsL l ∧ s.t 13 = iv l.length ∧ s.t 14 = iv k ∧ s.H[0]? = some (some ⟨28, 1, [[postsL l]]⟩) := ⟨_, rfl⟩
  refine aloop0 J (l.length) (by rw [hN]; rfl) ?_ ?_
  · rw [hJ]
    exact ⟨0, by omega, by omega, by simp, by simp -dsimp -implicitDefEqProofs [-getElem?_pos, go_sem], by simp -dsimp -implicitDefEqProofs [-getElem?_pos, go_sem], by simp -dsimp -implicitDefEqProofs [-getElem?_pos, go_sem], by simp -dsimp -implicitDefEqProofs [-getElem?_pos, go_sem], by simp -dsimp -implicitDefEqProofs [-getElem?_pos, go_sem]⟩
  intro m s hs'
  rw [hJ] at hs'
  obtain ⟨k, hk, hm, hv, t1, t12, t13, t14, hH⟩ := hs'
  have hlt := (List.getElem?_eq_some_iff.1 hH).1
  simp -dsimp -implicitDefEqProofs [-getElem?_pos, go_sem, hP, t13, t14]
  refine condP (fun h => ?_) (fun h => ?_)
  · have hk : k < l.length := by simpa using h
    obtain ⟨p, hp⟩ : ∃ p, l[k]? = some p := ⟨_, List.getElem?_eq_getElem hk⟩
    have wk := wrap_in ((k : Int) + 1) (by omega)
    have po := rposting_pf p
    rw [cP] at po
    have g0 : ∀ x : Option AObj, (s.H ++ [x])[0]? = some (some ⟨28, 1, [[postsL l]]⟩) := fun x => by rw [List.getElem?_append_left hlt]; exact hH
    simp -dsimp -implicitDefEqProofs [-getElem?_pos, go_sem, hP, t14, t12, hp, cP]
    refine callB_pure po hP en_64 (args_same (by simp -dsimp -implicitDefEqProofs [-getElem?_pos, go_sem])) .sc ?_
    cases hb : postB p
    · have : checkL l = 85 := by rw [checkL, if_neg h0, if_pos (List.any_eq_true.2 ⟨p, List.mem_of_getElem? hp, by simp [hb]⟩)]
      simp -dsimp -implicitDefEqProofs [-getElem?_pos, go_sem, hP, this]
    · simp -dsimp -implicitDefEqProofs [-getElem?_pos, go_sem, hP, t14, wk]
      refine ⟨l.length - (k + 1), by omega, ?_⟩
      rw [hJ]
      refine ⟨k + 1, by omega, rfl, fun q hq => ?_, by simp -dsimp -implicitDefEqProofs [-getElem?_pos, go_sem, t1], by simp -dsimp -implicitDefEqProofs [-getElem?_pos, go_sem, t12], by simp -dsimp -implicitDefEqProofs [-getElem?_pos, go_sem, t13], by simp -dsimp -implicitDefEqProofs [-getElem?_pos, go_sem], by simp -dsimp -implicitDefEqProofs [-getElem?_pos, go_sem, g0]⟩
      rw [List.take_add_one, hp] at hq
      rcases List.mem_append.1 hq with hq | hq
      · exact hv q hq
      · simp at hq; rw [hq]; exact hb
  have hk : k = l.length := by simp at h; omega
  subst hk
  rw [List.take_length] at hv
  have hvo : ∀ p, p ∈ l → PostOk p := fun p hp => (postB_iff p).1 (hv p hp)
  have tc : checkL l = if seqFrom 0 0 l = true then 0 else 86 := by
    rw [checkL, if_neg h0, if_neg]
    intro h
    obtain ⟨p, hp, hb⟩ := List.any_eq_true.1 h
    simp [hv p hp] at hb
  simp -dsimp -implicitDefEqProofs [-getElem?_pos, go_sem, hP, t1, hH]
  obtain ⟨I, hI⟩ : ∃ I : Nat → St → Prop, I = fun m s => ∃ (k : Nat) (d : Int), k ≤ l.length ∧ m = l.length - k ∧ seqFrom 0 0 l = seqFrom k d (l.drop k) ∧ (k = 0 → d = 0) ∧ (∀ j x, k = j + 1 → l[j]? = some x → d = x.Day) ∧ s.t 1 = .ref 0 0 0 ∧ s.t 23 = postsL l ∧ s.t 24 = iv l.length ∧ s.t 25 = iv k ∧ s.H[0]? = some (some ⟨28, 1, [[postsL l]]⟩) := ⟨_, rfl⟩
  refine aloop0 I (l.length) (by rw [hN]; rfl) ?_ ?_
  · rw [hI]
    exact ⟨0, 0, by omega, by omega, by simp, by simp, by omega, by simp -dsimp -implicitDefEqProofs [-getElem?_pos, go_sem, t1], by simp -dsimp -implicitDefEqProofs [-getElem?_pos, go_sem], by simp -dsimp -implicitDefEqProofs [-getElem?_pos, go_sem], by simp -dsimp -implicitDefEqProofs [-getElem?_pos, go_sem], by simp -dsimp -implicitDefEqProofs [-getElem?_pos, go_sem, hH]⟩
  clear hH hlt t1 t12 t13 t14
  intro m s hs'
  rw [hI] at hs'
  obtain ⟨k, d, hk, hm, hq, hd0, hd1, t1, t23, t24, t25, hH⟩ := hs'
  have hlt := (List.getElem?_eq_some_iff.1 hH).1
  simp -dsimp -implicitDefEqProofs [-getElem?_pos, go_sem, hP, t24, t25]
  refine condP (fun h => ?_) (fun h => ?_)
  · have hk : k < l.length := by simpa using h
    obtain ⟨p, hp⟩ : ∃ p, l[k]? = some p := ⟨_, List.getElem?_eq_getElem hk⟩
    have hpo := hvo p (List.mem_of_getElem? hp)
    have wk := wrap_in ((k : Int) + 1) (by omega)
    have hdr : l.drop k = p :: l.drop (k + 1) := by
      rw [List.getElem?_eq_getElem hk] at hp
      rw [List.drop_eq_getElem_cons hk, Option.some.inj hp]
    rw [hdr, seqFrom] at hq
    have g0 : ∀ x : Option AObj, (s.H ++ [x])[0]? = some (some ⟨28, 1, [[postsL l]]⟩) := fun x => by rw [List.getElem?_append_left hlt]; exact hH
    simp -dsimp -implicitDefEqProofs [-getElem?_pos, go_sem, hP, t25, t23, hp, cP]
    refine adrawB (fun _ => true) [] hP (by kernel_rfl) (by kernel_rfl) ?_
    by_cases c1 : p.Number = (k : Int) + 1
    · have d1 : decide (p.Number = (k : Int) + 1) = true := decide_eq_true c1
      rcases Nat.eq_zero_or_pos k with k0 | k0
      · have hdd : d ≤ p.Day := by rw [hd0 k0]; exact hpo.day.1
        rw [d1, decide_eq_true hdd, Bool.true_and, Bool.true_and] at hq
        have k0' : ¬ 0 < k := by omega
        have hjk : decide ((0 : Int) < (k : Int)) = false := decide_eq_false (by omega)
        simp -dsimp -implicitDefEqProofs [-getElem?_pos, go_sem, hP, wk, d1, t1, t25, k0', hjk]
        refine ⟨l.length - (k + 1), by omega, ?_⟩
        rw [hI]
        exact ⟨k + 1, p.Day, by omega, rfl, hq, by omega, prev_day hp, by simp -dsimp -implicitDefEqProofs [-getElem?_pos, go_sem, t1], by simp -dsimp -implicitDefEqProofs [-getElem?_pos, go_sem, t23], by simp -dsimp -implicitDefEqProofs [-getElem?_pos, go_sem, t24], by simp -dsimp -implicitDefEqProofs [-getElem?_pos, go_sem], by simp -dsimp -implicitDefEqProofs [-getElem?_pos, go_sem, g0]⟩
      · obtain ⟨j, hj⟩ : ∃ j, k = j + 1 := ⟨k - 1, by omega⟩
        obtain ⟨x, hx⟩ : ∃ x, l[j]? = some x := ⟨_, List.getElem?_eq_getElem (by omega)⟩
        have hdx := hd1 j x hj hx
        have hjk : decide ((0 : Int) < (k : Int)) = true := decide_eq_true (by omega)
        have wj : IntKind.i64.wrap ((k : Int) - 1) = (j : Int) := by rw [wrap_in _ (by omega)]; omega
        have s1 := g0 (some ⟨37, 8, [[iv p.Number, iv p.Day, iv p.Entity, iv p.Debit, iv p.Credit, iv p.Amount, iv p.Partner, iv p.Ref]]⟩)
        rw [hdx, d1, Bool.true_and] at hq
        by_cases c2 : x.Day ≤ p.Day
        · have d2 : decide (p.Day < x.Day) = false := decide_eq_false (by omega)
          rw [decide_eq_true c2, Bool.true_and] at hq
          simp -dsimp -implicitDefEqProofs [-getElem?_pos, go_sem, hP, wk, d1, t1, t25, k0, hjk, wj, s1, hx, cP, d2]
          refine ⟨l.length - (k + 1), by omega, ?_⟩
          rw [hI]
          exact ⟨k + 1, p.Day, by omega, rfl, hq, by omega, prev_day hp, by simp -dsimp -implicitDefEqProofs [-getElem?_pos, go_sem, t1], by simp -dsimp -implicitDefEqProofs [-getElem?_pos, go_sem, t23], by simp -dsimp -implicitDefEqProofs [-getElem?_pos, go_sem, t24], by simp -dsimp -implicitDefEqProofs [-getElem?_pos, go_sem], by simp -dsimp -implicitDefEqProofs [-getElem?_pos, go_sem, g0]⟩
        · have d2 : decide (p.Day < x.Day) = true := decide_eq_true (by omega)
          rw [decide_eq_false c2, Bool.false_and] at hq
          have : checkL l = 86 := by rw [tc, hq]; rfl
          simp -dsimp -implicitDefEqProofs [-getElem?_pos, go_sem, hP, wk, d1, t1, t25, k0, hjk, wj, s1, hx, cP, d2, this]
    · have d1 : decide (p.Number = (k : Int) + 1) = false := decide_eq_false c1
      rw [d1, Bool.false_and] at hq
      have : checkL l = 86 := by rw [tc, hq]; rfl
      simp -dsimp -implicitDefEqProofs [-getElem?_pos, go_sem, hP, wk, d1, this]
  · have hk : k = l.length := by simp at h; omega
    subst hk
    rw [List.drop_length, seqFrom] at hq
    have : checkL l = 0 := by rw [tc, hq]; rfl
    simp -dsimp -implicitDefEqProofs [-getElem?_pos, go_sem, hP, this]

theorem listEq_pf_posts40 (a b : List TPosting) (ha : a.length ≤ 100000) (hb : b.length ≤ 100000) :
    PFun Try.prog none none 65 [.list 8 (encL TPosting.cells a), .list 8 (encL TPosting.cells b)] (· = bv (decide (a = b))) := by
  refine pfun_intro Try.func65 rfl (by simp [Try.f65]) (by kernel_rfl) ?_
  intro E hP hr hs hW hN
  by_cases hlen : a.length = b.length
  rotate_left
  · have hne : ¬ a = b := fun h => hlen (by rw [h])
    have hl : decide ((a.length : Int) = (b.length : Int)) = false := by simp; omega
    simp -dsimp -implicitDefEqProofs [-getElem?_pos, go_sem, hP, hl, hne]
  have hl : decide ((a.length : Int) = (b.length : Int)) = true := by simp; omega
  simp -dsimp -implicitDefEqProofs [-getElem?_pos, go_sem, hP, hl]
  obtain ⟨I, hI⟩ : ∃ I : Nat → St → Prop, I = fun m s => ∃ k : Nat, k ≤ a.length ∧ m = a.length - k ∧ s.t 0 = .list 8 (encL TPosting.cells a) ∧ s.t 1 = .list 8 (encL TPosting.cells b) ∧ s.t 12 = iv a.length ∧ s.t 13 = iv k ∧ a.take k = b.take k := ⟨_, rfl⟩
  refine aloop0 I (a.length) (by rw [hN]; rfl) ?_ ?_
  · rw [hI]
    exact ⟨0, by omega, by omega, by simp -dsimp -implicitDefEqProofs [-getElem?_pos, go_sem], by simp -dsimp -implicitDefEqProofs [-getElem?_pos, go_sem], by simp -dsimp -implicitDefEqProofs [-getElem?_pos, go_sem], by simp -dsimp -implicitDefEqProofs [-getElem?_pos, go_sem], by simp⟩
  intro m s hs'
  rw [hI] at hs'
  obtain ⟨k, hk, hm, t0, t1, t12, t13, heq⟩ := hs'
  simp -dsimp -implicitDefEqProofs [-getElem?_pos, go_sem, hP, t12, t13]
  refine condP (fun h => ?_) (fun h => ?_)
  · have hk : k < a.length := by simpa using h
    obtain ⟨x, hx⟩ : ∃ x, a[k]? = some x := ⟨_, List.getElem?_eq_getElem hk⟩
    obtain ⟨y, hy⟩ : ∃ y, b[k]? = some y := ⟨_, List.getElem?_eq_getElem (by omega)⟩
    have wk := wrap_in ((k : Int) + 1) (by omega)
    have tx : a.take (k + 1) = a.take k ++ [x] := by rw [List.take_add_one, hx]; rfl
    have ty : b.take (k + 1) = b.take k ++ [y] := by rw [List.take_add_one, hy]; rfl
    simp -dsimp -implicitDefEqProofs [-getElem?_pos, go_sem, hP, t13]
    refine adrawB (fun _ => true) [] hP (by kernel_rfl) (by kernel_rfl) ?_
    by_cases hxy : x = y
    · subst hxy
      simp -dsimp -implicitDefEqProofs [-getElem?_pos, go_sem, hP, t0, t1, hx, hy, TPosting.cells, t13, wk]
      refine ⟨a.length - (k + 1), by omega, ?_⟩
      rw [hI]
      exact ⟨k + 1, by omega, rfl, by simp -dsimp -implicitDefEqProofs [-getElem?_pos, go_sem, t0], by simp -dsimp -implicitDefEqProofs [-getElem?_pos, go_sem, t1], by simp -dsimp -implicitDefEqProofs [-getElem?_pos, go_sem, t12], by simp -dsimp -implicitDefEqProofs [-getElem?_pos, go_sem], by rw [tx, ty, heq]⟩
    · have hne : ¬ a = b := fun h => by
        subst h
        rw [hx] at hy
        exact hxy (Option.some.inj hy)
      simp -dsimp -implicitDefEqProofs [-getElem?_pos, go_sem, hP, t0, t1, hx, hy, TPosting.cells, t13, wk]
      refine condP (fun h => ?_) (fun h => ?_)
      · simp -dsimp -implicitDefEqProofs [-getElem?_pos, go_sem, hP, hne]
      · exact absurd (by cases x; cases y; simp at h; simp [h]) hxy
  · have hk : k = a.length := by simp at h; omega
    subst hk
    rw [List.take_length] at heq
    rw [hlen, List.take_length] at heq
    simp -dsimp -implicitDefEqProofs [-getElem?_pos, go_sem, hP, heq]

theorem listEq_pf_bals40 (a b : List TBalance) (ha : a.length ≤ 100000) (hb : b.length ≤ 100000) :
    PFun Try.prog none none 23 [.list 2 (encL TBalance.cells a), .list 2 (encL TBalance.cells b)] (· = bv (decide (a = b))) := by
  refine pfun_intro Try.func23 rfl (by simp [Try.f23]) (by kernel_rfl) ?_
  intro E hP hr hs hW hN
  by_cases hlen : a.length = b.length
  rotate_left
  · have hne : ¬ a = b := fun h => hlen (by rw [h])
    have hl : decide ((a.length : Int) = (b.length : Int)) = false := by simp; omega
    simp -dsimp -implicitDefEqProofs [-getElem?_pos, go_sem, hP, hl, hne]
  have hl : decide ((a.length : Int) = (b.length : Int)) = true := by simp; omega
  simp -dsimp -implicitDefEqProofs [-getElem?_pos, go_sem, hP, hl]
  obtain ⟨I, hI⟩ : ∃ I : Nat → St → Prop, I = fun m s => ∃ k : Nat, k ≤ a.length ∧ m = a.length - k ∧ s.t 0 = .list 2 (encL TBalance.cells a) ∧ s.t 1 = .list 2 (encL TBalance.cells b) ∧ s.t 12 = iv a.length ∧ s.t 13 = iv k ∧ a.take k = b.take k := ⟨_, rfl⟩
  refine aloop0 I (a.length) (by rw [hN]; rfl) ?_ ?_
  · rw [hI]
    exact ⟨0, by omega, by omega, by simp -dsimp -implicitDefEqProofs [-getElem?_pos, go_sem], by simp -dsimp -implicitDefEqProofs [-getElem?_pos, go_sem], by simp -dsimp -implicitDefEqProofs [-getElem?_pos, go_sem], by simp -dsimp -implicitDefEqProofs [-getElem?_pos, go_sem], by simp⟩
  intro m s hs'
  rw [hI] at hs'
  obtain ⟨k, hk, hm, t0, t1, t12, t13, heq⟩ := hs'
  simp -dsimp -implicitDefEqProofs [-getElem?_pos, go_sem, hP, t12, t13]
  refine condP (fun h => ?_) (fun h => ?_)
  · have hk : k < a.length := by simpa using h
    obtain ⟨x, hx⟩ : ∃ x, a[k]? = some x := ⟨_, List.getElem?_eq_getElem hk⟩
    obtain ⟨y, hy⟩ : ∃ y, b[k]? = some y := ⟨_, List.getElem?_eq_getElem (by omega)⟩
    have wk := wrap_in ((k : Int) + 1) (by omega)
    have tx : a.take (k + 1) = a.take k ++ [x] := by rw [List.take_add_one, hx]; rfl
    have ty : b.take (k + 1) = b.take k ++ [y] := by rw [List.take_add_one, hy]; rfl
    simp -dsimp -implicitDefEqProofs [-getElem?_pos, go_sem, hP, t13]
    refine adrawB (fun _ => true) [] hP (by kernel_rfl) (by kernel_rfl) ?_
    by_cases hxy : x = y
    · subst hxy
      simp -dsimp -implicitDefEqProofs [-getElem?_pos, go_sem, hP, t0, t1, hx, hy, TBalance.cells, t13, wk]
      refine ⟨a.length - (k + 1), by omega, ?_⟩
      rw [hI]
      exact ⟨k + 1, by omega, rfl, by simp -dsimp -implicitDefEqProofs [-getElem?_pos, go_sem, t0], by simp -dsimp -implicitDefEqProofs [-getElem?_pos, go_sem, t1], by simp -dsimp -implicitDefEqProofs [-getElem?_pos, go_sem, t12], by simp -dsimp -implicitDefEqProofs [-getElem?_pos, go_sem], by rw [tx, ty, heq]⟩
    · have hne : ¬ a = b := fun h => by
        subst h
        rw [hx] at hy
        exact hxy (Option.some.inj hy)
      simp -dsimp -implicitDefEqProofs [-getElem?_pos, go_sem, hP, t0, t1, hx, hy, TBalance.cells, t13, wk]
      refine condP (fun h => ?_) (fun h => ?_)
      · simp -dsimp -implicitDefEqProofs [-getElem?_pos, go_sem, hP, hne]
      · exact absurd (by cases x; cases y; simp at h; simp [h]) hxy
  · have hk : k = a.length := by simp at h; omega
    subst hk
    rw [List.take_length] at heq
    rw [hlen, List.take_length] at heq
    simp -dsimp -implicitDefEqProofs [-getElem?_pos, go_sem, hP, heq]

theorem rturn_pf (p : TPosting) (number day : Int) : PFun Try.prog none none 38 [.agg p.cells, iv number, iv day] (· = .agg (turnP p number day).cells) := by
  refine pfun_intro Try.func38 rfl (by simp [Try.f38]) (by kernel_rfl) ?_
  intro E hP hr hs hW hN
  simp -dsimp -implicitDefEqProofs [-getElem?_pos, go_sem, hP, cP]
  exact done_imm (imm_agg.2 (turnP p number day).imm) rfl

set_option maxHeartbeats 1000000 in
theorem rpost_pf (l : TLedger) (p : TPosting) (hl : l.Postings.length ≤ 100000) : PFun Try.prog none none 62 [.agg l.cells, .agg p.cells] (· = .tup [.agg (TLedger.mk (postL l.Postings p).1).cells, iv (postL l.Postings p).2]) := by
  refine pfun_intro Try.func62 rfl (by simp [Try.f62]) (by kernel_rfl) ?_
  intro E hP hr hs hW hN
  have ck := rcheck_pf l hl
  have po := rposting_pf p
  obtain ⟨l⟩ := l
  simp only at hl ck
  rw [cL] at ck
  rw [cP] at po
  have ip := imm_posts l
  have ipp : Imm (.agg [iv p.Number, iv p.Day, iv p.Entity, iv p.Debit, iv p.Credit, iv p.Amount, iv p.Partner, iv p.Ref]) := imm_agg.2 p.imm
  simp -dsimp -implicitDefEqProofs [-getElem?_pos, go_sem, hP, cL, cP]
  refine callB_is (ck.lift _ _) hP en_60 (by simp [ip, imm_agg]) .sc ?_
  by_cases c1 : checkL l = 0
  rotate_left
  · have : postL l p = ([], checkL l) := by rw [postL, if_neg c1]
    simp -dsimp -implicitDefEqProofs [-getElem?_pos, go_sem, hP, c1]
    refine done_zeroL ?_
    rw [this]
  obtain ⟨k1, k2, k3⟩ := checkL_ok c1
  simp -dsimp -implicitDefEqProofs [-getElem?_pos, go_sem, hP, c1]
  refine callB_is (po.lift _ _) hP en_64 (by simp [ipp]) .sc ?_
  cases c2 : postB p
  · have : postL l p = ([], 85) := by rw [postL, if_pos c1, if_pos c2]
    simp -dsimp -implicitDefEqProofs [-getElem?_pos, go_sem, hP, c2]
    refine done_zeroL ?_
    rw [this]
  have c2' : ¬ postB p = false := by simp [c2]
  by_cases c3 : l.length = 400
  · have : postL l p = ([], 3) := by rw [postL, if_pos c1, if_neg c2', if_pos c3]
    simp -dsimp -implicitDefEqProofs [-getElem?_pos, go_sem, hP, c2, c3]
    refine done_zeroL ?_
    rw [this]
  have d3 : decide ((l.length : Int) = 400) = false := by simp; omega
  have wk := wrap_in ((l.length : Int) + 1) (by omega)
  by_cases c4 : p.Number = (l.length : Int) + 1
  rotate_left
  · have : postL l p = ([], 65) := by rw [postL, if_pos c1, if_neg c2', if_neg c3, if_pos c4]
    have d4 : decide (p.Number = (l.length : Int) + 1) = false := decide_eq_false c4
    simp -dsimp -implicitDefEqProofs [-getElem?_pos, go_sem, hP, c2, d3, wk, d4]
    refine done_zeroL ?_
    rw [this]
  have d4 : decide (p.Number = (l.length : Int) + 1) = true := decide_eq_true c4
  simp -dsimp -implicitDefEqProofs [-getElem?_pos, go_sem, hP, c2, d3, wk, d4]
  refine adrawB (fun _ => true) [] hP (by kernel_rfl) (by kernel_rfl) ?_
  have en : encL TPosting.cells l ++ [[iv p.Number, iv p.Day, iv p.Entity, iv p.Debit, iv p.Credit, iv p.Amount, iv p.Partner, iv p.Ref]] = encL TPosting.cells (l ++ [p]) := encL_snoc TPosting.cells l p
  by_cases h0 : l.length = 0
  · have hln : l = [] := List.eq_nil_of_length_eq_zero h0
    subst hln
    have pA : postL [] p = ([] ++ [p], 0) := by
      have := (postB_iff p).1 c2
      rw [postL, if_pos c1, if_neg c2', if_neg c3, if_neg (by simp [c4]), if_neg (by rw [lastD_nil]; have := this.day; omega)]
    simp -dsimp -implicitDefEqProofs [-getElem?_pos, go_sem, hP]
    refine adrawB (fun id => decide (id < 2)) [7] hP (by kernel_rfl) (by kernel_rfl) ?_
    simp -dsimp -implicitDefEqProofs [-getElem?_pos, go_sem, hP, restr_get]
    refine ⟨agree_2, agree_2, ?_⟩
    refine done_agg2 (cs' := [postsL ([] ++ [p])]) (cw_sref (ty := 37) rfl rfl (imm_posts [p]) .nil) ?_
    rw [pA]
    rfl
  · obtain ⟨k, hk⟩ : ∃ k, l.length = k + 1 := ⟨l.length - 1, by omega⟩
    obtain ⟨x, hx⟩ : ∃ x, l[k]? = some x := ⟨_, List.getElem?_eq_getElem (by omega)⟩
    have hld := lastD_get hk hx
    have d0 : decide ((0 : Int) < (l.length : Int)) = true := decide_eq_true (by omega)
    have d0' : 0 < l.length := by omega
    have wj : IntKind.i64.wrap ((l.length : Int) - 1) = (k : Int) := by rw [wrap_in _ (by omega)]; omega
    by_cases c5 : p.Day < x.Day
    · have : postL l p = ([], 8) := by rw [postL, if_pos c1, if_neg c2', if_neg c3, if_neg (by simp [c4]), hld, if_pos c5]
      have d5 : decide (p.Day < x.Day) = true := decide_eq_true c5
      simp -dsimp -implicitDefEqProofs [-getElem?_pos, go_sem, hP, d0, d0', wj, hx, cP, d5]
      refine done_zeroL ?_
      rw [this]
    have pA : postL l p = (l ++ [p], 0) := by rw [postL, if_pos c1, if_neg c2', if_neg c3, if_neg (by simp [c4]), hld, if_neg c5]
    have d5 : decide (p.Day < x.Day) = false := decide_eq_false c5
    simp -dsimp -implicitDefEqProofs [-getElem?_pos, go_sem, hP, d0, d0', wj, hx, cP, d5]
    refine adrawB (fun id => decide (id < 2)) [7] hP (by kernel_rfl) (by kernel_rfl) ?_
    simp -dsimp -implicitDefEqProofs [-getElem?_pos, go_sem, hP, restr_get]
    refine ⟨by omega, by omega, agree_2, by omega, by omega, agree_2, ?_⟩
    refine done_agg2 (cs' := [postsL (l ++ [p])]) (cw_sref (ty := 37) (by rw [← en]; rfl) (by simp [encL]) (imm_posts _) .nil) ?_
    rw [pA]
    rfl

end Go.Proofs.Ytellcfkpfccgaaa
