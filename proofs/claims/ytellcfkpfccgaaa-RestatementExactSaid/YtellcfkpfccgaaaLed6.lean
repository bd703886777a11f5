/- Ledgers: the reference's sums. -/
import Derived.Test.YtellcfkpfccgaaaLed4
import Derived.Test.YtellcfkpfccgaaaLed5
set_option linter.unusedSimpArgs false
set_option linter.unusedVariables false
namespace Go.Proofs.Ytellcfkpfccgaaa
open Go.PA
open Go.RowKit

theorem ze500 : ∃ Z : List Int, zeros Try.prog 145 = some (arI Z) ∧ Z = List.replicate 500 0 := ⟨List.replicate 500 0, by rw [← arI_rep]; exact ze_145, rfl⟩
/-- The balances of the accounts from 100 to 599. -/
def sumsX (f : TPosting → Bool) (l : List TPosting) : List Int := (List.range 500).map fun (i : Nat) => bal f l (100 + (i : Int))
theorem sumsX_len (f : TPosting → Bool) (l : List TPosting) : (sumsX f l).length = 500 := by simp [sumsX]
theorem sumsX_get (f : TPosting → Bool) (l : List TPosting) (i : Nat) (h : i < 500) : (sumsX f l)[i]? = some (bal f l (100 + (i : Int))) := by simp [sumsX, h]
theorem sumsX_eq {f : TPosting → Bool} {l : List TPosting} {xs : List Int} (h5 : xs.length = 500) (h : ∀ i : Nat, i < 500 → xs[i]? = some (bal f l (100 + (i : Int)))) : xs = sumsX f l := by
  apply List.ext_getElem?
  intro i
  by_cases hi : i < 500
  · rw [h i hi, sumsX_get f l i hi]
  · rw [List.getElem?_eq_none (by omega), List.getElem?_eq_none (by rw [sumsX_len]; omega)]

theorem ofB_not (e from_ to : Int) (p : TPosting) : (p.Day < from_ ∨ to < p.Day ∨ (¬ e = 0 ∧ ¬ p.Entity = e)) ↔ ofB e from_ to p = false := by
  unfold ofB
  by_cases h1 : e = 0 <;> by_cases h2 : p.Entity = e <;> by_cases h3 : from_ ≤ p.Day <;> by_cases h4 : p.Day ≤ to <;> simp [h1, h2, h3, h4] <;> omega

set_option maxHeartbeats 2000000 in
theorem rsums_pf (l : List TPosting) (e from_ to : Int) (hl : FineL l) : PFun Try.prog none none 103 [postsL l, iv e, iv from_, iv to] (· = .agg (arI (sumsX (ofB e from_ to) l))) := by
  refine pfun_intro Try.func103 rfl (by simp [Try.f103]) (by kernel_rfl) ?_
  intro E hP hr hs hW hN
  have ip := imm_posts l
  obtain ⟨h1, h2⟩ := hl
  obtain ⟨f, hf⟩ : ∃ f, f = ofB e from_ to := ⟨_, rfl⟩
  obtain ⟨Z, hZ, hZ2⟩ := ze500
  have hZl : Z.length = 500 := by rw [hZ2]; exact List.length_replicate
  rw [← hf]
  simp -dsimp -implicitDefEqProofs [-getElem?_pos, go_sem, hP, hZ]
  obtain ⟨I, hI⟩ : ∃ I : Nat → St → Prop, I = fun m s => ∃ (k : Nat) (xs : List Int), k ≤ l.length ∧ m = l.length - k ∧ xs.length = 500 ∧ (∀ i : Nat, i < 500 → xs[i]? = some (bal f (l.take k) (100 + (i : Int)))) ∧ s.t 1 = iv e ∧ s.t 2 = iv from_ ∧ s.t 3 = iv to ∧ s.t 8 = .ref 0 0 0 ∧ s.t 9 = .ref 1 0 0 ∧ s.t 12 = postsL l ∧ s.t 13 = iv l.length ∧ s.t 14 = iv k ∧ s.H[0]? = some (some ⟨145, 500, [arI Z]⟩) ∧ s.H[1]? = some (some ⟨145, 500, [arI xs]⟩) := ⟨_, rfl⟩
  refine aloop0 I (l.length) (by rw [hN]; rfl) ?_ ?_
  · rw [hI]
    refine ⟨0, Z, by omega, by omega, hZl, fun i hi => ?_, by simp -dsimp -implicitDefEqProofs [-getElem?_pos, go_sem], by simp -dsimp -implicitDefEqProofs [-getElem?_pos, go_sem], by simp -dsimp -implicitDefEqProofs [-getElem?_pos, go_sem], by simp -dsimp -implicitDefEqProofs [-getElem?_pos, go_sem], by simp -dsimp -implicitDefEqProofs [-getElem?_pos, go_sem], by simp -dsimp -implicitDefEqProofs [-getElem?_pos, go_sem], by simp -dsimp -implicitDefEqProofs [-getElem?_pos, go_sem], by simp -dsimp -implicitDefEqProofs [-getElem?_pos, go_sem], by simp -dsimp -implicitDefEqProofs [-getElem?_pos, go_sem], by simp -dsimp -implicitDefEqProofs [-getElem?_pos, go_sem]⟩
    rw [hZ2, List.getElem?_replicate, if_pos hi]
    rfl
  intro m s hs'
  rw [hI] at hs'
  obtain ⟨k, xs, hk, hm, h5, hx, t1, t2, t3, t8, t9, t12, t13, t14, hH0, hH⟩ := hs'
  have hlt := (List.getElem?_eq_some_iff.1 hH).1
  simp -dsimp -implicitDefEqProofs [-getElem?_pos, go_sem, hP, t13, t14]
  refine condP (fun h => ?_) (fun h => ?_)
  · have hk : k < l.length := by simpa using h
    obtain ⟨p, hp⟩ : ∃ p, l[k]? = some p := ⟨_, List.getElem?_eq_getElem hk⟩
    have hfp := h1 p (List.mem_of_getElem? hp)
    have wk := wrap_in ((k : Int) + 1) (by omega)
    have nx : ∀ a, bal f (l.take (k + 1)) a = bal f (l.take k) a + (if f p = true then addP (fun b => decide (b = a)) p else 0) := fun a => by rw [List.take_add_one, hp]; exact netP_snoc _ _ _ _
    have hb : ∀ a, -(1000000000000 * (k : Int)) ≤ bal f (l.take k) a ∧ bal f (l.take k) a ≤ 1000000000000 * (k : Int) := fun a => by
      have := netP_bound (fun b => decide (b = a)) f (l.take k) fun q hq => h1 q (List.mem_of_mem_take hq)
      rw [show (l.take k).length = k by simp; omega] at this
      exact this
    have g0 : ∀ x : Option AObj, (s.H ++ [x])[0]? = some (some ⟨145, 500, [arI Z]⟩) := fun x => by rw [List.getElem?_append_left (by omega)]; exact hH0
    have g1 : ∀ x : Option AObj, (s.H ++ [x])[1]? = some (some ⟨145, 500, [arI xs]⟩) := fun x => by rw [List.getElem?_append_left hlt]; exact hH
    have hskip : f p = false → ∀ i : Nat, i < 500 → xs[i]? = some (bal f (l.take (k + 1)) (100 + (i : Int))) := fun hc i hi => by rw [nx, hc, hx i hi]; simp
    have hn := ofB_not e from_ to p
    rw [← hf] at hn
    simp -dsimp -implicitDefEqProofs [-getElem?_pos, go_sem, hP, t12, t14, hp, cP]
    by_cases c1 : p.Day < from_
    · have d1 : decide (p.Day < from_) = true := decide_eq_true c1
      have hs := hskip (hn.1 (.inl c1))
      simp -dsimp -implicitDefEqProofs [-getElem?_pos, go_sem, hP, t2, d1, t14, wk]
      refine ⟨l.length - (k + 1), by omega, ?_⟩
      rw [hI]
      exact ⟨k + 1, xs, by omega, rfl, h5, hs, by simp -dsimp -implicitDefEqProofs [-getElem?_pos, go_sem, t1], by simp -dsimp -implicitDefEqProofs [-getElem?_pos, go_sem, t2], by simp -dsimp -implicitDefEqProofs [-getElem?_pos, go_sem, t3], by simp -dsimp -implicitDefEqProofs [-getElem?_pos, go_sem, t8], by simp -dsimp -implicitDefEqProofs [-getElem?_pos, go_sem, t9], by simp -dsimp -implicitDefEqProofs [-getElem?_pos, go_sem, t12], by simp -dsimp -implicitDefEqProofs [-getElem?_pos, go_sem, t13], by simp -dsimp -implicitDefEqProofs [-getElem?_pos, go_sem], by simp -dsimp -implicitDefEqProofs [-getElem?_pos, go_sem, g0], by simp -dsimp -implicitDefEqProofs [-getElem?_pos, go_sem, g1]⟩
    have d1 : decide (p.Day < from_) = false := decide_eq_false c1
    by_cases c2 : to < p.Day
    · have d2 : decide (to < p.Day) = true := decide_eq_true c2
      have hs := hskip (hn.1 (.inr (.inl c2)))
      simp -dsimp -implicitDefEqProofs [-getElem?_pos, go_sem, hP, t2, t3, d1, d2, t14, wk]
      refine ⟨l.length - (k + 1), by omega, ?_⟩
      rw [hI]
      exact ⟨k + 1, xs, by omega, rfl, h5, hs, by simp -dsimp -implicitDefEqProofs [-getElem?_pos, go_sem, t1], by simp -dsimp -implicitDefEqProofs [-getElem?_pos, go_sem, t2], by simp -dsimp -implicitDefEqProofs [-getElem?_pos, go_sem, t3], by simp -dsimp -implicitDefEqProofs [-getElem?_pos, go_sem, t8], by simp -dsimp -implicitDefEqProofs [-getElem?_pos, go_sem, t9], by simp -dsimp -implicitDefEqProofs [-getElem?_pos, go_sem, t12], by simp -dsimp -implicitDefEqProofs [-getElem?_pos, go_sem, t13], by simp -dsimp -implicitDefEqProofs [-getElem?_pos, go_sem], by simp -dsimp -implicitDefEqProofs [-getElem?_pos, go_sem, g0], by simp -dsimp -implicitDefEqProofs [-getElem?_pos, go_sem, g1]⟩
    have d2 : decide (to < p.Day) = false := decide_eq_false c2
    by_cases c3 : ¬ e = 0 ∧ ¬ p.Entity = e
    · have hs := hskip (hn.1 (.inr (.inr c3)))
      have d3 : decide (e = 0) = false := decide_eq_false c3.1
      have d4 : decide (p.Entity = e) = false := decide_eq_false c3.2
      simp -dsimp -implicitDefEqProofs [-getElem?_pos, go_sem, hP, t1, t2, t3, d1, d2, d3, d4, t14, wk]
      refine ⟨l.length - (k + 1), by omega, ?_⟩
      rw [hI]
      exact ⟨k + 1, xs, by omega, rfl, h5, hs, by simp -dsimp -implicitDefEqProofs [-getElem?_pos, go_sem, t1], by simp -dsimp -implicitDefEqProofs [-getElem?_pos, go_sem, t2], by simp -dsimp -implicitDefEqProofs [-getElem?_pos, go_sem, t3], by simp -dsimp -implicitDefEqProofs [-getElem?_pos, go_sem, t8], by simp -dsimp -implicitDefEqProofs [-getElem?_pos, go_sem, t9], by simp -dsimp -implicitDefEqProofs [-getElem?_pos, go_sem, t12], by simp -dsimp -implicitDefEqProofs [-getElem?_pos, go_sem, t13], by simp -dsimp -implicitDefEqProofs [-getElem?_pos, go_sem], by simp -dsimp -implicitDefEqProofs [-getElem?_pos, go_sem, g0], by simp -dsimp -implicitDefEqProofs [-getElem?_pos, go_sem, g1]⟩
    have hc : f p = true := by
      cases hfp' : f p with
      | true => rfl
      | false => have := hn.2 hfp'; omega
    obtain ⟨d, hd, hd5⟩ : ∃ d : Nat, p.Debit = 100 + (d : Int) ∧ d < 500 := ⟨(p.Debit - 100).toNat, by have := hfp.deb; omega, by have := hfp.deb; omega⟩
    obtain ⟨c, hcr, hc5⟩ : ∃ c : Nat, p.Credit = 100 + (c : Int) ∧ c < 500 := ⟨(p.Credit - 100).toNat, by have := hfp.cre; omega, by have := hfp.cre; omega⟩
    have wd : IntKind.i64.wrap (p.Debit - 100) = (d : Int) := by rw [wrap_in _ (by omega)]; omega
    have wc : IntKind.i64.wrap (p.Credit - 100) = (c : Int) := by rw [wrap_in _ (by omega)]; omega
    have hamt := hfp.amt
    have d3 : (e = 0 ∨ (¬ e = 0 ∧ p.Entity = e)) := by omega
    have x1 := hx d hd5
    have b1 := hb (100 + (d : Int))
    have w1 := wrap_in (bal f (l.take k) (100 + (d : Int)) + p.Amount) (by omega)
    obtain ⟨xs1, hxs1⟩ : ∃ xs1, xs1 = xs.set d (bal f (l.take k) (100 + (d : Int)) + p.Amount) := ⟨_, rfl⟩
    have l1 : xs1.length = 500 := by rw [hxs1, List.length_set]; exact h5
    obtain ⟨y, hy⟩ : ∃ y, xs1[c]? = some y := ⟨_, List.getElem?_eq_getElem (by omega)⟩
    have hyb : y = bal f (l.take k) (100 + (c : Int)) + (if c = d then p.Amount else 0) := by
      rw [hxs1] at hy
      by_cases hcd : c = d
      · subst hcd
        rw [List.getElem?_set_self (by omega)] at hy
        rw [if_pos rfl, ← Option.some.inj hy]
      · rw [List.getElem?_set_ne (fun e => hcd e.symm), hx c hc5] at hy
        rw [if_neg hcd, ← Option.some.inj hy]
        omega
    have b2 := hb (100 + (c : Int))
    have w2 := wrap_in (y - p.Amount) (by rw [hyb]; split <;> omega)
    have hnew : ∀ i : Nat, i < 500 → (xs1.set c (y - p.Amount))[i]? = some (bal f (l.take (k + 1)) (100 + (i : Int))) := fun i hi => by
      have hii : (if i = d then p.Amount else 0) - (if i = c then p.Amount else 0) = addP (fun b => decide (b = 100 + (i : Int))) p := by
        unfold addP
        rw [hd, hcr]
        by_cases e1 : i = d <;> by_cases e2 : i = c
        · subst e1; subst e2; simp
        · have : ¬ (c : Int) = (i : Int) := by omega
          subst e1; simp [e2, this]
        · have : ¬ (d : Int) = (i : Int) := by omega
          subst e2; simp [e1, this]
        · have h1 : ¬ (d : Int) = (i : Int) := by omega
          have h2 : ¬ (c : Int) = (i : Int) := by omega
          simp [e1, e2, h1, h2]
      rw [nx, hc, if_pos rfl, ← hii]
      by_cases e2 : i = c
      · subst e2
        rw [List.getElem?_set_self (by omega), hyb]
        refine congrArg some ?_
        rw [if_pos rfl]
        omega
      · rw [List.getElem?_set_ne (fun e => e2 e.symm), hxs1, if_neg e2]
        by_cases e1 : i = d
        · subst e1
          rw [List.getElem?_set_self (by omega)]
          refine congrArg some ?_
          rw [if_pos rfl]
          omega
        · rw [List.getElem?_set_ne (fun e => e1 e.symm), hx i hi, if_neg e1]
          refine congrArg some ?_
          omega
    have dlt : (d : Int) < 500 := by omega
    have clt : (c : Int) < 500 := by omega
    have d1x : d + 1 ≤ 500 := by omega
    have c1x : c + 1 ≤ 500 := by omega
    have d2x : d ≤ 499 := by omega
    have c2x : c ≤ 499 := by omega
    have r1 := fun x => @heap_set_at s.H x 1 hlt
    have r0 := fun x => @heap_set_self s.H x 1 hlt
    have q0 : ∀ (x y : Option AObj), ((s.H ++ [x]).set 1 y)[0]? = some (some ⟨145, 500, [arI Z]⟩) := fun x y => by rw [List.getElem?_set_ne (by omega)]; exact g0 x
    have fin : ∀ K : Prop, True := fun _ => trivial
    rcases d3 with d3 | ⟨d3, d4⟩
    · simp -dsimp -implicitDefEqProofs [-getElem?_pos, go_sem, hP, t1, t2, t3, t9, d1, d2, d3]
      refine adrawB (fun _ => true) [9] hP (by kernel_rfl) (by kernel_rfl) ?_
      simp -dsimp -implicitDefEqProofs [-getElem?_pos, go_sem, hP, t9, wd, g1, dlt, hd5, d1x, d2x, h5, x1, w1, arI_put, arI_put', ← hxs1]
      refine adrawB (fun _ => true) [9] hP (by kernel_rfl) (by kernel_rfl) ?_
      simp -dsimp -implicitDefEqProofs [-getElem?_pos, go_sem, hP, t9, wc, r0, r1, clt, hc5, c1x, c2x, l1, hy, w2, arI_put, arI_put', t14, wk]
      refine ⟨l.length - (k + 1), by omega, ?_⟩
      rw [hI]
      exact ⟨k + 1, xs1.set c (y - p.Amount), by omega, rfl, by rw [List.length_set]; exact l1, hnew, by simp -dsimp -implicitDefEqProofs [-getElem?_pos, go_sem, t1], by simp -dsimp -implicitDefEqProofs [-getElem?_pos, go_sem, t2], by simp -dsimp -implicitDefEqProofs [-getElem?_pos, go_sem, t3], by simp -dsimp -implicitDefEqProofs [-getElem?_pos, go_sem, t8], by simp -dsimp -implicitDefEqProofs [-getElem?_pos, go_sem, t9], by simp -dsimp -implicitDefEqProofs [-getElem?_pos, go_sem, t12], by simp -dsimp -implicitDefEqProofs [-getElem?_pos, go_sem, t13], by simp -dsimp -implicitDefEqProofs [-getElem?_pos, go_sem], by simp -dsimp -implicitDefEqProofs [-getElem?_pos, go_sem, q0], by simp -dsimp -implicitDefEqProofs [-getElem?_pos, go_sem, r0]⟩

    · have d5 : decide (e = 0) = false := decide_eq_false d3
      have d6 : decide (p.Entity = e) = true := decide_eq_true d4
      simp -dsimp -implicitDefEqProofs [-getElem?_pos, go_sem, hP, t1, t2, t3, t9, d1, d2, d5, d6]
      refine adrawB (fun _ => true) [9] hP (by kernel_rfl) (by kernel_rfl) ?_
      simp -dsimp -implicitDefEqProofs [-getElem?_pos, go_sem, hP, t9, wd, g1, dlt, hd5, d1x, d2x, h5, x1, w1, arI_put, arI_put', ← hxs1]
      refine adrawB (fun _ => true) [9] hP (by kernel_rfl) (by kernel_rfl) ?_
      simp -dsimp -implicitDefEqProofs [-getElem?_pos, go_sem, hP, t9, wc, r0, r1, clt, hc5, c1x, c2x, l1, hy, w2, arI_put, arI_put', t14, wk]
      refine ⟨l.length - (k + 1), by omega, ?_⟩
      rw [hI]
      exact ⟨k + 1, xs1.set c (y - p.Amount), by omega, rfl, by rw [List.length_set]; exact l1, hnew, by simp -dsimp -implicitDefEqProofs [-getElem?_pos, go_sem, t1], by simp -dsimp -implicitDefEqProofs [-getElem?_pos, go_sem, t2], by simp -dsimp -implicitDefEqProofs [-getElem?_pos, go_sem, t3], by simp -dsimp -implicitDefEqProofs [-getElem?_pos, go_sem, t8], by simp -dsimp -implicitDefEqProofs [-getElem?_pos, go_sem, t9], by simp -dsimp -implicitDefEqProofs [-getElem?_pos, go_sem, t12], by simp -dsimp -implicitDefEqProofs [-getElem?_pos, go_sem, t13], by simp -dsimp -implicitDefEqProofs [-getElem?_pos, go_sem], by simp -dsimp -implicitDefEqProofs [-getElem?_pos, go_sem, q0], by simp -dsimp -implicitDefEqProofs [-getElem?_pos, go_sem, r0]⟩

  · have hk : k = l.length := by simp at h; omega
    subst hk
    rw [List.take_length] at hx
    have e5 := sumsX_eq h5 hx
    have z0 : (arI Z).drop 500 = [] := arI_drop (by omega)
    have hlt0 := (List.getElem?_eq_some_iff.1 hH0).1
    have r0 := fun x : Option AObj => @List.getElem?_set_self _ s.H 0 x hlt0
    simp -dsimp -implicitDefEqProofs [-getElem?_pos, go_sem, hP, t8, t9, hH, hH0, h5, arI_take h5.symm, z0, hZl, r0]
    refine done_imm (imm_agg.2 (arI_imm _)) ?_
    rw [e5]

end Go.Proofs.Ytellcfkpfccgaaa
