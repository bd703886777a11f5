/- Strips: small functions; sums; days. -/
import Derived.Test.YtkcfmmpcpdlfeaaGreatDoorCpn3
import Derived.Test.YtkcfmmpcpdlfeaaGreatDoorDelZ
set_option linter.unusedSimpArgs false
set_option linter.unusedVariables false
namespace Go.Proofs.YtkcfmmpcpdlfeaaGreatDoor
open Go.PA
open Go.RowKit

abbrev stripsL (l : List TStrip) : AV := .list 5 (encL TStrip.cells l)
theorem cStp (x : TStrip) : x.cells = [iv x.Security, iv x.Day, bv x.Principal, iv x.Holder, iv x.Amount] := rfl
theorem cVlt (v : TVault) : v.cells = [secsL v.Register.Securities, holdsL v.Register.Holdings, movesL v.Register.Moves, stripsL v.Strips] := rfl
theorem imm_strips (l : List TStrip) : Imm (stripsL l) := imm_encL _ TStrip.imm _
theorem imm_stp (x : TStrip) : Imm (.agg x.cells) := .agg fun c hc => x.imm c hc
theorem imm_vlt (v : TVault) : Imm (.agg v.cells) := .agg fun c hc => v.imm c hc
theorem skind_pf (x : TStrip) : PFun Tryz.prog none none 86 [.agg x.cells] (· = iv (knd x.Principal)) := by
  refine pfun_intro Tryz.func86 rfl (by simp [Tryz.f86]) (by kernel_rfl) ?_
  intro E hP hr hs hW hN
  cases h : x.Principal <;> simp -dsimp -implicitDefEqProofs [-getElem?_pos, go_sem, hP, cStp, h, knd]
def cmpS (x y : TStrip) : Int := orI [cmpI x.Security y.Security, cmpI x.Day y.Day, cmpI (knd x.Principal) (knd y.Principal), cmpI x.Holder y.Holder]
theorem cmpS_lt (x y : TStrip) : cmpS x y < 0 ↔ sLt y.Security y.Day (knd y.Principal) y.Holder x = true := by
  unfold sLt
  rw [decide_eq_true_eq]
  simp only [cmpS, orI, cmpI]
  generalize knd x.Principal = a
  generalize knd y.Principal = b
  repeat' split
  all_goals omega
theorem cmpS_eq (x y : TStrip) : cmpS x y = 0 ↔ sIs y.Security y.Day (knd y.Principal) y.Holder x = true := by
  unfold sIs
  rw [decide_eq_true_eq]
  simp only [cmpS, orI, cmpI]
  generalize knd x.Principal = a
  generalize knd y.Principal = b
  repeat' split
  all_goals omega
theorem scompare_pf (x y : TStrip) : PFun Tryz.prog none none 47 [.agg x.cells, .agg y.cells] (· = iv (cmpS x y)) := by
  have kx := skind_pf x
  have ky := skind_pf y
  have ix := imm_stp x
  have iy := imm_stp y
  rw [cStp] at kx ky ix iy
  refine pfun_intro Tryz.func47 rfl (by simp [Tryz.f47]) (by kernel_rfl) ?_
  intro E hP hr hs hW hN
  simp -dsimp -implicitDefEqProofs [-getElem?_pos, go_sem, hP, cStp]
  refine adrawB (fun _ => true) [] hP (by kernel_rfl) (by kernel_rfl) ?_
  simp -dsimp -implicitDefEqProofs [-getElem?_pos, go_sem, hP]
  refine callB_pure (compare_pf x.Security y.Security) hP en_21 (args_same (by simp -dsimp -implicitDefEqProofs [-getElem?_pos, go_sem])) .sc ?_
  simp -dsimp -implicitDefEqProofs [-getElem?_pos, go_sem, hP]
  refine callB_pure (compare_pf x.Day y.Day) hP en_21 (args_same (by simp -dsimp -implicitDefEqProofs [-getElem?_pos, go_sem])) .sc ?_
  simp -dsimp -implicitDefEqProofs [-getElem?_pos, go_sem, hP]
  refine callB_pure kx hP en_86 (args_same (by simp -dsimp -implicitDefEqProofs [-getElem?_pos, go_sem])) .sc ?_
  simp -dsimp -implicitDefEqProofs [-getElem?_pos, go_sem, hP]
  refine callB_pure ky hP en_86 (args_same (by simp -dsimp -implicitDefEqProofs [-getElem?_pos, go_sem])) .sc ?_
  simp -dsimp -implicitDefEqProofs [-getElem?_pos, go_sem, hP]
  refine callB_pure (compare_pf (knd x.Principal) (knd y.Principal)) hP en_21 (args_same (by simp -dsimp -implicitDefEqProofs [-getElem?_pos, go_sem])) .sc ?_
  simp -dsimp -implicitDefEqProofs [-getElem?_pos, go_sem, hP]
  refine callB_pure (compare_pf x.Holder y.Holder) hP en_21 (args_same (by simp -dsimp -implicitDefEqProofs [-getElem?_pos, go_sem])) .sc ?_
  simp -dsimp -implicitDefEqProofs [-getElem?_pos, go_sem, hP]
  refine callB_pure (or_pf [cmpI x.Security y.Security, cmpI x.Day y.Day, cmpI (knd x.Principal) (knd y.Principal), cmpI x.Holder y.Holder] (by simp)) hP en_82 (args_same (by simp -dsimp -implicitDefEqProofs [-getElem?_pos, go_sem, intsL])) .sc ?_
  simp -dsimp -implicitDefEqProofs [-getElem?_pos, go_sem, hP, cmpS]
theorem sholder_pf (n : Int) (h : 1 ≤ n ∧ n ≤ 3) : PFun Tryz.prog none none 45 [iv n] (· = bv true) := by
  have d1 := decide_eq_true h.1
  have d2 : decide (n ≤ 1000) = true := decide_eq_true (by omega)
  have d3 : ¬ n = 1000 := by omega
  refine pfun_intro Tryz.func45 rfl (by simp [Tryz.f45]) (by kernel_rfl) ?_
  intro E hP hr hs hW hN
  simp -dsimp -implicitDefEqProofs [-getElem?_pos, go_sem, hP, d1, d2, d3]
theorem sunit_pf (s : TSecurity) (n : Int) (h : 0 < n ∧ n ≤ 1000000000000 ∧ n % s.Unit = 0) (hu : s.Unit ≠ 0) : PFun Tryz.prog none none 46 [.agg s.cells, iv n] (· = bv true) := by
  have d1 := decide_eq_true h.1
  have d2 := decide_eq_true h.2.1
  have t : n.tmod s.Unit = 0 := (Int.tmod_eq_emod_of_nonneg (by omega)).trans h.2.2
  refine pfun_intro Tryz.func46 rfl (by simp [Tryz.f46]) (by kernel_rfl) ?_
  intro E hP hr hs hW hN
  simp -dsimp -implicitDefEqProofs [-getElem?_pos, go_sem, hP, cSec, d1, d2, t, hu]
theorem spossible_pf (s : TSecurity) (day : Int) (p : Bool) (hs0 : secB s = true) (he : s.Every ≠ 0) (h : if p = true then day = s.Maturity else day ∈ daysS s) : PFun Tryz.prog none none 44 [.agg s.cells, iv day, bv p] (· = bv true) := by
  have dp := cdays_pf s hs0 he
  have is := imm_sec s
  have hcn := hasInt_pf (daysS s) day (by
    obtain ⟨q, n, _, _, _, hn, hd⟩ := days_arith (secOk hs0) he
    rw [hd]; simp; omega)
  have iL := imm_intsX (daysS s)
  rw [cSec] at dp is
  cases p with
  | true =>
    rw [if_pos rfl] at h
    refine pfun_intro Tryz.func44 rfl (by simp [Tryz.f44]) (by kernel_rfl) ?_
    intro E hP hr hs hW hN
    simp -dsimp -implicitDefEqProofs [-getElem?_pos, go_sem, hP, cSec, h]
  | false =>
    rw [if_neg (by decide)] at h
    rw [decide_eq_true h] at hcn
    refine pfun_intro Tryz.func44 rfl (by simp [Tryz.f44]) (by kernel_rfl) ?_
    intro E hP hr hs hW hN
    simp -dsimp -implicitDefEqProofs [-getElem?_pos, go_sem, hP, cSec]
    refine callB_is (dp.lift _ _) hP en_12 (by simpa using is) iL ?_
    simp -dsimp -implicitDefEqProofs [-getElem?_pos, go_sem, hP]
    refine callB_is (hcn.lift _ _) hP en_85 (by simp [iL, imm_sc]) .sc ?_
    simp -dsimp -implicitDefEqProofs [-getElem?_pos, go_sem, hP]
theorem sumS_take {l : List TStrip} (hp : ∀ x, x ∈ l → 0 < x.Amount) (id d : Int) (p : Bool) (k : Nat) : 0 ≤ sumS (l.take k) id d p ∧ sumS (l.take k) id d p ≤ sumS l id d p := by
  have h1 := sumQ_le (partQ id d p) sAm (l.take k) fun x hx => hp x (List.mem_of_mem_take hx)
  have h2 := sumQ_le (partQ id d p) sAm (l.drop k) fun x hx => hp x (List.mem_of_mem_drop hx)
  have h3 := sumQ_append (partQ id d p) sAm (l.take k) (l.drop k)
  rw [List.take_append_drop] at h3
  unfold sumS
  omega
theorem sumS_succ {l : List TStrip} {k : Nat} {x : TStrip} (hx : l[k]? = some x) (id d : Int) (p : Bool) : sumS (l.take (k + 1)) id d p = sumS (l.take k) id d p + if partQ id d p x = true then x.Amount else 0 := by
  unfold sumS
  rw [List.take_add_one, hx, sumQ_append]
  simp only [Option.toList_some, sumQ_cons, sumQ_nil, sAm]
  omega
set_option maxHeartbeats 2000000 in
theorem ssum_pf (l : List TStrip) (id day : Int) (p : Bool) (hl : l.length ≤ 100000) (hp : ∀ x, x ∈ l → 0 < x.Amount) (hs : sumS l id day p ≤ 1000000000000) : PFun Tryz.prog none none 88 [stripsL l, iv id, iv day, bv p] (· = iv (sumS l id day p)) := by
  obtain ⟨v, hv⟩ : ∃ v, v = sumS l id day p := ⟨_, rfl⟩
  rw [← hv]
  have hb := sumS_take hp id day p
  refine pfun_intro Tryz.func88 rfl (by simp [Tryz.f88]) (by kernel_rfl) ?_
  intro E hP hr hs hW hN
  simp -dsimp -implicitDefEqProofs [-getElem?_pos, go_sem, hP, encL_len]
  obtain ⟨I, hI⟩ : ∃ I : Nat → St → Prop, I = fun m s => ∃ (k : Nat) (w : Int), k ≤ l.length ∧ m = l.length - k ∧ w = sumS (l.take k) id day p ∧ s.t 1 = iv id ∧ s.t 2 = iv day ∧ s.t 3 = bv p ∧ s.t 9 = iv w ∧ s.t 12 = stripsL l ∧ s.t 13 = iv l.length ∧ s.t 14 = iv k := ⟨_, rfl⟩
  refine aloop0 I (l.length) (by rw [hN]; rfl) ?_ ?_
  · rw [hI]
    exact ⟨0, 0, by omega, by omega, rfl, by simp -dsimp -implicitDefEqProofs [-getElem?_pos, go_sem], by simp -dsimp -implicitDefEqProofs [-getElem?_pos, go_sem], by simp -dsimp -implicitDefEqProofs [-getElem?_pos, go_sem], by simp -dsimp -implicitDefEqProofs [-getElem?_pos, go_sem], by simp -dsimp -implicitDefEqProofs [-getElem?_pos, go_sem], by simp -dsimp -implicitDefEqProofs [-getElem?_pos, go_sem, encL_len], by simp -dsimp -implicitDefEqProofs [-getElem?_pos, go_sem]⟩
  intro m s hs'
  rw [hI] at hs'
  obtain ⟨k, w, hk, hm, hw, t1, t2, t3, t9, t12, t13, t14⟩ := hs'
  simp -dsimp -implicitDefEqProofs [-getElem?_pos, go_sem, hP, t13, t14]
  refine condP (fun hq => ?_) (fun hq => ?_)
  · have hk : k < l.length := by simpa using hq
    obtain ⟨a, ha⟩ : ∃ a, l[k]? = some a := ⟨_, List.getElem?_eq_getElem hk⟩
    have wk := wrap_in ((k : Int) + 1) (by omega)
    have hs2 := sumS_succ ha id day p
    have hbk := hb (k + 1)
    rw [← hw] at hs2
    have fin : ∀ w', sumS (l.take (k + 1)) id day p = w' → ∀ s' : St, s'.t 1 = iv id → s'.t 2 = iv day → s'.t 3 = bv p → s'.t 9 = iv w' → s'.t 12 = stripsL l → s'.t 13 = iv l.length → s'.t 14 = iv ((k : Int) + 1) → ∃ n', n' < m ∧ I n' s' := fun w' e s' h1 h2 h3 h9 h12 h13 h14 => by
      refine ⟨l.length - (k + 1), by omega, ?_⟩
      rw [hI]
      exact ⟨k + 1, w', by omega, rfl, e.symm, h1, h2, h3, h9, h12, h13, by rw [h14]; rfl⟩
    simp -dsimp -implicitDefEqProofs [-getElem?_pos, go_sem, hP, t12, t14, ha, cStp]
    cases hpq : partQ id day p a with
    | true =>
      have hpq' := hpq
      simp only [partQ, decide_eq_true_eq] at hpq'
      obtain ⟨e1, e2, e3⟩ := hpq'
      rw [hpq, if_pos rfl] at hs2
      have wa := wrap_in (w + a.Amount) (by omega)
      simp -dsimp -implicitDefEqProofs [-getElem?_pos, go_sem, hP, t1, t2, t3, t9, t14, e1, e2, e3, wa, wk]
      exact fin _ hs2 _ (by simp -dsimp -implicitDefEqProofs [-getElem?_pos, go_sem, t1]) (by simp -dsimp -implicitDefEqProofs [-getElem?_pos, go_sem, t2]) (by simp -dsimp -implicitDefEqProofs [-getElem?_pos, go_sem, t3]) (by simp -dsimp -implicitDefEqProofs [-getElem?_pos, go_sem]) (by simp -dsimp -implicitDefEqProofs [-getElem?_pos, go_sem, t12]) (by simp -dsimp -implicitDefEqProofs [-getElem?_pos, go_sem, t13]) (by simp -dsimp -implicitDefEqProofs [-getElem?_pos, go_sem])
    | false =>
      rw [hpq, if_neg (by decide), Int.add_zero] at hs2
      simp only [partQ, decide_eq_false_iff_not] at hpq
      by_cases e1 : a.Security = id
      · by_cases e2 : a.Day = day
        · have e3 : ¬ a.Principal = p := fun e => hpq ⟨e1, e2, e⟩
          simp -dsimp -implicitDefEqProofs [-getElem?_pos, go_sem, hP, t1, t2, t3, t9, t14, e1, e2, e3, wk]
          exact fin _ hs2 _ (by simp -dsimp -implicitDefEqProofs [-getElem?_pos, go_sem, t1]) (by simp -dsimp -implicitDefEqProofs [-getElem?_pos, go_sem, t2]) (by simp -dsimp -implicitDefEqProofs [-getElem?_pos, go_sem, t3]) (by simp -dsimp -implicitDefEqProofs [-getElem?_pos, go_sem, t9]) (by simp -dsimp -implicitDefEqProofs [-getElem?_pos, go_sem, t12]) (by simp -dsimp -implicitDefEqProofs [-getElem?_pos, go_sem, t13]) (by simp -dsimp -implicitDefEqProofs [-getElem?_pos, go_sem])
        · simp -dsimp -implicitDefEqProofs [-getElem?_pos, go_sem, hP, t1, t2, t3, t9, t14, e1, e2, wk]
          exact fin _ hs2 _ (by simp -dsimp -implicitDefEqProofs [-getElem?_pos, go_sem, t1]) (by simp -dsimp -implicitDefEqProofs [-getElem?_pos, go_sem, t2]) (by simp -dsimp -implicitDefEqProofs [-getElem?_pos, go_sem, t3]) (by simp -dsimp -implicitDefEqProofs [-getElem?_pos, go_sem, t9]) (by simp -dsimp -implicitDefEqProofs [-getElem?_pos, go_sem, t12]) (by simp -dsimp -implicitDefEqProofs [-getElem?_pos, go_sem, t13]) (by simp -dsimp -implicitDefEqProofs [-getElem?_pos, go_sem])
      · simp -dsimp -implicitDefEqProofs [-getElem?_pos, go_sem, hP, t1, t2, t3, t9, t14, e1, wk]
        exact fin _ hs2 _ (by simp -dsimp -implicitDefEqProofs [-getElem?_pos, go_sem, t1]) (by simp -dsimp -implicitDefEqProofs [-getElem?_pos, go_sem, t2]) (by simp -dsimp -implicitDefEqProofs [-getElem?_pos, go_sem, t3]) (by simp -dsimp -implicitDefEqProofs [-getElem?_pos, go_sem, t9]) (by simp -dsimp -implicitDefEqProofs [-getElem?_pos, go_sem, t12]) (by simp -dsimp -implicitDefEqProofs [-getElem?_pos, go_sem, t13]) (by simp -dsimp -implicitDefEqProofs [-getElem?_pos, go_sem])
  · have hk : k = l.length := by simp at hq; omega
    subst hk
    rw [List.take_length, ← hv] at hw
    simp -dsimp -implicitDefEqProofs [-getElem?_pos, go_sem, hP, t9]
    rw [hw]
end Go.Proofs.YtkcfmmpcpdlfeaaGreatDoor
