/- Taxes: amounts and days; what the source makes. -/
import Derived.Test.YtabdihohphlheaaGreatDoorTax1
set_option linter.unusedSimpArgs false
set_option linter.unusedVariables false
namespace Go.Proofs.YtabdihohphlheaaGreatDoor
open Go.PA
open Go.RowKit

theorem done_nil {H : Heap} (k : Nat) {Q : AV → Prop} {b : Bx Q} (hq : Q (.list k [])) : Done H .nil Q b := done_weak .nil (imm_list.2 (by simp)) (.nil k) hq
theorem taxB_iff {t : TTax} : taxB t = true ↔ codeB t.Code = true ∧ (1 ≤ t.Payer ∧ t.Payer ≤ 1000000) ∧ (0 ≤ t.Base ∧ t.Base ≤ 1000000000000) ∧ (0 ≤ t.Num ∧ t.Num ≤ t.Den) ∧ (1 ≤ t.Den ∧ t.Den ≤ 1000000) ∧ (0 ≤ t.First ∧ t.First ≤ 36000) ∧ (1 ≤ t.Every ∧ t.Every ≤ 60) ∧ (1 ≤ t.Times ∧ t.Times ≤ 60) := by
  simp [taxB, btw, and_assoc]

theorem tamount_pf (t : TTax) (hl : t.Code.size ≤ 1000000) : PFun Tryz.prog none none 17 [.agg t.cells] (· = iv (amountD t)) := by
  refine pfun_intro Tryz.func17 rfl (by simp [Tryz.f17]) (by kernel_rfl) ?_
  intro E hP hr hs hW hN
  have tx := tax_pf t hl
  have it := imm_tax t
  rw [cTx] at tx it
  simp -dsimp -implicitDefEqProofs [-getElem?_pos, go_sem, hP, cTx]
  refine callB_is (tx.lift _ _) hP en_15 (by simpa using it) .sc ?_
  cases c : taxB t
  · have e : amountD t = 0 := by simp [amountD, c]
    simp -dsimp -implicitDefEqProofs [-getElem?_pos, go_sem, hP, e]
  have e : amountD t = (shareD t.Base t.Num t.Den).1 := by simp [amountD, c]
  simp -dsimp -implicitDefEqProofs [-getElem?_pos, go_sem, hP]
  refine callB_is ((share_pf t.Base t.Num t.Den).lift _ _) hP en_41 (by simp -dsimp -implicitDefEqProofs [-getElem?_pos, go_sem]) (imm_pair .sc .sc) ?_
  simp -dsimp -implicitDefEqProofs [-getElem?_pos, go_sem, hP, e]

theorem daysGo_snoc (t : TTax) (n : Nat) : daysGo t (n + 1) = daysGo t n ++ if (nextD (t.First + 30 * t.Every * n)).2 = 0 then [(nextD (t.First + 30 * t.Every * n)).1] else [] := by
  rw [daysGo, List.range_succ, List.filterMap_append]
  congr 1
  by_cases h : (nextD (t.First + 30 * t.Every * n)).2 = 0 <;> simp [h]
theorem daysGo_len (t : TTax) (n : Nat) : (daysGo t n).length ≤ n := by
  have := List.length_filterMap_le (fun (i : Nat) => if (nextD (t.First + 30 * t.Every * i)).2 = 0 then some (nextD (t.First + 30 * t.Every * i)).1 else none) (List.range n)
  rwa [List.length_range] at this

theorem tdays_pf (t : TTax) (hl : t.Code.size ≤ 1000000) : PFun Tryz.prog none none 20 [.agg t.cells] (· = intsL (daysD t)) := by
  refine pfun_intro Tryz.func20 rfl (by simp [Tryz.f20]) (by kernel_rfl) ?_
  intro E hP hr hs hW hN
  have tx := tax_pf t hl
  have it := imm_tax t
  rw [cTx] at tx it
  simp -dsimp -implicitDefEqProofs [-getElem?_pos, go_sem, hP, cTx]
  refine callB_is (tx.lift _ _) hP en_15 (by simpa using it) .sc ?_
  cases c : taxB t
  · have e : daysD t = [] := by simp [daysD, c]
    simp -dsimp -implicitDefEqProofs [-getElem?_pos, go_sem, hP]
    rw [e]
    exact done_nil 1 rfl
  obtain ⟨_, _, _, _, _, ⟨f1, f2⟩, ⟨v1, v2⟩, ⟨n1, n2⟩⟩ := taxB_iff.1 c
  obtain ⟨n, hn⟩ : ∃ n : Nat, n = t.Times.toNat := ⟨_, rfl⟩
  have hT : t.Times = n := by omega
  have e : daysD t = daysGo t n := by simp [daysD, c, hn]
  rw [e]
  simp -dsimp -implicitDefEqProofs [-getElem?_pos, go_sem, hP, hT]
  refine aloop_own 3 3 1 (by simp -dsimp -implicitDefEqProofs [-getElem?_pos, go_sem]) ?_
  obtain ⟨I, hI⟩ : ∃ I : Nat → St → Prop, I = fun m s => ∃ k id : Nat, k ≤ n ∧ m = n - k ∧ ¬ id = 0 ∧ s.t 1 = .ref 0 0 0 ∧ s.t 11 = iv n ∧ s.t 12 = iv k ∧ s.t 3 = .sref id 0 (daysGo t k).length ∧ s.H[0]? = some (some ⟨30, 8, [[.sc (.string t.Code), iv t.Payer, iv t.Base, iv t.Num, iv t.Den, iv t.First, iv t.Every, iv n]]⟩) ∧ s.H[id]? = some (some ⟨3, 1, (daysGo t k).map fun x => [iv x]⟩) := ⟨_, rfl⟩
  refine aloopF 3 hW I (n) (by rw [hN]; rfl) ?_ ?_
  · rw [hI]
    exact ⟨0, 1, by omega, by omega, by omega, by simp -dsimp -implicitDefEqProofs [-getElem?_pos, go_sem], by simp -dsimp -implicitDefEqProofs [-getElem?_pos, go_sem], by simp -dsimp -implicitDefEqProofs [-getElem?_pos, go_sem], by simp -dsimp -implicitDefEqProofs [-getElem?_pos, go_sem, daysGo], by simp -dsimp -implicitDefEqProofs [-getElem?_pos, go_sem], by simp -dsimp -implicitDefEqProofs [-getElem?_pos, go_sem, daysGo]⟩
  intro m s hs'
  rw [hI] at hs'
  obtain ⟨k, id, hk, hm, hid, t1, t11, t12, t3, h0, hH⟩ := hs'
  have lt0 := (List.getElem?_eq_some_iff.1 h0).1
  have ltH := (List.getElem?_eq_some_iff.1 hH).1
  simp -dsimp -implicitDefEqProofs [-getElem?_pos, go_sem, hP, t11, t12]
  refine condP (fun h => ?_) (fun h => ?_)
  · have hk : k < n := by simpa using h
    have wk := wrap_in ((k : Int) + 1) (by omega)
    have p1 : (0 : Int) ≤ 30 * t.Every * k := Int.mul_nonneg (by omega) (by omega)
    have p2 : 30 * t.Every * k ≤ 1800 * 60 := Int.mul_le_mul (by omega) (by omega) (by omega) (by omega)
    have w1 := wrap_in (30 * t.Every) (by omega)
    have w2 := wrap_in (30 * t.Every * k) (by omega)
    have w3 := wrap_in (t.First + 30 * t.Every * k) (by omega)
    obtain ⟨d, hd⟩ : ∃ d, d = nextD (t.First + 30 * t.Every * k) := ⟨_, rfl⟩
    have np := next_pf (t.First + 30 * t.Every * k) (by omega)
    rw [← hd] at np
    have sn := daysGo_snoc t k
    rw [← hd] at sn
    obtain ⟨es, hes⟩ : ∃ es, es = daysGo t k := ⟨_, rfl⟩
    have el := daysGo_len t k
    rw [← hes] at sn t3 hH el
    simp -dsimp -implicitDefEqProofs [-getElem?_pos, go_sem, hP, t12, t1, h0, lt0, w1, w2, w3]
    refine callB_is (np.lift _ _) hP en_43 (by simp -dsimp -implicitDefEqProofs [-getElem?_pos, go_sem]) (imm_pair .sc .sc) ?_
    by_cases h2 : d.2 = 0
    · rw [if_pos h2] at sn
      simp -dsimp -implicitDefEqProofs [-getElem?_pos, go_sem, hP, h2, t3, hH, ltH, t12, wk]
      refine ⟨by omega, by omega, n - (k + 1), by omega, ?_⟩
      rw [hI]
      refine ⟨k + 1, s.H.length, by omega, rfl, by omega, by simp -dsimp -implicitDefEqProofs [-getElem?_pos, go_sem, t1], by simp -dsimp -implicitDefEqProofs [-getElem?_pos, go_sem, t11], by simp -dsimp -implicitDefEqProofs [-getElem?_pos, go_sem], by simp -dsimp -implicitDefEqProofs [-getElem?_pos, go_sem, sn], by simp -dsimp -implicitDefEqProofs [-getElem?_pos, go_sem, lt0, h0, hid], ?_⟩
      simp -dsimp -implicitDefEqProofs [-getElem?_pos, go_sem, sn]
    · rw [if_neg h2, List.append_nil] at sn
      have d2 := decide_eq_false h2
      simp -dsimp -implicitDefEqProofs [-getElem?_pos, go_sem, hP, d2, t12, wk]
      refine ⟨n - (k + 1), by omega, ?_⟩
      rw [hI]
      exact ⟨k + 1, id, by omega, rfl, hid, by simp -dsimp -implicitDefEqProofs [-getElem?_pos, go_sem, t1], by simp -dsimp -implicitDefEqProofs [-getElem?_pos, go_sem, t11], by simp -dsimp -implicitDefEqProofs [-getElem?_pos, go_sem], by simp -dsimp -implicitDefEqProofs [-getElem?_pos, go_sem, t3, sn], by simp -dsimp -implicitDefEqProofs [-getElem?_pos, go_sem, h0], by simp -dsimp -implicitDefEqProofs [-getElem?_pos, go_sem, hH, sn]⟩
  · have hk : k = n := by simp at h; omega
    subst hk
    simp -dsimp -implicitDefEqProofs [-getElem?_pos, go_sem, hP]
    refine frz id (daysGo t k).length 3 1 ((daysGo t k).map fun x => [iv x]) (by simp -dsimp -implicitDefEqProofs [-getElem?_pos, go_sem, t3]) (by simp -dsimp -implicitDefEqProofs [-getElem?_pos, go_sem, hH]) (by simp) (by simp [go_sem]) ?_
    simp -dsimp -implicitDefEqProofs [-getElem?_pos, go_sem, hP]
    exact done_imm (by simp [intsL, go_sem]) rfl
end Go.Proofs.YtabdihohphlheaaGreatDoor
