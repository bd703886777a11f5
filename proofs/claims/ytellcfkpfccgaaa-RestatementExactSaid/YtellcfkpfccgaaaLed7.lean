/- Ledgers: the reference's lists and statements. -/
import Derived.Test.YtellcfkpfccgaaaLed6
set_option linter.unusedSimpArgs false
set_option linter.unusedVariables false
namespace Go.Proofs.Ytellcfkpfccgaaa
open Go.PA
open Go.RowKit

theorem listG_congr {g g' : Int → Int} {k : Nat} : ∀ {n : Nat}, (∀ i : Nat, i < n → g ((k + i : Nat) : Int) = g' ((k + i : Nat) : Int)) → listG g k n = listG g' k n
  | 0, _ => rfl
  | n + 1, h => by
    have ih := listG_congr (g := g) (g' := g') (k := k) (n := n) fun i hi => h i (by omega)
    simp only [listG, ih, h n (by omega)]
theorem listG_shift {g : Int → Int} (h : ∀ a : Int, 0 ≤ a → a < 100 → g a = 0) : ∀ n : Nat, listG g 0 (100 + n) = listG g 100 n
  | 0 => by
    have : ∀ m : Nat, m ≤ 100 → listG g 0 m = [] := fun m => by
      induction m with
      | zero => exact fun _ => rfl
      | succ m ih =>
        intro hm
        rw [listG, ih (by omega), if_pos (h _ (by omega) (by omega))]
        rfl
    exact this 100 (Nat.le_refl _)
  | n + 1 => by
    have e : 0 + (100 + n) = 100 + n := by omega
    rw [show 100 + (n + 1) = (100 + n) + 1 from rfl, listG, listG_shift h n, listG, e]
def gX (xs : List Int) (a : Int) : Int := (xs[(a - 100).toNat]?).getD 0
theorem gX_get {xs : List Int} {k : Nat} {x : Int} (h : xs[k]? = some x) : gX xs ((100 + k : Nat) : Int) = x := by
  have : (((100 + k : Nat) : Int) - 100).toNat = k := by omega
  rw [gX, this, h]
  rfl
theorem rlisted_pf (xs : List Int) (h5 : xs.length = 500) : PFun Try.prog none none 104 [.agg (arI xs)] (· = balsL (listG (gX xs) 100 500)) := by
  refine pfun_intro Try.func104 rfl (by simp [Try.f104]) (by kernel_rfl) ?_
  intro E hP hr hs hW hN
  have cc : (AV.agg (arI xs)).cells? = some (arI xs) := by rw [clls_agg, if_pos (arI_all xs)]
  obtain ⟨R, hR⟩ : ∃ R, R = listG (gX xs) 100 500 := ⟨_, rfl⟩
  rw [← hR]
  simp -dsimp -implicitDefEqProofs [-getElem?_pos, go_sem, hP, cc, h5, arI_take h5.symm]
  refine aloop_own 3 33 2 (by simp -dsimp -implicitDefEqProofs [-getElem?_pos, go_sem]) ?_
  obtain ⟨I, hI⟩ : ∃ I : Nat → St → Prop, I = fun m s => ∃ k id : Nat, k ≤ 500 ∧ m = 500 - k ∧ s.t 6 = .agg (arI xs) ∧ s.t 7 = iv k ∧ s.t 3 = .sref id 0 (listG (gX xs) 100 k).length ∧ s.H[id]? = some (some ⟨33, 2, encL TBalance.cells (listG (gX xs) 100 k)⟩) := ⟨_, rfl⟩
  refine aloopF 3 hW I (500) (by rw [hN]; rfl) ?_ ?_
  · rw [hI]
    exact ⟨0, 1, by omega, by omega, by simp -dsimp -implicitDefEqProofs [-getElem?_pos, go_sem, arI_take h5.symm], by simp -dsimp -implicitDefEqProofs [-getElem?_pos, go_sem], by simp -dsimp -implicitDefEqProofs [-getElem?_pos, go_sem, listG], by simp -dsimp -implicitDefEqProofs [-getElem?_pos, go_sem, listG]⟩
  intro m s hs'
  rw [hI] at hs'
  obtain ⟨k, id, hk, hm, t6, t7, t3, hH⟩ := hs'
  have hlt := (List.getElem?_eq_some_iff.1 hH).1
  have hll := listG_len (gX xs) 100 k
  simp -dsimp -implicitDefEqProofs [-getElem?_pos, go_sem, hP, t7]
  refine condP (fun h => ?_) (fun h => ?_)
  · have hk : k < 500 := by simp at h; omega
    have wk := wrap_in ((k : Int) + 1) (by omega)
    have wh := wrap_in ((k : Int) + 100) (by omega)
    obtain ⟨x, hx⟩ : ∃ x, xs[k]? = some x := ⟨_, List.getElem?_eq_getElem (by omega)⟩
    have nx : listG (gX xs) 100 (k + 1) = listG (gX xs) 100 k ++ (if x = 0 then [] else [⟨((100 + k : Nat) : Int), x⟩]) := by rw [listG, gX_get hx]
    have klt : (k : Int) < 500 := by omega
    by_cases hz : x = 0
    · rw [if_pos hz, List.append_nil] at nx
      simp -dsimp -implicitDefEqProofs [-getElem?_pos, go_sem, hP, t6, t7, klt, hx, hz, wk]
      refine ⟨500 - (k + 1), by omega, ?_⟩
      rw [hI]
      exact ⟨k + 1, id, by omega, rfl, by simp -dsimp -implicitDefEqProofs [-getElem?_pos, go_sem, t6], by simp -dsimp -implicitDefEqProofs [-getElem?_pos, go_sem], by rw [nx]; simp -dsimp -implicitDefEqProofs [-getElem?_pos, go_sem, t3], by rw [nx]; simp -dsimp -implicitDefEqProofs [-getElem?_pos, go_sem, hH]⟩
    · rw [if_neg hz] at nx
      have d : decide (x = 0) = false := decide_eq_false hz
      have he : ((100 + k : Nat) : Int) = (k : Int) + 100 := by omega
      rw [he] at nx
      simp -dsimp -implicitDefEqProofs [-getElem?_pos, go_sem, hP, t6, t7, klt, hx, d, wk, wh, t3, hH]
      refine ⟨by omega, by omega, ?_⟩
      refine ⟨500 - (k + 1), by omega, ?_⟩
      rw [hI]
      exact ⟨k + 1, s.H.length, by omega, rfl, by simp -dsimp -implicitDefEqProofs [-getElem?_pos, go_sem, t6], by simp -dsimp -implicitDefEqProofs [-getElem?_pos, go_sem], by rw [nx]; simp -dsimp -implicitDefEqProofs [-getElem?_pos, go_sem], by rw [nx, ← encL_snoc]; simp -dsimp -implicitDefEqProofs [-getElem?_pos, go_sem, cB]⟩
  · have hk : k = 500 := by simp at h; omega
    subst hk
    rw [← hR] at t3 hH
    refine frz id _ 33 2 (encL TBalance.cells R) t3 hH (by rw [encL_len]) (imm_bals _) ?_
    simp -dsimp -implicitDefEqProofs [-getElem?_pos, go_sem, hP]
    exact done_imm (imm_bals _) rfl

theorem listG_sums (f : TPosting → Bool) (l : List TPosting) (h : ∀ p, p ∈ l → Fine p) : listG (gX (sumsX f l)) 100 500 = listG (bal f l) 0 600 := by
  rw [show (600 : Nat) = 100 + 500 from rfl, listG_shift (fun a h1 h2 => bal_out f l h a (.inl h2)) 500]
  refine listG_congr fun i hi => ?_
  rw [gX_get (sumsX_get f l i hi)]
  congr 1

theorem rbalances_pf (l : TLedger) (e day : Int) (hl : l.Postings.length ≤ 100000) : PFun Try.prog none none 67 [.agg l.cells, iv e, iv day] (· = balsL (balancesL l.Postings e day)) := by
  refine pfun_intro Try.func67 rfl (by simp [Try.f67]) (by kernel_rfl) ?_
  intro E hP hr hs hW hN
  have ck := rcheck_pf l hl
  obtain ⟨l⟩ := l
  simp only at hl ck
  rw [cL] at ck
  have ip := imm_posts l
  simp -dsimp -implicitDefEqProofs [-getElem?_pos, go_sem, hP, cL]
  refine callB_is (ck.lift _ _) hP en_60 (by simp [ip, imm_agg]) .sc ?_
  by_cases c1 : checkL l = 0
  rotate_left
  · have : balancesL l e day = [] := if_neg c1
    simp -dsimp -implicitDefEqProofs [-getElem?_pos, go_sem, hP, c1, this]
    exact done_weak (x := balsL []) (by simp -dsimp -implicitDefEqProofs [-getElem?_pos, go_sem]) (imm_bals _) (show Weak .nil (.list 2 []) from .nil 2) (by simp only [this])
  have fl := checkL_fine c1
  have : balancesL l e day = listG (bal (ofB e 0 day) l) 0 600 := if_pos c1
  simp -dsimp -implicitDefEqProofs [-getElem?_pos, go_sem, hP, c1, this]
  refine callB_is ((rsums_pf l e 0 day fl).lift _ _) hP en_103 (by simp [ip, imm_sc]) (imm_agg.2 (arI_imm _)) ?_
  simp -dsimp -implicitDefEqProofs [-getElem?_pos, go_sem, hP]
  refine callB_is ((rlisted_pf _ (sumsX_len _ _)).lift _ _) hP en_104 (by simp only [List.mem_cons, List.not_mem_nil, or_false]; rintro a rfl; exact imm_agg.2 (arI_imm _)) (imm_bals _) ?_
  rw [listG_sums _ _ fl.1]
  obtain ⟨L, hL⟩ : ∃ L, L = listG (bal (ofB e 0 day) l) 0 600 := ⟨_, rfl⟩
  rw [← hL] at this ⊢
  simp -dsimp -implicitDefEqProofs [-getElem?_pos, go_sem, hP]
  exact done_imm (imm_bals _) (by simp only [this])

theorem ofL_class {l : List TPosting} {e a day : Int} (h : checkL l = 0) (ha : classI a = 0) : ofL l e a day = 0 := by
  rw [ofL, if_pos h]
  refine bal_out _ l (checkL_fine h).1 a ?_
  unfold classI at ha
  split at ha <;> omega
theorem rof_pf (l : TLedger) (e a day : Int) (hl : l.Postings.length ≤ 100000) : PFun Try.prog none none 66 [.agg l.cells, iv e, iv a, iv day] (· = iv (ofL l.Postings e a day)) := by
  refine pfun_intro Try.func66 rfl (by simp [Try.f66]) (by kernel_rfl) ?_
  intro E hP hr hs hW hN
  have ck := rcheck_pf l hl
  obtain ⟨l⟩ := l
  simp only at hl ck
  rw [cL] at ck
  have ip := imm_posts l
  simp -dsimp -implicitDefEqProofs [-getElem?_pos, go_sem, hP, cL]
  refine callB_is (ck.lift _ _) hP en_60 (by simp [ip, imm_agg]) .sc ?_
  by_cases c1 : checkL l = 0
  rotate_left
  · have : ofL l e a day = 0 := if_neg c1
    simp -dsimp -implicitDefEqProofs [-getElem?_pos, go_sem, hP, c1, this]
  have fl := checkL_fine c1
  simp -dsimp -implicitDefEqProofs [-getElem?_pos, go_sem, hP, c1]
  refine callB_pure (rclass_pf a) hP en_25 (args_same (by simp -dsimp -implicitDefEqProofs [-getElem?_pos, go_sem])) .sc ?_
  by_cases c2 : classI a = 0
  · have := ofL_class (e := e) (day := day) c1 c2
    simp -dsimp -implicitDefEqProofs [-getElem?_pos, go_sem, hP, c2, this]
  have d2 : decide (classI a = 0) = false := decide_eq_false c2
  have ha : 100 ≤ a ∧ a ≤ 599 := (classI_pos a).1 (by have := classI_nat' a; omega)
  obtain ⟨d, hd, hd5⟩ : ∃ d : Nat, a = 100 + (d : Int) ∧ d < 500 := ⟨(a - 100).toNat, by omega, by omega⟩
  have hof : ofL l e a day = bal (ofB e 0 day) l (100 + (d : Int)) := by rw [ofL, if_pos c1, hd]
  have wa : IntKind.i64.wrap (a - 100) = (d : Int) := by rw [wrap_in _ (by omega)]; omega
  have dlt : (d : Int) < 500 := by omega
  have hx := sumsX_get (ofB e 0 day) l d hd5
  simp -dsimp -implicitDefEqProofs [-getElem?_pos, go_sem, hP, d2]
  refine callB_is ((rsums_pf l e 0 day fl).lift _ _) hP en_103 (by simp [ip, imm_sc]) (imm_agg.2 (arI_imm _)) ?_
  simp -dsimp -implicitDefEqProofs [-getElem?_pos, go_sem, hP, wa, dlt, hd5, hx, hof]

end Go.Proofs.Ytellcfkpfccgaaa
