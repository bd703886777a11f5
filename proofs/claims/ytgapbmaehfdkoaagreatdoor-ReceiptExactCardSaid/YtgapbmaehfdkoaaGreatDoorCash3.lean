/- Receipts: where claims and incomes are; the program's check of the matches. -/
import Derived.Test.YtgapbmaehfdkoaaGreatDoorCash2
import Derived.Test.YtgapbmaehfdkoaaGreatDoorPaIns
set_option linter.unusedSimpArgs false
set_option linter.unusedVariables false
namespace Go.Proofs.YtgapbmaehfdkoaaGreatDoor
open Go.PA
open Go.RowKit

def idxO : Option Nat → Int
  | none => -1
  | some k => k
theorem idxI_find {α : Type} (p : α → Bool) (l : List α) : idxI p l = idxO (l.findIdx? p) := by
  rcases idxI_spec p l with ⟨h1, h2⟩ | ⟨i, a, h1, h2, h3, h4⟩
  · rw [h1, List.findIdx?_eq_none_iff.2 h2]
    rfl
  · obtain ⟨h5, h6⟩ := List.getElem?_eq_some_iff.1 h1
    rw [h3, List.findIdx?_eq_some_iff_getElem.2 ⟨h5, by rw [h6]; exact h2, fun j hj => by
      have := h4 j _ hj (List.getElem?_eq_getElem (by omega))
      simp [this]⟩]
    rfl
theorem index_pf_clm (l : List TClaim) (g : FuncId) (caps : List AV) (p : TClaim → Bool) (hl : l.length ≤ 1000000) (hen : enterable Tryz.prog g = true) (hcap : ∀ a, a ∈ caps → Imm a)
    (hg : ∀ a, a ∈ l → PFun Tryz.prog none none g (.agg (TClaim.cells a) :: caps) (· = bv (p a))) :
    PFun Tryz.prog none none 71 [.list 6 (encL TClaim.cells l), .fn g caps] (· = iv (idxI p l)) := by
  refine pfun_intro Tryz.func71 rfl (by simp [Tryz.f71]) (by kernel_rfl) ?_
  intro E hP hr hs hW hN
  simp -dsimp -implicitDefEqProofs [-getElem?_pos, go_sem, hP]
  obtain ⟨I, hI⟩ : ∃ I : Nat → St → Prop, I = fun m s => ∃ k : Nat, k ≤ l.length ∧ m = l.length - k ∧ idxI p l = idxFrom p k (l.drop k) ∧ s.t 0 = .list 6 (encL TClaim.cells l) ∧ s.t 1 = .fn g caps ∧ s.t 7 = iv l.length ∧ s.t 8 = iv k := ⟨_, rfl⟩
  refine aloop0 I (l.length) (by rw [hN]; rfl) ?_ ?_
  · rw [hI]
    exact ⟨0, by omega, by omega, by simp [idxI], by simp -dsimp -implicitDefEqProofs [-getElem?_pos, go_sem], by simp -dsimp -implicitDefEqProofs [-getElem?_pos, go_sem], by simp -dsimp -implicitDefEqProofs [-getElem?_pos, go_sem], by simp -dsimp -implicitDefEqProofs [-getElem?_pos, go_sem]⟩
  intro m s hs'
  rw [hI] at hs'
  obtain ⟨k, hk, hm, hi, t0, t1, t7, t8⟩ := hs'
  simp -dsimp -implicitDefEqProofs [-getElem?_pos, go_sem, hP, t7, t8]
  refine condP (fun h => ?_) (fun h => ?_)
  · have hk : k < l.length := by simpa using h
    obtain ⟨a, ha⟩ : ∃ a, l[k]? = some a := ⟨_, List.getElem?_eq_getElem hk⟩
    have wk := wrap_in ((k : Int) + 1) (by omega)
    have hz : (TClaim.cells a).take 6 = TClaim.cells a := List.take_of_length_le (by rw [TClaim.len]; omega)
    have hd : l.drop k = a :: l.drop (k + 1) := by
      rw [List.getElem?_eq_getElem hk] at ha
      rw [List.drop_eq_getElem_cons hk, Option.some.inj ha]
    simp -dsimp -implicitDefEqProofs [-getElem?_pos, go_sem, hP, t8, t1, t0, ha, TClaim.len, hz]
    refine callB_is ((hg a (List.mem_of_getElem? ha)).lift _ _) hP hen (fun x hx => ?_) .sc ?_
    · rcases List.mem_cons.1 hx with rfl | hx
      · exact imm_agg.2 (TClaim.imm a)
      · exact hcap x hx
    rw [hd] at hi
    simp only [idxFrom] at hi
    simp -dsimp -implicitDefEqProofs [-getElem?_pos, go_sem, hP]
    refine condP (fun hp => ?_) (fun hp => ?_)
    · rw [if_pos hp] at hi
      simp -dsimp -implicitDefEqProofs [-getElem?_pos, go_sem, hP]
      exact hi.symm
    · rw [hp, if_neg (by simp)] at hi
      simp -dsimp -implicitDefEqProofs [-getElem?_pos, go_sem, hP, t8, wk]
      refine ⟨l.length - (k + 1), by omega, ?_⟩
      rw [hI]
      exact ⟨k + 1, by omega, rfl, hi, by simp -dsimp -implicitDefEqProofs [-getElem?_pos, go_sem, t0], by simp -dsimp -implicitDefEqProofs [-getElem?_pos, go_sem, t1], by simp -dsimp -implicitDefEqProofs [-getElem?_pos, go_sem, t7], by simp -dsimp -implicitDefEqProofs [-getElem?_pos, go_sem]⟩
  · have hk : k = l.length := by simp at h; omega
    subst hk
    rw [List.drop_length] at hi
    simp -dsimp -implicitDefEqProofs [-getElem?_pos, go_sem, hP]
    exact hi.symm

theorem index_pf_inc (l : List TIncome) (g : FuncId) (caps : List AV) (p : TIncome → Bool) (hl : l.length ≤ 1000000) (hen : enterable Tryz.prog g = true) (hcap : ∀ a, a ∈ caps → Imm a)
    (hg : ∀ a, a ∈ l → PFun Tryz.prog none none g (.agg (TIncome.cells a) :: caps) (· = bv (p a))) :
    PFun Tryz.prog none none 77 [.list 5 (encL TIncome.cells l), .fn g caps] (· = iv (idxI p l)) := by
  refine pfun_intro Tryz.func77 rfl (by simp [Tryz.f77]) (by kernel_rfl) ?_
  intro E hP hr hs hW hN
  simp -dsimp -implicitDefEqProofs [-getElem?_pos, go_sem, hP]
  obtain ⟨I, hI⟩ : ∃ I : Nat → St → Prop, I = fun m s => ∃ k : Nat, k ≤ l.length ∧ m = l.length - k ∧ idxI p l = idxFrom p k (l.drop k) ∧ s.t 0 = .list 5 (encL TIncome.cells l) ∧ s.t 1 = .fn g caps ∧ s.t 7 = iv l.length ∧ s.t 8 = iv k := ⟨_, rfl⟩
  refine aloop0 I (l.length) (by rw [hN]; rfl) ?_ ?_
  · rw [hI]
    exact ⟨0, by omega, by omega, by simp [idxI], by simp -dsimp -implicitDefEqProofs [-getElem?_pos, go_sem], by simp -dsimp -implicitDefEqProofs [-getElem?_pos, go_sem], by simp -dsimp -implicitDefEqProofs [-getElem?_pos, go_sem], by simp -dsimp -implicitDefEqProofs [-getElem?_pos, go_sem]⟩
  intro m s hs'
  rw [hI] at hs'
  obtain ⟨k, hk, hm, hi, t0, t1, t7, t8⟩ := hs'
  simp -dsimp -implicitDefEqProofs [-getElem?_pos, go_sem, hP, t7, t8]
  refine condP (fun h => ?_) (fun h => ?_)
  · have hk : k < l.length := by simpa using h
    obtain ⟨a, ha⟩ : ∃ a, l[k]? = some a := ⟨_, List.getElem?_eq_getElem hk⟩
    have wk := wrap_in ((k : Int) + 1) (by omega)
    have hz : (TIncome.cells a).take 5 = TIncome.cells a := List.take_of_length_le (by rw [TIncome.len]; omega)
    have hd : l.drop k = a :: l.drop (k + 1) := by
      rw [List.getElem?_eq_getElem hk] at ha
      rw [List.drop_eq_getElem_cons hk, Option.some.inj ha]
    simp -dsimp -implicitDefEqProofs [-getElem?_pos, go_sem, hP, t8, t1, t0, ha, TIncome.len, hz]
    refine callB_is ((hg a (List.mem_of_getElem? ha)).lift _ _) hP hen (fun x hx => ?_) .sc ?_
    · rcases List.mem_cons.1 hx with rfl | hx
      · exact imm_agg.2 (TIncome.imm a)
      · exact hcap x hx
    rw [hd] at hi
    simp only [idxFrom] at hi
    simp -dsimp -implicitDefEqProofs [-getElem?_pos, go_sem, hP]
    refine condP (fun hp => ?_) (fun hp => ?_)
    · rw [if_pos hp] at hi
      simp -dsimp -implicitDefEqProofs [-getElem?_pos, go_sem, hP]
      exact hi.symm
    · rw [hp, if_neg (by simp)] at hi
      simp -dsimp -implicitDefEqProofs [-getElem?_pos, go_sem, hP, t8, wk]
      refine ⟨l.length - (k + 1), by omega, ?_⟩
      rw [hI]
      exact ⟨k + 1, by omega, rfl, hi, by simp -dsimp -implicitDefEqProofs [-getElem?_pos, go_sem, t0], by simp -dsimp -implicitDefEqProofs [-getElem?_pos, go_sem, t1], by simp -dsimp -implicitDefEqProofs [-getElem?_pos, go_sem, t7], by simp -dsimp -implicitDefEqProofs [-getElem?_pos, go_sem]⟩
  · have hk : k = l.length := by simp at h; omega
    subst hk
    rw [List.drop_length] at hi
    simp -dsimp -implicitDefEqProofs [-getElem?_pos, go_sem, hP]
    exact hi.symm

theorem claimAt1_pf (x : TClaim) (id : Int) : PFun Tryz.prog none none 72 [.agg x.cells, .iref [iv id]] (· = bv (decide (x.ID = id))) := by
  refine pfun_intro Tryz.func72 rfl (by simp [Tryz.f72]) (by kernel_rfl) ?_
  intro E hP hr hs hW hN
  simp -dsimp -implicitDefEqProofs [-getElem?_pos, go_sem, hP, cClm]
theorem incomeAt1_pf (x : TIncome) (n : Int) : PFun Tryz.prog none none 78 [.agg x.cells, .iref [iv n]] (· = bv (decide (x.Number = n))) := by
  refine pfun_intro Tryz.func78 rfl (by simp [Tryz.f78]) (by kernel_rfl) ?_
  intro E hP hr hs hW hN
  simp -dsimp -implicitDefEqProofs [-getElem?_pos, go_sem, hP, cIncm]
/-- Cash that fits. -/
structure FitC (c : TCash) : Prop where
  fc : c.Claims.length ≤ 100000
  fi : c.Incomes.length ≤ 100000
  fm : c.Matches.length ≤ 100000
  fl : c.Loose.length ≤ 100000
  code : ∀ x, x ∈ c.Claims → x.Code.size ≤ 1000000
theorem claimAt_pf (c : TCash) (id : Int) (hf : FitC c) : PFun Tryz.prog none none 41 [.agg c.cells, iv id] (· = iv (idxO (payAt c.Claims id))) := by
  refine pfun_intro Tryz.func41 rfl (by simp [Tryz.f41]) (by kernel_rfl) ?_
  intro E hP hr hs hW hN
  have ip := imm_claims c.Claims
  have hl := hf.fc
  have e : idxO (payAt c.Claims id) = idxI (fun x => decide (x.ID = id)) c.Claims := (idxI_find _ _).symm
  rw [e]
  simp -dsimp -implicitDefEqProofs [-getElem?_pos, go_sem, hP, cCsh]
  refine callB_pure (index_pf_clm c.Claims 72 [.iref [iv id]] (fun x => decide (x.ID = id)) (by omega) en_72 (by simp [imm_iref, imm_sc]) fun x _ => claimAt1_pf x id) hP en_71 (args_imm ip (args_fnc (cs := [.ref 1 0 0]) (by simp -dsimp -implicitDefEqProofs [-getElem?_pos, go_sem, viewR_ref]) (by simp [imm_iref, imm_sc]) (args_nil.2 trivial))) .sc ?_
  simp -dsimp -implicitDefEqProofs [-getElem?_pos, go_sem, hP]
theorem incomeAt_pf (c : TCash) (n : Int) (hf : FitC c) : PFun Tryz.prog none none 49 [.agg c.cells, iv n] (· = iv (idxO (incAt c.Incomes n))) := by
  refine pfun_intro Tryz.func49 rfl (by simp [Tryz.f49]) (by kernel_rfl) ?_
  intro E hP hr hs hW hN
  have ip := imm_incomes c.Incomes
  have hl := hf.fi
  have e : idxO (incAt c.Incomes n) = idxI (fun x => decide (x.Number = n)) c.Incomes := (idxI_find _ _).symm
  rw [e]
  simp -dsimp -implicitDefEqProofs [-getElem?_pos, go_sem, hP, cCsh]
  refine callB_pure (index_pf_inc c.Incomes 78 [.iref [iv n]] (fun x => decide (x.Number = n)) (by omega) en_78 (by simp [imm_iref, imm_sc]) fun x _ => incomeAt1_pf x n) hP en_77 (args_imm ip (args_fnc (cs := [.ref 1 0 0]) (by simp -dsimp -implicitDefEqProofs [-getElem?_pos, go_sem, viewR_ref]) (by simp [imm_iref, imm_sc]) (args_nil.2 trivial))) .sc ?_
  simp -dsimp -implicitDefEqProofs [-getElem?_pos, go_sem, hP]
theorem crclaimAt_pf (c : TCash) (id : Int) (hf : FitC c) : PFun Tryz.prog none none 57 [.agg c.cells, iv id] (· = iv (idxO (payAt c.Claims id))) := by
  refine pfun_intro Tryz.func57 rfl (by simp [Tryz.f57]) (by kernel_rfl) ?_
  intro E hP hr hs hW hN
  have e : idxO (payAt c.Claims id) = idxI (fun x => decide (x.ID = id)) c.Claims := (idxI_find _ _).symm
  rw [e]
  have hl := hf.fc
  obtain ⟨l, hld⟩ : ∃ l, l = c.Claims := ⟨_, rfl⟩
  rw [← hld] at hl
  simp -dsimp -implicitDefEqProofs [-getElem?_pos, go_sem, hP, cCsh, ← hld]
  obtain ⟨I, hI⟩ : ∃ I : Nat → St → Prop, I = fun m s => ∃ k : Nat, k ≤ l.length ∧ m = l.length - k ∧ idxI (fun x => decide (x.ID = id)) l = idxFrom (fun x => decide (x.ID = id)) k (l.drop k) ∧ s.t 1 = iv id ∧ s.t 8 = claimsL l ∧ s.t 9 = iv l.length ∧ s.t 10 = iv k := ⟨_, rfl⟩
  refine aloop0 I (l.length) (by rw [hN]; rfl) ?_ ?_
  · rw [hI]
    exact ⟨0, by omega, by omega, by simp [idxI], by simp -dsimp -implicitDefEqProofs [-getElem?_pos, go_sem], by simp -dsimp -implicitDefEqProofs [-getElem?_pos, go_sem], by simp -dsimp -implicitDefEqProofs [-getElem?_pos, go_sem], by simp -dsimp -implicitDefEqProofs [-getElem?_pos, go_sem]⟩
  intro m s hs'
  rw [hI] at hs'
  obtain ⟨k, hk, hm, hi, t1, t8, t9, t10⟩ := hs'
  simp -dsimp -implicitDefEqProofs [-getElem?_pos, go_sem, hP, t9, t10]
  refine condP (fun h => ?_) (fun h => ?_)
  · have hk : k < l.length := by simpa using h
    obtain ⟨a, ha⟩ : ∃ a, l[k]? = some a := ⟨_, List.getElem?_eq_getElem hk⟩
    have wk := wrap_in ((k : Int) + 1) (by omega)
    rw [drop_atL ha] at hi
    simp only [idxFrom] at hi
    by_cases hp : a.ID = id
    · rw [if_pos (by simpa using hp)] at hi
      simp -dsimp -implicitDefEqProofs [-getElem?_pos, go_sem, hP, t1, t8, t10, ha, cClm, hp]
      rw [← hld]
      exact hi.symm
    · rw [if_neg (by simpa using hp)] at hi
      simp -dsimp -implicitDefEqProofs [-getElem?_pos, go_sem, hP, t1, t8, t10, ha, cClm, hp, wk]
      refine ⟨l.length - (k + 1), by omega, ?_⟩
      rw [hI]
      exact ⟨k + 1, by omega, rfl, hi, by simp -dsimp -implicitDefEqProofs [-getElem?_pos, go_sem, t1], by simp -dsimp -implicitDefEqProofs [-getElem?_pos, go_sem, t8], by simp -dsimp -implicitDefEqProofs [-getElem?_pos, go_sem, t9], by simp -dsimp -implicitDefEqProofs [-getElem?_pos, go_sem]⟩
  · have hk : k = l.length := by simp at h; omega
    subst hk
    rw [List.drop_length] at hi
    simp -dsimp -implicitDefEqProofs [-getElem?_pos, go_sem, hP]
    rw [← hld]
    exact hi.symm
theorem crincomeAt_pf (c : TCash) (n : Int) (hf : FitC c) : PFun Tryz.prog none none 56 [.agg c.cells, iv n] (· = iv (idxO (incAt c.Incomes n))) := by
  refine pfun_intro Tryz.func56 rfl (by simp [Tryz.f56]) (by kernel_rfl) ?_
  intro E hP hr hs hW hN
  have e : idxO (incAt c.Incomes n) = idxI (fun x => decide (x.Number = n)) c.Incomes := (idxI_find _ _).symm
  rw [e]
  have hl := hf.fi
  obtain ⟨l, hld⟩ : ∃ l, l = c.Incomes := ⟨_, rfl⟩
  rw [← hld] at hl
  simp -dsimp -implicitDefEqProofs [-getElem?_pos, go_sem, hP, cCsh, ← hld]
  obtain ⟨I, hI⟩ : ∃ I : Nat → St → Prop, I = fun m s => ∃ k : Nat, k ≤ l.length ∧ m = l.length - k ∧ idxI (fun x => decide (x.Number = n)) l = idxFrom (fun x => decide (x.Number = n)) k (l.drop k) ∧ s.t 1 = iv n ∧ s.t 8 = incomesL l ∧ s.t 9 = iv l.length ∧ s.t 10 = iv k := ⟨_, rfl⟩
  refine aloop0 I (l.length) (by rw [hN]; rfl) ?_ ?_
  · rw [hI]
    exact ⟨0, by omega, by omega, by simp [idxI], by simp -dsimp -implicitDefEqProofs [-getElem?_pos, go_sem], by simp -dsimp -implicitDefEqProofs [-getElem?_pos, go_sem], by simp -dsimp -implicitDefEqProofs [-getElem?_pos, go_sem], by simp -dsimp -implicitDefEqProofs [-getElem?_pos, go_sem]⟩
  intro m s hs'
  rw [hI] at hs'
  obtain ⟨k, hk, hm, hi, t1, t8, t9, t10⟩ := hs'
  simp -dsimp -implicitDefEqProofs [-getElem?_pos, go_sem, hP, t9, t10]
  refine condP (fun h => ?_) (fun h => ?_)
  · have hk : k < l.length := by simpa using h
    obtain ⟨a, ha⟩ : ∃ a, l[k]? = some a := ⟨_, List.getElem?_eq_getElem hk⟩
    have wk := wrap_in ((k : Int) + 1) (by omega)
    rw [drop_atL ha] at hi
    simp only [idxFrom] at hi
    by_cases hp : a.Number = n
    · rw [if_pos (by simpa using hp)] at hi
      simp -dsimp -implicitDefEqProofs [-getElem?_pos, go_sem, hP, t1, t8, t10, ha, cIncm, hp]
      rw [← hld]
      exact hi.symm
    · rw [if_neg (by simpa using hp)] at hi
      simp -dsimp -implicitDefEqProofs [-getElem?_pos, go_sem, hP, t1, t8, t10, ha, cIncm, hp, wk]
      refine ⟨l.length - (k + 1), by omega, ?_⟩
      rw [hI]
      exact ⟨k + 1, by omega, rfl, hi, by simp -dsimp -implicitDefEqProofs [-getElem?_pos, go_sem, t1], by simp -dsimp -implicitDefEqProofs [-getElem?_pos, go_sem, t8], by simp -dsimp -implicitDefEqProofs [-getElem?_pos, go_sem, t9], by simp -dsimp -implicitDefEqProofs [-getElem?_pos, go_sem]⟩
  · have hk : k = l.length := by simp at h; omega
    subst hk
    rw [List.drop_length] at hi
    simp -dsimp -implicitDefEqProofs [-getElem?_pos, go_sem, hP]
    rw [← hld]
    exact hi.symm

theorem agree_set {D : Nat → Bool} {H : Heap} {i : Nat} {o : Option AObj} (h : D i = false) : Agree D H (H.set i o) := fun j hj => List.getElem?_set_ne (fun e => by subst e; rw [h] at hj; cases hj)
theorem agree_setA {D : Nat → Bool} {H l : Heap} {i : Nat} {o : Option AObj} (h : D i = false) : Agree D (H ++ l) (H.set i o ++ l) := fun j hj => by
  have e : ¬ i = j := fun e => by subst e; rw [h] at hj; cases hj
  rw [List.getElem?_append, List.getElem?_append, List.length_set, List.getElem?_set_ne e]
abbrev rowsI (xs : List Int) : List (List AV) := encL encI xs
theorem rowsI_set (xs : List Int) (k : Nat) (v : Int) : (rowsI xs).set k [iv v] = rowsI (xs.set k v) := by simp [rowsI, encL, encI]
theorem rowsI_get {xs : List Int} {k : Nat} {v : Int} (h : xs[k]? = some v) : (rowsI xs)[k]? = some [iv v] := by simp [rowsI, encL, encI, h]
theorem rowsI_len (xs : List Int) : (rowsI xs).length = xs.length := by simp [rowsI, encL]
theorem rowsI_zero (n : Nat) : List.replicate n [iv 0] = rowsI (List.replicate n 0) := by simp [rowsI, encL, encI]
theorem map_done {α : Type} {l : List α} {f : α → Int} {xs : List Int} (hl : xs.length = l.length) (h : ∀ (j : Nat) (x : α), j < l.length → l[j]? = some x → xs[j]? = some (f x)) : xs = l.map f := by
  apply List.ext_getElem?
  intro j
  rw [List.getElem?_map]
  by_cases e : j < l.length
  · rw [h j _ e (List.getElem?_eq_getElem e), List.getElem?_eq_getElem e]
    rfl
  · rw [List.getElem?_eq_none (by omega), List.getElem?_eq_none (by omega)]
    rfl
end Go.Proofs.YtgapbmaehfdkoaaGreatDoor
