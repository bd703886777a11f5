/- Receipts: an income meets a claim, in the reference. -/
import Derived.Test.YtgapbmaehfdkoaaGreatDoorCash6
set_option linter.unusedSimpArgs false
set_option linter.unusedVariables false
namespace Go.Proofs.YtgapbmaehfdkoaaGreatDoor
open Go.PA
open Go.RowKit

/-- A slice of the walk's own with this object. -/
def isS (x : AV) (j : Nat) : Prop := ∃ n, x = .sref j 0 n
theorem isS_self (j n : Nat) : isS (.sref j 0 n) j := ⟨n, rfl⟩
theorem isS_iff {i j n : Nat} : isS (.sref i 0 n) j ↔ i = j := ⟨fun ⟨m, h⟩ => by cases h; rfl, fun h => by subst h; exact ⟨n, rfl⟩⟩
/-- What is not the cash's own is there still. -/
def KeptS (p : Nat) (A D F : AV) (H H' : Heap) : Prop := ∀ j o, ¬ j = p → ¬ isS A j → ¬ isS D j → ¬ isS F j → H[j]? = some (some o) → H'[j]? = some (some o)
theorem KeptS.refl (p : Nat) (A D F : AV) (H : Heap) : KeptS p A D F H H := fun _ _ _ _ _ _ h => h
theorem KeptS.app {p : Nat} {A D F : AV} {H H' l : Heap} (h : KeptS p A D F H H') : KeptS p A D F H (H' ++ l) := fun j o h1 h2 h3 h4 ho => by
  have := h j o h1 h2 h3 h4 ho
  rw [List.getElem?_append_left (List.getElem?_eq_some_iff.1 this).1]
  exact this
theorem KeptS.set {p : Nat} {A D F : AV} {H H' : Heap} {i : Nat} {x : Option AObj} (h : KeptS p A D F H H') (hi : i = p ∨ isS A i ∨ isS D i ∨ isS F i) : KeptS p A D F H (H'.set i x) := fun j o h1 h2 h3 h4 ho => by
  have e : ¬ i = j := fun e => by
    subst e
    rcases hi with hi | hi | hi | hi
    · exact h1 hi
    · exact h2 hi
    · exact h3 hi
    · exact h4 hi
  rw [List.getElem?_set_ne e]
  exact h j o h1 h2 h3 h4 ho
theorem agree_pre {X l : Heap} {z w : Option AObj} {n : Nat} (h : n ≤ X.length + 1) : Agree (fun i => decide (i < n)) (X ++ [z]) (X ++ [z, w]) := by
  have := agree_push (n := n) (H := X ++ [z]) (l := [w]) (by simp; omega)
  simpa using this
theorem agree_pre2 {X l : Heap} {z z' w : Option AObj} {n : Nat} (h : n ≤ X.length + 2) : Agree (fun i => decide (i < n)) (X ++ [z, z']) (X ++ [z, z', w]) := by
  have := agree_push (n := n) (H := X ++ [z, z']) (l := [w]) (by simp; omega)
  simpa using this
set_option maxHeartbeats 4000000 in
set_option maxRecDepth 8000 in
theorem rmatch_m {row src : Option Nat} {c : TCash} {H : Heap} {n0 p i k : Nat} {lo : Int} {x : TClaim} {y : TIncome} {A B D F : AV} (hc : HC n0 H p c A B D F) (h1 : c.Loose[i]? = some lo) (h2 : c.Claims[k]? = some x) (h3 : c.Incomes[i]? = some y) (hlo : 0 ≤ lo ∧ lo ≤ 1000000000000) (hxo : 0 ≤ x.Open ∧ x.Open ≤ 1000000000000) (hn : c.Matches.length ≤ 100000) :
    MFun Tryz.prog row src 67 [.ref p 0 0, iv i, iv k] H (fun r H' => r = (if min lo x.Open = 0 then .tup [.agg [iv 0, iv 0, iv 0], bv false] else .tup [.agg [iv y.Number, iv x.ID, iv (min lo x.Open)], bv true]) ∧ (∃ D', HC n0 H' p (meet c i k) A B D' F ∧ ∀ j, isS D' j → isS D j ∨ H.length ≤ j) ∧ KeptS p A D F H H') := by
  obtain ⟨C, hC⟩ : ∃ C : AV → Heap → Prop, C = fun r H' => r = (if min lo x.Open = 0 then .tup [.agg [iv 0, iv 0, iv 0], bv false] else .tup [.agg [iv y.Number, iv x.ID, iv (min lo x.Open)], bv true]) ∧ (∃ D', HC n0 H' p (meet c i k) A B D' F ∧ ∀ j, isS D' j → isS D j ∨ H.length ≤ j) ∧ KeptS p A D F H H' := ⟨_, rfl⟩
  have lti := (List.getElem?_eq_some_iff.1 h1).1
  have ltk := (List.getElem?_eq_some_iff.1 h2).1
  have ltj := (List.getElem?_eq_some_iff.1 h3).1
  obtain ⟨a, na, rfl, ha⟩ := hc.a
  obtain ⟨b, nb, rfl, hb⟩ := hc.b
  obtain ⟨f, nf, rfl, hf⟩ := hc.f
  have ho := hc.obj
  have hd : Grown n0 H D 40 3 (encL TMatch.cells c.Matches) := .inr hc.d
  have hnl := hc.len
  have lto := (List.getElem?_eq_some_iff.1 ho).1
  have lta := (List.getElem?_eq_some_iff.1 ha).1
  have ltb := (List.getElem?_eq_some_iff.1 hb).1
  have ltf := (List.getElem?_eq_some_iff.1 hf).1
  have n1 := obj_ne ho ha (by simp)
  have n2 := obj_ne ho hb (by simp)
  have n3 := obj_ne ho hf (by simp)
  have n4 := obj_ne ha hb (by simp)
  have n5 := obj_ne ha hf (by simp)
  have n6 := obj_ne hb hf (by simp)
  have n1' : ¬ a = p := fun e => n1 e.symm
  have n2' : ¬ b = p := fun e => n2 e.symm
  have n3' : ¬ f = p := fun e => n3 e.symm
  have n4' : ¬ b = a := fun e => n4 e.symm
  have n5' : ¬ f = a := fun e => n5 e.symm
  have n6' : ¬ f = b := fun e => n6 e.symm
  rw [← hC]
  simp only [encL_len, rowsI_len] at ho hC
  have ra := rowsC_get h2
  have rb := rowsN_get h3
  have rf := rowsI_get h1
  have lna := encL_len TClaim.cells c.Claims
  have lnb := encL_len TIncome.cells c.Incomes
  have lnf := rowsI_len c.Loose
  by_cases hz : min lo x.Open = 0
  · have ex : ∃ r H', C r H' := ⟨.tup [.agg [iv 0, iv 0, iv 0], bv false], H, by
      rw [hC, meet_zero_eq h1 h2 h3 hz, if_pos hz]
      have := hc
      simp only [encL_len, rowsI_len] at this
      exact ⟨rfl, ⟨D, this, fun j h => .inl h⟩, .refl _ _ _ _ _⟩⟩
    obtain ⟨PA, hPA⟩ : ∃ r, r = encL TClaim.cells c.Claims := ⟨_, rfl⟩
    obtain ⟨PB, hPB⟩ : ∃ r, r = encL TIncome.cells c.Incomes := ⟨_, rfl⟩
    obtain ⟨PF, hPF⟩ : ∃ r, r = rowsI c.Loose := ⟨_, rfl⟩
    rw [← hPA] at ha ra lna
    rw [← hPB] at hb rb lnb
    rw [← hPF] at hf rf lnf
    refine mfun_intro Tryz.func67 rfl (by simp [Tryz.f67]) (by kernel_rfl) (ex) ?_
    intro E hP hr hs hN
    have am : amin [iv lo, iv x.Open] = some (iv 0) := by simp [amin, aminFrom, hz]
    simp -dsimp -implicitDefEqProofs [-getElem?_pos, go_sem, hP]
    refine adrawB (fun _ => true) [] hP (by kernel_rfl) (by kernel_rfl) ?_
    simp -dsimp -implicitDefEqProofs [-getElem?_pos, go_sem, hP, ho, lto, ha, lta, hb, ltb, hf, ltf, ra, rb, rf, lna, lnb, lnf, lti, ltk, ltj, am]
    rw [hC, meet_zero_eq h1 h2 h3 hz, if_pos hz]
    have := hc
    simp only [encL_len, rowsI_len] at this
    exact ⟨rfl, ⟨D, this.app, fun j h => .inl h⟩, (KeptS.refl _ _ _ _ _).app⟩
  obtain ⟨n, hnd⟩ : ∃ n, n = min lo x.Open := ⟨_, rfl⟩
  have fin : ∀ (H' : Heap) (id : Nat), n0 ≤ id → n0 ≤ H'.length → H'[p]? = some (some ⟨29, 4, [[.sref a 0 c.Claims.length, .sref b 0 c.Incomes.length, .sref id 0 (c.Matches.length + 1), .sref f 0 c.Loose.length]]⟩) → H'[a]? = some (some ⟨38, 6, (encL TClaim.cells c.Claims).set k [iv x.ID, iv x.Payer, iv x.Amount, iv (x.Open - n), iv x.Day, .sc (.string x.Code)]⟩) → H'[b]? = some (some ⟨32, 5, encL TIncome.cells c.Incomes⟩) → H'[f]? = some (some ⟨3, 1, (rowsI c.Loose).set i [iv (lo - n)]⟩) → H'[id]? = some (some ⟨40, 3, encL TMatch.cells c.Matches ++ [[iv y.Number, iv x.ID, iv n]]⟩) → KeptS p (.sref a 0 c.Claims.length) D (.sref f 0 c.Loose.length) H H' → H.length ≤ id → C (.tup [.agg [iv y.Number, iv x.ID, iv n], bv true]) H' := fun H' id q1 q2 q3 q4 q5 q6 q7 q8 q9 => by
    rw [hC]
    subst hnd
    rw [if_neg hz]
    exact ⟨rfl, ⟨_, met h1 h2 h3 hz na nb nf q1 q2 rfl rfl rfl q3 q4 q5 q6 q7, fun j hj => .inr (by rw [isS_iff] at hj; omega)⟩, q8⟩
  have bn : 0 < n ∧ n ≤ lo ∧ n ≤ x.Open := by omega
  have ex : ∃ r H', C r H' := by
    obtain ⟨H1, hH1⟩ : ∃ H1 : Heap, H1 = (((H.set f (some ⟨3, 1, (rowsI c.Loose).set i [iv (lo - n)]⟩)).set a (some ⟨38, 6, (encL TClaim.cells c.Claims).set k [iv x.ID, iv x.Payer, iv x.Amount, iv (x.Open - n), iv x.Day, .sc (.string x.Code)]⟩)).set p (some ⟨29, 4, [[.sref a 0 c.Claims.length, .sref b 0 c.Incomes.length, .sref H.length 0 (c.Matches.length + 1), .sref f 0 c.Loose.length]]⟩)) ++ [some ⟨40, 3, encL TMatch.cells c.Matches ++ [[iv y.Number, iv x.ID, iv n]]⟩] := ⟨_, rfl⟩
    refine ⟨_, H1, fin H1 H.length (by omega) (by rw [hH1]; simp; omega) ?_ ?_ ?_ ?_ ?_ ?_ (Nat.le_refl _)⟩
    · rw [hH1, List.getElem?_append_left (by simp; omega), List.getElem?_set_self (by simp; omega)]
    · rw [hH1, List.getElem?_append_left (by simp; omega), List.getElem?_set_ne n1, List.getElem?_set_self (by simp; omega)]
    · rw [hH1, List.getElem?_append_left (by simp; omega), List.getElem?_set_ne n2, List.getElem?_set_ne n4, List.getElem?_set_ne n6', hb]
    · rw [hH1, List.getElem?_append_left (by simp; omega), List.getElem?_set_ne n3, List.getElem?_set_ne n5, List.getElem?_set_self (by omega)]
    · rw [hH1, List.getElem?_append_right (by simp)]
      simp
    · rw [hH1]
      exact KeptS.app ((((KeptS.refl _ _ _ _ H).set (.inr (.inr (.inr (isS_self _ _))))).set (.inr (.inl (isS_self _ _)))).set (.inl rfl))
  have lnd := encL_len TMatch.cells c.Matches
  obtain ⟨PA, hPA⟩ : ∃ r, r = encL TClaim.cells c.Claims := ⟨_, rfl⟩
  obtain ⟨PB, hPB⟩ : ∃ r, r = encL TIncome.cells c.Incomes := ⟨_, rfl⟩
  obtain ⟨PF, hPF⟩ : ∃ r, r = rowsI c.Loose := ⟨_, rfl⟩
  obtain ⟨PD, hPD⟩ : ∃ r, r = encL TMatch.cells c.Matches := ⟨_, rfl⟩
  obtain ⟨nA, hnA⟩ : ∃ r, r = c.Claims.length := ⟨_, rfl⟩
  obtain ⟨nB, hnB⟩ : ∃ r, r = c.Incomes.length := ⟨_, rfl⟩
  obtain ⟨nF, hnF⟩ : ∃ r, r = c.Loose.length := ⟨_, rfl⟩
  obtain ⟨nD, hnD⟩ : ∃ r, r = c.Matches.length := ⟨_, rfl⟩
  rw [← hPA] at ha ra lna fin
  rw [← hPB] at hb rb lnb fin
  rw [← hPF] at hf rf lnf fin
  rw [← hPD] at hd lnd fin
  rw [← hnA] at ho lna ltk fin
  rw [← hnB] at ho lnb ltj fin
  rw [← hnF] at ho lnf lti fin
  rw [← hnD] at lnd hn fin
  refine mfun_intro Tryz.func67 rfl (by simp [Tryz.f67]) (by kernel_rfl) (ex) ?_
  intro E hP hr hs hN
  have am : amin [iv lo, iv x.Open] = some (iv n) := by simp [amin, aminFrom, hnd]
  have dn : ¬ n = 0 := by omega
  have w1 := wrap_in (lo - n) (by omega)
  have w2 := wrap_in (x.Open - n) (by omega)
  simp -dsimp -implicitDefEqProofs [-getElem?_pos, go_sem, hP]
  refine adrawB (fun _ => true) [] hP (by kernel_rfl) (by kernel_rfl) ?_
  simp -dsimp -implicitDefEqProofs [-getElem?_pos, go_sem, hP, ho, lto, ha, lta, hb, ltb, hf, ltf, ra, rb, rf, lna, lnb, lnf, lti, ltk, ltj, am, dn, w1, w2, n1, n2, n3, n4, n5, n6, n1', n2', n3', n4', n5', n6']
  refine adrawB (fun i => decide (i < H.length + 1)) [19] hP (by kernel_rfl) (by kernel_rfl) ?_
  simp -dsimp -implicitDefEqProofs [-getElem?_pos, go_sem, hP, restr_get, ho, lto, ha, lta, hb, ltb, hf, ltf, ra, rb, rf, lna, lnb, lnf, lti, ltk, ltj, am, dn, w1, w2, n1, n2, n3, n4, n5, n6, n1', n2', n3', n4', n5', n6']
  refine ⟨agree_pre (l := []) (by simp), ?_⟩
  rcases hd with ⟨rfl, e0⟩ | ⟨id, nd, rfl, hd⟩
  · refine adrawB (fun i => decide (i < H.length + 2)) [7, 10] hP (by kernel_rfl) (by kernel_rfl) ?_
    simp -dsimp -implicitDefEqProofs [-getElem?_pos, go_sem, hP, restr_get, ho, lto, ha, lta, hb, ltb, hf, ltf, ra, rb, rf, lna, lnb, lnf, lti, ltk, ltj, am, dn, w1, w2, n1, n2, n3, n4, n5, n6, n1', n2', n3', n4', n5', n6']
    have e1 : nD = 0 := by rw [← lnd, e0]; rfl
    refine fin _ (H.length + 2) (by omega) (by simp; omega) ?_ ?_ ?_ ?_ ?_ ?_ (by omega)
    · simp -dsimp -implicitDefEqProofs [-getElem?_pos, go_sem, lto, e1]
    · simp -dsimp -implicitDefEqProofs [-getElem?_pos, go_sem, lta, n1, n1']
    · simp -dsimp -implicitDefEqProofs [-getElem?_pos, go_sem, ltb, n2, n4, n6', hb]
    · simp -dsimp -implicitDefEqProofs [-getElem?_pos, go_sem, ltf, n3, n5]
    · simp -dsimp -implicitDefEqProofs [-getElem?_pos, go_sem, e0]
    · exact KeptS.app ((((KeptS.refl _ _ _ _ H).set (.inr (.inr (.inr (isS_self _ _))))).set (.inr (.inl (isS_self _ _)))).set (.inl rfl))
  · have n7 := obj_ne ho hd (by simp)
    have n8 := obj_ne ha hd (by simp)
    have n9 := obj_ne hb hd (by simp)
    have n10 := obj_ne hf hd (by simp)
    have n7' : ¬ id = p := fun e => n7 e.symm
    have n8' : ¬ id = a := fun e => n8 e.symm
    have n9' : ¬ id = b := fun e => n9 e.symm
    have n10' : ¬ id = f := fun e => n10 e.symm
    have ltd := (List.getElem?_eq_some_iff.1 hd).1
    refine adrawB (fun i => decide (i < H.length + 2)) [7, 10] hP (by kernel_rfl) (by kernel_rfl) ?_
    simp -dsimp -implicitDefEqProofs [-getElem?_pos, go_sem, hP, restr_get, hd, ltd, lnd, n7, n8, n9, n10, n7', n8', n9', n10', ho, lto, ha, lta, hb, ltb, hf, ltf, ra, rb, rf, lna, lnb, lnf, lti, ltk, ltj, am, dn, w1, w2, n1, n2, n3, n4, n5, n6, n1', n2', n3', n4', n5', n6']
    refine ⟨by omega, by omega, fin _ (H.length + 2) (by omega) (by simp; omega) ?_ ?_ ?_ ?_ ?_ ?_ (by omega)⟩
    · simp -dsimp -implicitDefEqProofs [-getElem?_pos, go_sem, lto]
    · simp -dsimp -implicitDefEqProofs [-getElem?_pos, go_sem, lta, n1, n1', n8']
    · simp -dsimp -implicitDefEqProofs [-getElem?_pos, go_sem, ltb, n2, n4, n6', n9', hb]
    · simp -dsimp -implicitDefEqProofs [-getElem?_pos, go_sem, ltf, n3, n5, n10']
    · simp -dsimp -implicitDefEqProofs [-getElem?_pos, go_sem]
    · exact KeptS.app (((((KeptS.refl _ _ _ _ H).set (.inr (.inr (.inr (isS_self _ _))))).set (.inr (.inl (isS_self _ _)))).set (.inr (.inr (.inl (isS_self _ _))))).set (.inl rfl))
end Go.Proofs.YtgapbmaehfdkoaaGreatDoor
