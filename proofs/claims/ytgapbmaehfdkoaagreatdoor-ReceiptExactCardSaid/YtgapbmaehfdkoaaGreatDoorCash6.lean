/- Receipts: cash in the walk's own objects; an income meets a claim. -/
import Derived.Test.YtgapbmaehfdkoaaGreatDoorCash5
import Derived.Test.YtgapbmaehfdkoaaGreatDoorGrown
import Derived.Test.YtgapbmaehfdkoaaGreatDoorCashA
set_option linter.unusedSimpArgs false
set_option linter.unusedVariables false
namespace Go.Proofs.YtgapbmaehfdkoaaGreatDoor
open Go.PA
open Go.RowKit

/-- A list in an object of the walk's own. -/
def Own (n0 : Nat) (H : Heap) (x : AV) (ty : TypeId) (k : Nat) (es : List (List AV)) : Prop := ∃ id, n0 ≤ id ∧ x = .sref id 0 es.length ∧ H[id]? = some (some ⟨ty, k, es⟩)
theorem Own.app {n0 : Nat} {H l : Heap} {x : AV} {ty : TypeId} {k : Nat} {es : List (List AV)} (h : Own n0 H x ty k es) : Own n0 (H ++ l) x ty k es := by
  obtain ⟨id, h1, h2, h3⟩ := h
  refine ⟨id, h1, h2, ?_⟩
  rw [List.getElem?_append_left (List.getElem?_eq_some_iff.1 h3).1]
  exact h3
/-- Cash in an object of the walk's own, with lists of its own. -/
structure HC (n0 : Nat) (H : Heap) (p : Nat) (c : TCash) (A B D F : AV) : Prop where
  len : n0 ≤ H.length
  obj : H[p]? = some (some ⟨29, 4, [[A, B, D, F]]⟩)
  a : Own n0 H A 38 6 (encL TClaim.cells c.Claims)
  b : Own n0 H B 32 5 (encL TIncome.cells c.Incomes)
  d : Own n0 H D 40 3 (encL TMatch.cells c.Matches)
  f : Own n0 H F 3 1 (rowsI c.Loose)
def KeptC (n0 p : Nat) (H H' : Heap) : Prop := ∀ j o, j < n0 → ¬ j = p → H[j]? = some (some o) → H'[j]? = some (some o)
theorem KeptC.trans {n0 p : Nat} {H H' H'' : Heap} (h : KeptC n0 p H H') (k : KeptC n0 p H' H'') : KeptC n0 p H H'' := fun j o hj hp ho => k j o hj hp (h j o hj hp ho)
theorem KeptC.refl (n0 p : Nat) (H : Heap) : KeptC n0 p H H := fun _ _ _ _ h => h
theorem KeptC.set {n0 p : Nat} {H H' : Heap} {i : Nat} {x : Option AObj} (h : KeptC n0 p H H') (hi : n0 ≤ i ∨ i = p) : KeptC n0 p H (H'.set i x) := fun j o hj hp ho => by
  have e : ¬ i = j := by rcases hi with hi | hi <;> omega
  rw [List.getElem?_set_ne e]
  exact h j o hj hp ho
theorem KeptC.app {n0 p : Nat} {H H' l : Heap} (h : KeptC n0 p H H') : KeptC n0 p H (H' ++ l) := fun j o hj hp ho => by
  have := h j o hj hp ho
  rw [List.getElem?_append_left (List.getElem?_eq_some_iff.1 this).1]
  exact this
theorem KeptC.ofKept {n0 p : Nat} {H H' : Heap} {X : List Nat} (h : Kept X H H') (hX : ∀ i, i ∈ X → n0 ≤ i ∨ i = p) : KeptC n0 p H H' := fun j o hj hp ho => h j o (fun hm => by have := hX j hm; omega) ho
theorem Grown.own {n : Nat} {H : Heap} {x : AV} {ty : TypeId} {k : Nat} {es : List (List AV)} (h : Grown n H x ty k es) (hne : 0 < es.length) : ∃ id, n ≤ id ∧ x = .sref id 0 es.length ∧ H[id]? = some (some ⟨ty, k, es⟩) := by
  rcases h with ⟨_, rfl⟩ | h
  · simp at hne
  · exact h
theorem obj_ne {H : Heap} {i j : Nat} {o o' : AObj} (hi : H[i]? = some (some o)) (hj : H[j]? = some (some o')) (h : ¬ o.ty = o'.ty) : ¬ i = j := fun e => by
  subst e
  rw [hi] at hj
  cases hj
  exact h rfl
theorem rowsC_set (l : List TClaim) (k : Nat) (x : TClaim) : (encL TClaim.cells l).set k x.cells = encL TClaim.cells (l.set k x) := by simp [encL]
theorem rowsC_get {l : List TClaim} {k : Nat} {x : TClaim} (h : l[k]? = some x) : (encL TClaim.cells l)[k]? = some [iv x.ID, iv x.Payer, iv x.Amount, iv x.Open, iv x.Day, .sc (.string x.Code)] := by simp [encL, h, cClm]
theorem rowsN_get {l : List TIncome} {k : Nat} {x : TIncome} (h : l[k]? = some x) : (encL TIncome.cells l)[k]? = some [iv x.Number, iv x.Day, iv x.Payer, iv x.Amount, iv x.Claim] := by simp [encL, h, cIncm]
theorem Grown.set {n0 : Nat} {H : Heap} {x : AV} {ty : TypeId} {k : Nat} {es : List (List AV)} {i : Nat} {o : AObj} {o' : Option AObj} (h : Grown n0 H x ty k es) (hi : H[i]? = some (some o)) (ht : ¬ o.ty = ty) : Grown n0 (H.set i o') x ty k es := by
  rcases h with h | ⟨id, h1, h2, h3⟩
  · exact .inl h
  · refine .inr ⟨id, h1, h2, ?_⟩
    rw [List.getElem?_set_ne (obj_ne hi h3 ht)]
    exact h3
theorem Grown.app {n0 : Nat} {H l : Heap} {x : AV} {ty : TypeId} {k : Nat} {es : List (List AV)} (h : Grown n0 H x ty k es) : Grown n0 (H ++ l) x ty k es := by
  rcases h with h | ⟨id, h1, h2, h3⟩
  · exact .inl h
  · refine .inr ⟨id, h1, h2, ?_⟩
    rw [List.getElem?_append_left (List.getElem?_eq_some_iff.1 h3).1]
    exact h3
theorem HC.app {n0 : Nat} {H l : Heap} {p : Nat} {c : TCash} {A B D F : AV} (h : HC n0 H p c A B D F) : HC n0 (H ++ l) p c A B D F :=
  ⟨by rw [List.length_append]; have := h.len; omega, by rw [List.getElem?_append_left (List.getElem?_eq_some_iff.1 h.obj).1]; exact h.obj, h.a.app, h.b.app, h.d.app, h.f.app⟩

theorem met {c : TCash} {H' : Heap} {n0 p i k a b f id la lb lf : Nat} {lo : Int} {x : TClaim} {y : TIncome} (h1 : c.Loose[i]? = some lo) (h2 : c.Claims[k]? = some x) (h3 : c.Incomes[i]? = some y) (hz : ¬ min lo x.Open = 0)
    (na : n0 ≤ a) (nb : n0 ≤ b) (nf : n0 ≤ f) (nd : n0 ≤ id) (hl : n0 ≤ H'.length) (ela : la = c.Claims.length) (elb : lb = c.Incomes.length) (elf : lf = c.Loose.length)
    (hp : H'[p]? = some (some ⟨29, 4, [[.sref a 0 la, .sref b 0 lb, .sref id 0 (c.Matches.length + 1), .sref f 0 lf]]⟩))
    (ha : H'[a]? = some (some ⟨38, 6, (encL TClaim.cells c.Claims).set k [iv x.ID, iv x.Payer, iv x.Amount, iv (x.Open - min lo x.Open), iv x.Day, .sc (.string x.Code)]⟩))
    (hb : H'[b]? = some (some ⟨32, 5, encL TIncome.cells c.Incomes⟩))
    (hf : H'[f]? = some (some ⟨3, 1, (rowsI c.Loose).set i [iv (lo - min lo x.Open)]⟩))
    (hd : H'[id]? = some (some ⟨40, 3, encL TMatch.cells c.Matches ++ [[iv y.Number, iv x.ID, iv (min lo x.Open)]]⟩)) :
    HC n0 H' p (meet c i k) (.sref a 0 la) (.sref b 0 lb) (.sref id 0 (c.Matches.length + 1)) (.sref f 0 lf) := by
  subst ela; subst elb; subst elf
  rw [meet_at h1 h2 h3 hz]
  refine ⟨hl, hp, ⟨a, na, ?_, ?_⟩, ⟨b, nb, ?_, hb⟩, ⟨id, nd, ?_, ?_⟩, ⟨f, nf, ?_, ?_⟩⟩
  · rw [encL_len, List.length_set]
  · rw [ha]
    exact congrArg (fun z => some (some (⟨38, 6, z⟩ : AObj))) (rowsC_set c.Claims k { x with Open := x.Open - min lo x.Open })
  · rw [encL_len]
  · rw [encL_len, List.length_append, List.length_singleton]
  · rw [hd]
    exact congrArg (fun z => some (some (⟨40, 3, z⟩ : AObj))) (encL_snoc TMatch.cells c.Matches ⟨y.Number, x.ID, min lo x.Open⟩)
  · rw [rowsI_len, List.length_set]
  · rw [hf, rowsI_set]
theorem meet_zero_eq {c : TCash} {i k : Nat} {lo : Int} {x : TClaim} {y : TIncome} (h1 : c.Loose[i]? = some lo) (h2 : c.Claims[k]? = some x) (h3 : c.Incomes[i]? = some y) (hz : min lo x.Open = 0) : meet c i k = c := by
  unfold meet
  rw [h1, h2, h3]
  simp only
  rw [if_pos hz]

set_option maxHeartbeats 4000000 in
set_option maxRecDepth 8000 in
theorem cmatch_m {row src : Option Nat} {c : TCash} {H : Heap} {n0 p i k : Nat} {lo : Int} {x : TClaim} {y : TIncome} {A B D F : AV} (hc : HC n0 H p c A B D F) (h1 : c.Loose[i]? = some lo) (h2 : c.Claims[k]? = some x) (h3 : c.Incomes[i]? = some y) (hlo : 0 ≤ lo ∧ lo ≤ 1000000000000) (hxo : 0 ≤ x.Open ∧ x.Open ≤ 1000000000000) (hn : c.Matches.length ≤ 100000) :
    MFun Tryz.prog row src 42 [.ref p 0 0, iv i, iv k] H (fun _ H' => (∃ D', HC n0 H' p (meet c i k) A B D' F) ∧ KeptC n0 p H H') := by
  obtain ⟨C, hC⟩ : ∃ C : AV → Heap → Prop, C = fun _ H' => (∃ D', HC n0 H' p (meet c i k) A B D' F) ∧ KeptC n0 p H H' := ⟨_, rfl⟩
  have lti := (List.getElem?_eq_some_iff.1 h1).1
  have ltk := (List.getElem?_eq_some_iff.1 h2).1
  have ltj := (List.getElem?_eq_some_iff.1 h3).1
  obtain ⟨a, na, rfl, ha⟩ := hc.a
  obtain ⟨b, nb, rfl, hb⟩ := hc.b
  obtain ⟨f, nf, rfl, hf⟩ := hc.f
  have ho := hc.obj
  have hd : Grown n0 H D 40 3 (encL TMatch.cells c.Matches) := .inr hc.d
  have hnl := hc.len
  have lto := (List.getElem?_eq_some_iff.1 ho).1
  have lta := (List.getElem?_eq_some_iff.1 ha).1
  have ltb := (List.getElem?_eq_some_iff.1 hb).1
  have ltf := (List.getElem?_eq_some_iff.1 hf).1
  have n1 := obj_ne ho ha (by simp)
  have n2 := obj_ne ho hb (by simp)
  have n3 := obj_ne ho hf (by simp)
  have n4 := obj_ne ha hb (by simp)
  have n5 := obj_ne ha hf (by simp)
  have n6 := obj_ne hb hf (by simp)
  have n1' : ¬ a = p := fun e => n1 e.symm
  have n2' : ¬ b = p := fun e => n2 e.symm
  have n3' : ¬ f = p := fun e => n3 e.symm
  have n4' : ¬ b = a := fun e => n4 e.symm
  have n5' : ¬ f = a := fun e => n5 e.symm
  have n6' : ¬ f = b := fun e => n6 e.symm
  rw [← hC]
  simp only [encL_len, rowsI_len] at ho hC
  have ra := rowsC_get h2
  have rb := rowsN_get h3
  have rf := rowsI_get h1
  have lna := encL_len TClaim.cells c.Claims
  have lnb := encL_len TIncome.cells c.Incomes
  have lnf := rowsI_len c.Loose
  by_cases hz : min lo x.Open = 0
  · have ex : ∃ r H', C r H' := ⟨.tup [], H, by
      rw [hC, meet_zero_eq h1 h2 h3 hz]
      have := hc
      simp only [encL_len, rowsI_len] at this
      exact ⟨⟨D, this⟩, .refl _ _ _⟩⟩
    obtain ⟨PA, hPA⟩ : ∃ r, r = encL TClaim.cells c.Claims := ⟨_, rfl⟩
    obtain ⟨PB, hPB⟩ : ∃ r, r = encL TIncome.cells c.Incomes := ⟨_, rfl⟩
    obtain ⟨PF, hPF⟩ : ∃ r, r = rowsI c.Loose := ⟨_, rfl⟩
    rw [← hPA] at ha ra lna
    rw [← hPB] at hb rb lnb
    rw [← hPF] at hf rf lnf
    refine mfun_intro Tryz.func42 rfl (by simp [Tryz.f42]) (by kernel_rfl) (ex) ?_
    intro E hP hr hs hN
    have am : amin [iv lo, iv x.Open] = some (iv 0) := by simp [amin, aminFrom, hz]
    simp -dsimp -implicitDefEqProofs [-getElem?_pos, go_sem, hP]
    refine adrawB (fun _ => true) [] hP (by kernel_rfl) (by kernel_rfl) ?_
    simp -dsimp -implicitDefEqProofs [-getElem?_pos, go_sem, hP, ho, lto, ha, lta, hb, ltb, hf, ltf, ra, rb, rf, lna, lnb, lnf, lti, ltk, ltj, am]
    rw [hC, meet_zero_eq h1 h2 h3 hz]
    have := hc
    simp only [encL_len, rowsI_len] at this
    exact ⟨⟨D, this⟩, .refl _ _ _⟩
  obtain ⟨n, hnd⟩ : ∃ n, n = min lo x.Open := ⟨_, rfl⟩
  have fin : ∀ (H' : Heap) (id : Nat), n0 ≤ id → n0 ≤ H'.length → H'[p]? = some (some ⟨29, 4, [[.sref a 0 c.Claims.length, .sref b 0 c.Incomes.length, .sref id 0 (c.Matches.length + 1), .sref f 0 c.Loose.length]]⟩) → H'[a]? = some (some ⟨38, 6, (encL TClaim.cells c.Claims).set k [iv x.ID, iv x.Payer, iv x.Amount, iv (x.Open - n), iv x.Day, .sc (.string x.Code)]⟩) → H'[b]? = some (some ⟨32, 5, encL TIncome.cells c.Incomes⟩) → H'[f]? = some (some ⟨3, 1, (rowsI c.Loose).set i [iv (lo - n)]⟩) → H'[id]? = some (some ⟨40, 3, encL TMatch.cells c.Matches ++ [[iv y.Number, iv x.ID, iv n]]⟩) → KeptC n0 p H H' → ∀ r, C r H' := fun H' id q1 q2 q3 q4 q5 q6 q7 q8 r => by
    rw [hC]
    subst hnd
    exact ⟨⟨_, met h1 h2 h3 hz na nb nf q1 q2 rfl rfl rfl q3 q4 q5 q6 q7⟩, q8⟩
  have bn : 0 < n ∧ n ≤ lo ∧ n ≤ x.Open := by omega
  have ex : ∃ r H', C r H' := by
    obtain ⟨H1, hH1⟩ : ∃ H1 : Heap, H1 = (((H.set f (some ⟨3, 1, (rowsI c.Loose).set i [iv (lo - n)]⟩)).set a (some ⟨38, 6, (encL TClaim.cells c.Claims).set k [iv x.ID, iv x.Payer, iv x.Amount, iv (x.Open - n), iv x.Day, .sc (.string x.Code)]⟩)).set p (some ⟨29, 4, [[.sref a 0 c.Claims.length, .sref b 0 c.Incomes.length, .sref H.length 0 (c.Matches.length + 1), .sref f 0 c.Loose.length]]⟩)) ++ [some ⟨40, 3, encL TMatch.cells c.Matches ++ [[iv y.Number, iv x.ID, iv n]]⟩] := ⟨_, rfl⟩
    refine ⟨.tup [], H1, fin H1 H.length (by omega) (by rw [hH1]; simp; omega) ?_ ?_ ?_ ?_ ?_ ?_ _⟩
    · rw [hH1, List.getElem?_append_left (by simp; omega), List.getElem?_set_self (by simp; omega)]
    · rw [hH1, List.getElem?_append_left (by simp; omega), List.getElem?_set_ne n1, List.getElem?_set_self (by simp; omega)]
    · rw [hH1, List.getElem?_append_left (by simp; omega), List.getElem?_set_ne n2, List.getElem?_set_ne n4, List.getElem?_set_ne n6', hb]
    · rw [hH1, List.getElem?_append_left (by simp; omega), List.getElem?_set_ne n3, List.getElem?_set_ne n5, List.getElem?_set_self (by omega)]
    · rw [hH1, List.getElem?_append_right (by simp)]
      simp
    · rw [hH1]
      exact KeptC.app (((KeptC.refl n0 p H).set (.inl nf)).set (.inl na) |>.set (.inr rfl))
  have lnd := encL_len TMatch.cells c.Matches
  obtain ⟨PA, hPA⟩ : ∃ r, r = encL TClaim.cells c.Claims := ⟨_, rfl⟩
  obtain ⟨PB, hPB⟩ : ∃ r, r = encL TIncome.cells c.Incomes := ⟨_, rfl⟩
  obtain ⟨PF, hPF⟩ : ∃ r, r = rowsI c.Loose := ⟨_, rfl⟩
  obtain ⟨PD, hPD⟩ : ∃ r, r = encL TMatch.cells c.Matches := ⟨_, rfl⟩
  obtain ⟨nA, hnA⟩ : ∃ r, r = c.Claims.length := ⟨_, rfl⟩
  obtain ⟨nB, hnB⟩ : ∃ r, r = c.Incomes.length := ⟨_, rfl⟩
  obtain ⟨nF, hnF⟩ : ∃ r, r = c.Loose.length := ⟨_, rfl⟩
  obtain ⟨nD, hnD⟩ : ∃ r, r = c.Matches.length := ⟨_, rfl⟩
  rw [← hPA] at ha ra lna fin
  rw [← hPB] at hb rb lnb fin
  rw [← hPF] at hf rf lnf fin
  rw [← hPD] at hd lnd fin
  rw [← hnA] at ho lna ltk fin
  rw [← hnB] at ho lnb ltj fin
  rw [← hnF] at ho lnf lti fin
  rw [← hnD] at lnd hn fin
  refine mfun_intro Tryz.func42 rfl (by simp [Tryz.f42]) (by kernel_rfl) (ex) ?_
  intro E hP hr hs hN
  have am : amin [iv lo, iv x.Open] = some (iv n) := by simp [amin, aminFrom, hnd]
  have dn : ¬ n = 0 := by omega
  have w1 := wrap_in (lo - n) (by omega)
  have w2 := wrap_in (x.Open - n) (by omega)
  simp -dsimp -implicitDefEqProofs [-getElem?_pos, go_sem, hP]
  refine adrawB (fun _ => true) [] hP (by kernel_rfl) (by kernel_rfl) ?_
  simp -dsimp -implicitDefEqProofs [-getElem?_pos, go_sem, hP, ho, lto, ha, lta, hb, ltb, hf, ltf, ra, rb, rf, lna, lnb, lnf, lti, ltk, ltj, am, dn, w1, w2, n1, n2, n3, n4, n5, n6, n1', n2', n3', n4', n5', n6']
  rcases hd with ⟨rfl, e0⟩ | ⟨id, nd, rfl, hd⟩
  · refine adrawB (fun i => decide (i < H.length)) [24, 27] hP (by kernel_rfl) (by kernel_rfl) ?_
    simp -dsimp -implicitDefEqProofs [-getElem?_pos, go_sem, hP, restr_get, ho, lto, ha, lta, hb, ltb, hf, ltf, ra, rb, rf, lna, lnb, lnf, lti, ltk, ltj, am, dn, w1, w2, n1, n2, n3, n4, n5, n6, n1', n2', n3', n4', n5', n6']
    have e1 : nD = 0 := by rw [← lnd, e0]; rfl
    refine fin _ H.length (by omega) (by simp; omega) ?_ ?_ ?_ ?_ ?_ ?_ _
    · simp -dsimp -implicitDefEqProofs [-getElem?_pos, go_sem, lto, e1]
    · simp -dsimp -implicitDefEqProofs [-getElem?_pos, go_sem, lta, n1, n1']
    · simp -dsimp -implicitDefEqProofs [-getElem?_pos, go_sem, ltb, n2, n4, n6', hb]
    · simp -dsimp -implicitDefEqProofs [-getElem?_pos, go_sem, ltf, n3, n5]
    · simp -dsimp -implicitDefEqProofs [-getElem?_pos, go_sem, e0]
    · exact KeptC.app (((KeptC.refl n0 p H).set (.inl nf)).set (.inl na) |>.set (.inr rfl))
  · have n7 := obj_ne ho hd (by simp)
    have n8 := obj_ne ha hd (by simp)
    have n9 := obj_ne hb hd (by simp)
    have n10 := obj_ne hf hd (by simp)
    have n7' : ¬ id = p := fun e => n7 e.symm
    have n8' : ¬ id = a := fun e => n8 e.symm
    have n9' : ¬ id = b := fun e => n9 e.symm
    have n10' : ¬ id = f := fun e => n10 e.symm
    have ltd := (List.getElem?_eq_some_iff.1 hd).1
    have wn := wrap_in ((nD : Int) + 1) (by omega)
    refine adrawB (fun i => decide (i < H.length)) [24, 27] hP (by kernel_rfl) (by kernel_rfl) ?_
    simp -dsimp -implicitDefEqProofs [-getElem?_pos, go_sem, hP, restr_get, ho, lto, ha, lta, hb, ltb, hf, ltf, hd, ltd, lnd, ra, rb, rf, lna, lnb, lnf, lti, ltk, ltj, am, dn, w1, w2, n1, n2, n3, n4, n5, n6, n1', n2', n3', n4', n5', n6', n7, n8, n9, n10, n7', n8', n9', n10']
    refine ⟨by omega, by omega, fin _ H.length (by omega) (by simp; omega) ?_ ?_ ?_ ?_ ?_ ?_ _⟩
    · simp -dsimp -implicitDefEqProofs [-getElem?_pos, go_sem, lto]
    · simp -dsimp -implicitDefEqProofs [-getElem?_pos, go_sem, lta, n1, n1', n8']
    · simp -dsimp -implicitDefEqProofs [-getElem?_pos, go_sem, ltb, n2, n4, n6', n9', hb]
    · simp -dsimp -implicitDefEqProofs [-getElem?_pos, go_sem, ltf, n3, n5, n10']
    · simp -dsimp -implicitDefEqProofs [-getElem?_pos, go_sem]
    · exact KeptC.app (((((KeptC.refl n0 p H).set (.inl nf)).set (.inl na)).set (.inl nd)).set (.inr rfl))
end Go.Proofs.YtgapbmaehfdkoaaGreatDoor
