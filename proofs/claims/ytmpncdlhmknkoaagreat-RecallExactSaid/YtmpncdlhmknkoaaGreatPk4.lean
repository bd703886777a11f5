/- Several texts of this claim, joined: Acc2 Acc3 Acc4 Grown Acc5 Bat1 BatLaw Rec1 Acc6 Acc7. -/
import Derived.Test.YtmpncdlhmknkoaaGreatPk3
set_option linter.unusedSimpArgs false
set_option linter.unusedVariables false
namespace Go.Proofs.YtmpncdlhmknkoaaGreat
open Go.PA
open Go.RowKit
abbrev subsL (l : List TSub) : AV := .list 2 (encL TSub.cells l)
abbrev entsL (l : List TEntry) : AV := .list 6 (encL TEntry.cells l)
theorem imm_subs (l : List TSub) : Imm (subsL l) := imm_encL _ TSub.imm l
theorem imm_ents (l : List TEntry) : Imm (entsL l) := imm_encL _ TEntry.imm l
theorem imm_acc (a : TAccount) : Imm (.agg a.cells) := .agg fun c hc => a.imm c hc
theorem imm_ent (e : TEntry) : Imm (.agg e.cells) := .agg fun c hc => e.imm c hc
theorem valid01_pf (n : Int) : PFun Tryz.prog none none 101 [iv n] (· = bv (vB n)) := by
 refine pfun_intro Tryz.func101 rfl (by simp [Tryz.f101]) (by kernel_rfl) ?_
 intro E hP hr hs hW hN
 by_cases h1 : 0 ≤ n <;> by_cases h2 : n ≤ 1000000000000 <;> simp -dsimp -implicitDefEqProofs [-getElem?_pos, go_sem, hP, h1, h2, vB, amongB]
theorem day23_pf (n : Int) : PFun Tryz.prog none none 99 [iv n] (· = bv (amongB n 0 36000)) := by
 refine pfun_intro Tryz.func99 rfl (by simp [Tryz.f99]) (by kernel_rfl) ?_
 intro E hP hr hs hW hN
 by_cases h1 : 0 ≤ n <;> by_cases h2 : n ≤ 36000 <;> simp -dsimp -implicitDefEqProofs [-getElem?_pos, go_sem, hP, h1, h2, amongB]
theorem at_pf (l : List TSub) (id : Int) (hl : l.length ≤ 100000) : PFun Tryz.prog none none 65 [subsL l, iv id] (· = iv (placeI l id)) := by
 refine pfun_intro Tryz.func65 rfl (by simp [Tryz.f65]) (by kernel_rfl) ?_
 intro E hP hr hs hW hN
 simp -dsimp -implicitDefEqProofs [-getElem?_pos, go_sem, hP]
 obtain ⟨I, hI⟩ : ∃ I : Nat → St → Prop, I = fun m s => ∃ k : Nat, k ≤ l.length ∧ m = l.length - k ∧ placeI l id = idxFrom (fun s => decide (s.ID = id)) k (l.drop k) ∧ s.t 1 = iv id ∧ s.t 7 = subsL l ∧ s.t 8 = iv l.length ∧ s.t 9 = iv k := ⟨_, rfl⟩
 refine aloop0 I (l.length) (by rw [hN]; rfl) ?_ ?_
 ·rw [hI]
  exact ⟨0, by omega, by omega, by simp [placeI, idxI], by simp -dsimp [-getElem?_pos, go_sem], by simp -dsimp [-getElem?_pos, go_sem], by simp -dsimp [-getElem?_pos, go_sem], by simp -dsimp [-getElem?_pos, go_sem]⟩
 intro m s hs'
 rw [hI] at hs'
 obtain ⟨k, hk, hm, hi, t1, t7, t8, t9⟩ := hs'
 simp -dsimp -implicitDefEqProofs [-getElem?_pos, go_sem, hP, t8, t9]
 refine condP (fun h => ?_) (fun h => ?_)
 ·have hk : k < l.length := by simpa using h
  obtain ⟨a, ha⟩ : ∃ a, l[k]? = some a := ⟨_, List.getElem?_eq_getElem hk⟩
  have wk := wrap_in ((k : Int) + 1) (by omega)
  have hd : l.drop k = a :: l.drop (k + 1) := by
   rw [List.getElem?_eq_getElem hk] at ha
   rw [List.drop_eq_getElem_cons hk, Option.some.inj ha]
  rw [hd] at hi
  simp only [idxFrom] at hi
  simp -dsimp -implicitDefEqProofs [-getElem?_pos, go_sem, hP, t9, t7, t1, ha, TSub.cells]
  refine condP (fun hp => ?_) (fun hp => ?_)
  ·rw [if_pos hp] at hi
   simp -dsimp -implicitDefEqProofs [-getElem?_pos, go_sem, hP]
   exact hi.symm
  ·rw [if_neg (by simpa using hp)] at hi
   simp -dsimp -implicitDefEqProofs [-getElem?_pos, go_sem, hP, t9, wk]
   refine ⟨l.length - (k + 1), by omega, ?_⟩
   rw [hI]
   exact ⟨k + 1, by omega, rfl, hi, by simp -dsimp [-getElem?_pos, go_sem, t1], by simp -dsimp [-getElem?_pos, go_sem, t7], by simp -dsimp [-getElem?_pos, go_sem, t8], by simp -dsimp [-getElem?_pos, go_sem]⟩
 ·have hk : k = l.length := by simp at h; omega
  subst hk
  rw [List.drop_length] at hi
  simp -dsimp -implicitDefEqProofs [-getElem?_pos, go_sem, hP]
  exact hi.symm
theorem empty_pf (l : List TSub) (hl : l.length ≤ 100000) : PFun Tryz.prog none none 153 [subsL l] (· = subsL (zeroS l)) := by
 refine pfun_intro Tryz.func153 rfl (by simp [Tryz.f153]) (by kernel_rfl) ?_
 intro E hP hr hs hW hN
 simp -dsimp -implicitDefEqProofs [-getElem?_pos, go_sem, hP]
 refine aloop_own 3 98 2 (by simp -dsimp [-getElem?_pos, go_sem]) ?_
 obtain ⟨I, hI⟩ : ∃ I : Nat → St → Prop, I = fun m s => ∃ k id : Nat, k ≤ l.length ∧ m = l.length - k ∧ s.t 6 = subsL l ∧ s.t 7 = iv l.length ∧ s.t 8 = iv k ∧ s.t 3 = .sref id 0 k ∧ s.H[id]? = some (some ⟨98, 2, encL TSub.cells (zeroS (l.take k))⟩) := ⟨_, rfl⟩
 refine aloopF 3 hW I (l.length) (by rw [hN]; rfl) ?_ ?_
 ·rw [hI]
  exact ⟨0, 0, by omega, by omega, by simp -dsimp [-getElem?_pos, go_sem], by simp -dsimp [-getElem?_pos, go_sem], by simp -dsimp [-getElem?_pos, go_sem], by simp -dsimp [-getElem?_pos, go_sem], by simp -dsimp [-getElem?_pos, go_sem, zeroS]⟩
 intro m s hs'
 rw [hI] at hs'
 obtain ⟨k, id, hk, hm, t6, t7, t8, t3, hH⟩ := hs'
 have hlt := (gsI hH)
 simp -dsimp -implicitDefEqProofs [-getElem?_pos, go_sem, hP, t7, t8]
 refine condP (fun h => ?_) (fun h => ?_)
 ·have hk : k < l.length := by simpa using h
  obtain ⟨a, ha⟩ : ∃ a, l[k]? = some a := ⟨_, List.getElem?_eq_getElem hk⟩
  have wk := wrap_in ((k : Int) + 1) (by omega)
  have e1 : l.take (k + 1) = l.take k ++ [a] := by rw [List.take_add_one, ha]; rfl
  have hz : (zeroS (l.take k)).length = k := by rw [zeroS_len]; simp; omega
  have e2 := encL_take TSub.cells (zeroS (l.take k)) k hz.symm
  simp -dsimp -implicitDefEqProofs [-getElem?_pos, go_sem, hP, t8, t6, ha, TSub.cells, t3, hH, hlt, e2, hz, wk]
  refine ⟨by omega, by omega, l.length - (k + 1), by omega, ?_⟩
  rw [hI]
  refine ⟨k + 1, s.H.length + 1, by omega, rfl, by simp -dsimp [-getElem?_pos, go_sem, t6], by simp -dsimp [-getElem?_pos, go_sem, t7], by simp -dsimp [-getElem?_pos, go_sem], by simp -dsimp [-getElem?_pos, go_sem], ?_⟩
  simp -dsimp -implicitDefEqProofs [-getElem?_pos, go_sem, e1, zeroS, encL, TSub.cells]
 ·have hk : k = l.length := by simp at h; omega
  subst hk
  rw [List.take_length] at hH
  simp -dsimp -implicitDefEqProofs [-getElem?_pos, go_sem, hP]
  refine frz id l.length 98 2 (encL TSub.cells (zeroS l)) (by simp -dsimp [-getElem?_pos, go_sem, t3]) (by simp -dsimp [-getElem?_pos, go_sem, hH]) (by simp [encL, zeroS]) (imm_subs _) ?_
  simp -dsimp -implicitDefEqProofs [-getElem?_pos, go_sem, hP]
  exact done_imm (imm_subs _) rfl
def addR (credit : Int) (l : List TSub) (last e : TEntry) : List TSub × Int := if (postS credit last.Number last.Day l e).1 = 0 then ((postS credit last.Number last.Day l e).2, 0) else ([], (postS credit last.Number last.Day l e).1)
theorem okSub_iff (credit : Int) (s : TSub) : okSub credit s = true ↔ (if s.ID = 1 then -credit else 0) ≤ s.Balance ∧ s.Balance ≤ 1000000000000000 := by simp [okSub]
theorem placeI_of {l : List TSub} (hn : (ids l).Nodup) {i : Nat} {a : TSub} (hi : l[i]? = some a) : placeI l a.ID = (i : Int) := by
 rcases placeI_spec l a.ID with ⟨_, h2⟩ | ⟨j, b, h1, h2, h3, _⟩
 ·exact absurd (List.mem_map.2 ⟨a, List.mem_of_getElem? hi, rfl⟩) h2
 ·rw [h3, nodup_get hn hi h1 h2.symm]
set_option maxHeartbeats 1000000 in
theorem add_pf (credit : Int) (l : List TSub) (last e : TEntry) (hl : l.length ≤ 100000) (hc : 0 ≤ credit ∧ credit ≤ 1000000000000) (hn : (ids l).Nodup) (h0 : 0 ∉ ids l) (hok : okAll credit l = true) (hln : -1000000000 ≤ last.Number ∧ last.Number ≤ 1000000000) (hld : 0 ≤ last.Day) :
  PFun Tryz.prog none none 102 [iv credit, subsL l, .agg last.cells, .agg e.cells] (· = .tup [subsL (addR credit l last e).1, iv (addR credit l last e).2]) := by
 refine pfun_intro Tryz.func102 rfl (by simp [Tryz.f102]) (by kernel_rfl) ?_
 intro E hP hr hs hW hN
 have w1 := wrap_in (last.Number + 1) (by omega)
 have fin : ∀ (n : Int) (H : Heap) (b), ¬ n = 0 → (postS credit last.Number last.Day l e).1 = n → Done H (.tup [.nil, iv n]) (· = .tup [subsL (addR credit l last e).1, iv (addR credit l last e).2]) b := fun n H b hn0 hp => by
  refine done_nil2 2 ?_
  unfold addR
  rw [if_neg (by rw [hp]; exact hn0), hp]
  simp [encL]
 by_cases h1 : e.Number = last.Number + 1
 rotate_left
 ·have h1' : badNum last.Number e = true := by simpa [badNum] using h1
  simp -dsimp -implicitDefEqProofs [-getElem?_pos, go_sem, hP, TEntry.cells, w1, h1]
  exact fin 65 _ _ (by omega) (by rw [postS, if_pos h1'])
 have h1' : ¬ badNum last.Number e = true := by simpa [badNum] using h1
 by_cases h2 : e.Day < last.Day
 ·have h2' : badDay last.Day e = true := by simp [badDay, amongB]; omega
  simp -dsimp -implicitDefEqProofs [-getElem?_pos, go_sem, hP, TEntry.cells, w1, h1, h2]
  exact fin 8 _ _ (by omega) (by rw [postS, if_neg h1', if_pos h2'])
 simp -dsimp -implicitDefEqProofs [-getElem?_pos, go_sem, hP, TEntry.cells, w1, h1, h2]
 refine callB_pure (day23_pf e.Day) hP en_99 (args_same (by simp -dsimp [-getElem?_pos, go_sem])) .sc ?_
 by_cases h3 : amongB e.Day 0 36000 = true
 rotate_left
 ·have h2' : badDay last.Day e = true := by simp [amongB] at h3; simp [badDay, amongB]; omega
  simp -dsimp -implicitDefEqProofs [-getElem?_pos, go_sem, hP, h3]
  exact fin 8 _ _ (by omega) (by rw [postS, if_neg h1', if_pos h2'])
 have h2' : ¬ badDay last.Day e = true := by simp [amongB] at h3; simp [badDay, amongB]; omega
 simp -dsimp -implicitDefEqProofs [-getElem?_pos, go_sem, hP, h3]
 refine callB_pure (valid01_pf e.Amount) hP en_101 (args_same (by simp -dsimp [-getElem?_pos, go_sem])) .sc ?_
 have b3 : badAmt e = true ↔ ¬ (vB e.Amount = true ∧ ¬ e.Amount = 0 ∧ ¬ e.Ref < 0 ∧ ¬ 1000000 < e.Ref) := by
  simp [badAmt, vB, amongB]
  omega
 by_cases h4 : badAmt e = true
 ·have f4 : ∀ (H : Heap) (b), Done H (.tup [.nil, iv 2]) (· = .tup [subsL (addR credit l last e).1, iv (addR credit l last e).2]) b := fun H b => fin 2 _ _ (by omega) (by rw [postS, if_neg h1', if_neg h2', if_pos h4])
  by_cases a1 : vB e.Amount = true
  rotate_left
  ·simp -dsimp -implicitDefEqProofs [-getElem?_pos, go_sem, hP, a1]
   exact f4 _ _
  by_cases a2 : e.Amount = 0
  ·have d2 : decide (e.Amount = 0) = true := by simpa using a2
   simp -dsimp -implicitDefEqProofs [-getElem?_pos, go_sem, hP, a1, d2]
   exact f4 _ _
  by_cases a3 : e.Ref < 0
  ·simp -dsimp -implicitDefEqProofs [-getElem?_pos, go_sem, hP, a1, a2, a3]
   exact f4 _ _
  by_cases a4 : 1000000 < e.Ref
  ·simp -dsimp -implicitDefEqProofs [-getElem?_pos, go_sem, hP, a1, a2, a3, a4]
   exact f4 _ _
  ·exact absurd ⟨a1, a2, a3, a4⟩ (b3.1 h4)
 have h4' := h4
 rw [b3, Classical.not_not] at h4'
 have a1 := h4'.1
 have a2 := h4'.2.1
 have a3 := h4'.2.2.1
 have a4 := h4'.2.2.2
 clear h4'
 simp -dsimp -implicitDefEqProofs [-getElem?_pos, go_sem, hP, a1, a2, a3, a4]
 have b5 : badSub l e = true ↔ ¬ (¬ e.From = e.To ∧ (e.From = 0 ∨ 0 ≤ placeI l e.From) ∧ (e.To = 0 ∨ 0 ≤ placeI l e.To)) := by
  simp [badSub, knownB]
  grind
 by_cases a5 : e.From = e.To
 ·have h5 : badSub l e = true := b5.2 fun h => h.1 a5
  have d5 : decide (e.From = e.To) = true := by simpa using a5
  simp -dsimp -implicitDefEqProofs [-getElem?_pos, go_sem, hP, d5]
  exact fin 60 _ _ (by omega) (by rw [postS, if_neg h1', if_neg h2', if_neg h4, if_pos h5])
 have f5 : ∀ (H : Heap) (b), badSub l e = true → Done H (.tup [.nil, iv 60]) (· = .tup [subsL (addR credit l last e).1, iv (addR credit l last e).2]) b := fun H b h5 => fin 60 _ _ (by omega) (by rw [postS, if_neg h1', if_neg h2', if_neg h4, if_pos h5])
 have iS := imm_subs l
 have two : ∀ (From : Int), From = 0 ∧ placeI l From = -1 ∨ ¬ From = 0 ∧ placeI l From = -1 ∨ ∃ (i : Nat) (a : TSub), ¬ From = 0 ∧ l[i]? = some a ∧ a.ID = From ∧ placeI l From = (i : Int) := fun From => by
  rcases placeI_spec l From with ⟨p1, p2⟩ | ⟨i, a, p1, p2, p3, p4⟩
  ·by_cases hz : From = 0
   ·exact .inl ⟨hz, p1⟩
   ·exact .inr (.inl ⟨hz, p1⟩)
  ·exact .inr (.inr ⟨i, a, fun hz => h0 (hz ▸ p4), p1, p2, p3⟩)
 have e0 := encL_take TSub.cells l l.length rfl
 have pS : postS credit last.Number last.Day l e = if badSub l e = true then (60, l) else if okAt credit (adj l e.From (-e.Amount)) e.From = false then (61, adj l e.From (-e.Amount)) else
   if okAt credit (adj (adj l e.From (-e.Amount)) e.To e.Amount) e.To = false then (61, adj (adj l e.From (-e.Amount)) e.To e.Amount) else (0, adj (adj l e.From (-e.Amount)) e.To e.Amount) := by
  rw [postS, if_neg h1', if_neg h2', if_neg h4]
 have okR : ∀ L, postS credit last.Number last.Day l e = (0, L) → addR credit l last e = (L, 0) := fun L h => by unfold addR; rw [h]; rfl
 have hamt : 0 ≤ e.Amount ∧ e.Amount ≤ 1000000000000 := by simpa [vB, amongB] using a1
 have okg : ∀ (i : Nat) (a : TSub), l[i]? = some a → okSub credit a = true := fun i a hi => List.all_eq_true.1 hok a (List.mem_of_getElem? hi)
 have bnd : ∀ (i : Nat) (a : TSub), l[i]? = some a → -1000000000000 ≤ a.Balance ∧ a.Balance ≤ 1000000000000000 := fun i a hi => by
  have := (okSub_iff _ _).1 (okg i a hi)
  split at this <;> omega
 have wneg := wrap_in (0 - credit) (by omega)
 rw [Int.zero_sub] at wneg
 rcases two e.From with ⟨z1, p1⟩ | ⟨z1, p1⟩ | ⟨i, a, z1, i1, ea, p1⟩
 ·have d1 : decide (e.From = 0) = true := by simpa using z1
  have nf : adj l e.From (-e.Amount) = l := adj_none (z1 ▸ h0)
  have of : okAt credit l e.From = true := okAt_none (z1 ▸ h0)
  rcases two e.To with ⟨z2, p2⟩ | ⟨z2, p2⟩ | ⟨j, b, z2, jL, eb, p2⟩
  ·exact absurd (z1.trans z2.symm) a5
  ·have h5 : badSub l e = true := b5.2 fun h => by have := h.2.2; omega
   simp -dsimp -implicitDefEqProofs [-getElem?_pos, go_sem, hP, a5, d1, z2]
   refine callB_pure (at_pf l e.To hl) hP en_65 (args_imm iS (args_imm .sc (args_nil.2 trivial))) .sc ?_
   simp -dsimp -implicitDefEqProofs [-getElem?_pos, go_sem, hP, a5, d1, z2, p2]
   exact f5 _ _ h5
  ·have h5 : badSub l e = false := by simpa using fun h => b5.1 h ⟨a5, .inl z1, .inr (by omega)⟩
   have ok1 : (if badSub l e = true then ((60 : Int), l) else if okAt credit (adj l e.From (-e.Amount)) e.From = false then (61, adj l e.From (-e.Amount)) else
     if okAt credit (adj (adj l e.From (-e.Amount)) e.To e.Amount) e.To = false then (61, adj (adj l e.From (-e.Amount)) e.To e.Amount) else (0, adj (adj l e.From (-e.Amount)) e.To e.Amount)) =
     if okAt credit (adj l e.To e.Amount) e.To = false then (61, adj l e.To e.Amount) else (0, adj l e.To e.Amount) := by
    rw [nf, of, h5]; simp
   have okb := okg j b jL
   have hb := bnd j b jL
   have wb := wrap_in (b.Balance + e.Amount) (by omega)
   have nL := hn
   have q2 := p2
   simp -dsimp -implicitDefEqProofs [-getElem?_pos, go_sem, hP, a5, d1, z2]
   refine callB_pure (at_pf l e.To hl) hP en_65 (args_imm iS (args_imm .sc (args_nil.2 trivial))) .sc ?_
   have d2 : decide ((j : Int) < 0) = false := by simp
   simp -dsimp -implicitDefEqProofs [-getElem?_pos, go_sem, hP, a5, d1, z2, p2, d2]
   refine ⟨by omega, by omega, ?_⟩
   refine callB_pure (at_pf l e.From (by (try simp only [adj_len]); omega)) hP en_65 (args_sref rfl (by simp [encL, adj]) (imm_subs _) (args_imm .sc (args_nil.2 trivial))) .sc ?_
   simp -dsimp -implicitDefEqProofs [-getElem?_pos, go_sem, hP, p1]
   have hj : j < l.length := (gsI jL)
   have hjl : j < l.length := by (try simp only [adj_len] at hj); omega
   refine callB_pure (at_pf l e.To (by (try simp only [adj_len]); omega)) hP en_65 (args_sref rfl (by simp [encL, adj]) (imm_subs _) (args_imm .sc (args_nil.2 trivial))) .sc ?_
   simp -dsimp -implicitDefEqProofs [-getElem?_pos, go_sem, hP, q2]
   refine adrawB (fun _ => true) [10] hP (by kernel_rfl) (by kernel_rfl) ?_
   have set2 : (encL TSub.cells l).set j [iv b.ID, iv (b.Balance + e.Amount)] = encL TSub.cells (adj l e.To e.Amount) := by
    rw [← eb, ← set_adj nL jL, ← encL_set]
    rfl
   have g2 : (adj l e.To e.Amount)[j]? = some ⟨b.ID, b.Balance + e.Amount⟩ := by rw [adj_get, jL, ← eb]; simp
   have len2 : (adj l e.To e.Amount).length = l.length := by simp [adj_len]
   have o2 : okAt credit (adj l e.To e.Amount) e.To = okSub credit ⟨b.ID, b.Balance + e.Amount⟩ := by
    rw [← eb] at g2 ⊢
    exact okAt_get (by rw [adj_ids]; exact nL) g2
   have lt2 : (j : Int) < (l.length : Int) := by omega
   simp -dsimp -implicitDefEqProofs [-getElem?_pos, go_sem, hP, adj_len, jL, TSub.cells, hjl, lt2, wb, set2, g2]
   by_cases c4 : 1000000000000000 < b.Balance + e.Amount
   ·have o2' : okAt credit (adj l e.To e.Amount) e.To = false := by rw [o2]; simp [okSub]; omega
    simp -dsimp -implicitDefEqProofs [-getElem?_pos, go_sem, hP, adj_len, g2, TSub.cells, hjl, lt2, c4]
    exact fin 61 _ _ (by omega) (by rw [pS, ok1]; simp [nf, z1, o2'])
   ·have o2' : okAt credit (adj l e.To e.Amount) e.To = true := by
     rw [o2]
     have := (okSub_iff _ _).1 okb
     rw [okSub_iff]
     dsimp only
     omega
    simp -dsimp -implicitDefEqProofs [-getElem?_pos, go_sem, hP, adj_len, g2, TSub.cells, hjl, lt2, c4]
    have e2 := encL_take TSub.cells (adj l e.To e.Amount) l.length (by simp [adj_len])
    refine done (x := .tup [subsL (adj l e.To e.Amount), iv 0]) ?_ ?_ ?_
    ·simp -dsimp -implicitDefEqProofs [-getElem?_pos, go_sem, e2]
     exact imm_list.1 (imm_subs _)
    ·rw [okR (adj l e.To e.Amount) (by rw [pS, ok1]; simp [nf, z1, o2'])]
    ·simp -dsimp -implicitDefEqProofs [-getElem?_pos, go_sem, e2]
 ·have h5 : badSub l e = true := b5.2 fun h => by have := h.2.1; omega
  simp -dsimp -implicitDefEqProofs [-getElem?_pos, go_sem, hP, a5, z1]
  refine callB_pure (at_pf l e.From hl) hP en_65 (args_imm iS (args_imm .sc (args_nil.2 trivial))) .sc ?_
  simp -dsimp -implicitDefEqProofs [-getElem?_pos, go_sem, hP, a5, z1, p1]
  exact f5 _ _ h5
 ·have d2 : decide ((i : Int) < 0) = false := by simp
  simp -dsimp -implicitDefEqProofs [-getElem?_pos, go_sem, hP, a5, z1]
  refine callB_pure (at_pf l e.From hl) hP en_65 (args_imm iS (args_imm .sc (args_nil.2 trivial))) .sc ?_
  simp -dsimp -implicitDefEqProofs [-getElem?_pos, go_sem, hP, a5, z1, p1, d2]
  have hi : i < l.length := (gsI i1)
  have hia := bnd i a i1
  have oka := (okSub_iff _ _).1 (okg i a i1)
  have wa := wrap_in (a.Balance - e.Amount) (by omega)
  have set1 : (encL TSub.cells l).set i [iv a.ID, iv (a.Balance - e.Amount)] = encL TSub.cells (adj l e.From (-e.Amount)) := by
   rw [← ea, ← set_adj hn i1, ← encL_set]
   rfl
  have g1 : (adj l e.From (-e.Amount))[i]? = some ⟨a.ID, a.Balance - e.Amount⟩ := by rw [adj_get, i1, ← ea]; simp; omega
  have nL1 : (ids (adj l e.From (-e.Amount))).Nodup := by rw [adj_ids]; exact hn
  have o1 : okAt credit (adj l e.From (-e.Amount)) e.From = okSub credit ⟨a.ID, a.Balance - e.Amount⟩ := by
   rw [← ea] at g1 nL1 ⊢
   exact okAt_get nL1 g1
  have e1 := encL_take TSub.cells (adj l e.From (-e.Amount)) l.length (by simp [adj_len])
  have len1 : (adj l e.From (-e.Amount)).length = l.length := by simp [adj_len]
  have lt1 : (i : Int) < (l.length : Int) := by omega
  have stepF : badSub l e = false → ∀ (P : Prop), (okSub credit ⟨a.ID, a.Balance - e.Amount⟩ = false → P) → (okSub credit ⟨a.ID, a.Balance - e.Amount⟩ = true → P) → P := fun _ P h k => by
   cases hh : okSub credit ⟨a.ID, a.Balance - e.Amount⟩
   ·exact h hh
   ·exact k hh
  rcases two e.To with ⟨z2, p2⟩ | ⟨z2, p2⟩ | ⟨j, b, z2, j1, eb, p2⟩
  rotate_left
  ·have h5 : badSub l e = true := b5.2 fun h => by have := h.2.2; omega
   simp -dsimp -implicitDefEqProofs [-getElem?_pos, go_sem, hP, a5, z1, z2, p1, d2]
   refine callB_pure (at_pf l e.To hl) hP en_65 (args_imm iS (args_imm .sc (args_nil.2 trivial))) .sc ?_
   simp -dsimp -implicitDefEqProofs [-getElem?_pos, go_sem, hP, a5, z1, z2, p1, p2, d2]
   exact f5 _ _ h5
  ·have h5 : badSub l e = false := by simpa using fun h => b5.1 h ⟨a5, .inr (by omega), .inr (by omega)⟩
   have d4 : decide ((j : Int) < 0) = false := by simp
   have okb := okg j b j1
   have hb := bnd j b j1
   have wb := wrap_in (b.Balance + e.Amount) (by omega)
   have q2 : placeI (adj l e.From (-e.Amount)) e.To = (j : Int) := by
    have hne : ¬ b.ID = e.From := fun h => a5 (h.symm.trans eb)
    have : (adj l e.From (-e.Amount))[j]? = some b := by rw [adj_get, j1]; simp [hne]
    rw [← eb]
    exact placeI_of nL1 this
   simp -dsimp -implicitDefEqProofs [-getElem?_pos, go_sem, hP, a5, z1, z2, p1, d2]
   refine callB_pure (at_pf l e.To hl) hP en_65 (args_imm iS (args_imm .sc (args_nil.2 trivial))) .sc ?_
   simp -dsimp -implicitDefEqProofs [-getElem?_pos, go_sem, hP, a5, z1, z2, p1, p2, d2, d4]
   refine ⟨by omega, by omega, ?_⟩
   refine callB_pure (at_pf l e.From (by (try simp only [adj_len]); omega)) hP en_65 (args_sref rfl (by simp [encL, adj]) (imm_subs _) (args_imm .sc (args_nil.2 trivial))) .sc ?_
   simp -dsimp -implicitDefEqProofs [-getElem?_pos, go_sem, hP, p1]
   refine adrawB (fun _ => true) [10] hP (by kernel_rfl) (by kernel_rfl) ?_
   simp -dsimp -implicitDefEqProofs [-getElem?_pos, go_sem, hP, adj_len, i1, TSub.cells, hi, lt1, wa, set1, g1]
   have nok : okSub credit ⟨a.ID, a.Balance - e.Amount⟩ = false ↔ (a.Balance - e.Amount < 0 ∧ (¬ a.ID = 1 ∨ a.Balance - e.Amount < -credit)) := by
    rw [← Bool.not_eq_true, okSub_iff]
    dsimp only
    by_cases hid : a.ID = 1
    ·rw [if_pos hid]; omega
    ·rw [if_neg hid]; simp [hid]; omega
   by_cases hno : okSub credit ⟨a.ID, a.Balance - e.Amount⟩ = false
   ·have r61 : ∀ (H : Heap) (b), Done H (.tup [.nil, iv 61]) (· = .tup [subsL (addR credit l last e).1, iv (addR credit l last e).2]) b := fun H b => fin 61 _ _ (by omega) (by rw [pS, h5, o1, hno]; simp)
    obtain ⟨c1, c2⟩ := nok.1 hno
    by_cases c3 : a.ID = 1
    ·have c4 : a.Balance - e.Amount < -credit := c2.resolve_left (fun h => h c3)
     have d3 : decide (a.ID = 1) = true := by simpa using c3
     simp -dsimp -implicitDefEqProofs [-getElem?_pos, go_sem, hP, adj_len, g1, TSub.cells, hi, lt1, c1, d3, c4, wneg]
     exact r61 _ _
    ·simp -dsimp -implicitDefEqProofs [-getElem?_pos, go_sem, hP, adj_len, g1, TSub.cells, hi, lt1, c1, c3]
     exact r61 _ _
   have hyes : okSub credit ⟨a.ID, a.Balance - e.Amount⟩ = true := by simpa using hno
   have f1 : okAt credit (adj l e.From (-e.Amount)) e.From = true := by rw [o1, hyes]
   have ok1 : (if badSub l e = true then ((60 : Int), l) else if okAt credit (adj l e.From (-e.Amount)) e.From = false then (61, adj l e.From (-e.Amount)) else
     if okAt credit (adj (adj l e.From (-e.Amount)) e.To e.Amount) e.To = false then (61, adj (adj l e.From (-e.Amount)) e.To e.Amount) else (0, adj (adj l e.From (-e.Amount)) e.To e.Amount)) =
     if okAt credit (adj (adj l e.From (-e.Amount)) e.To e.Amount) e.To = false then (61, adj (adj l e.From (-e.Amount)) e.To e.Amount) else (0, adj (adj l e.From (-e.Amount)) e.To e.Amount) := by
    rw [f1, h5]; simp
   have go : ∀ {p : Prop}, (a.Balance - e.Amount < 0 → a.ID = 1 → ¬ a.Balance - e.Amount < -credit → p) → (¬ a.Balance - e.Amount < 0 → p) → p := fun h k => by
    by_cases c1 : a.Balance - e.Amount < 0
    ·have c3 : a.ID = 1 := Classical.byContradiction fun h3 => hno (nok.2 ⟨c1, .inl h3⟩)
     exact h c1 c3 fun h4 => hno (nok.2 ⟨c1, .inr h4⟩)
    ·exact k c1
   refine go (fun c1 c3 c4 => ?_) (fun c1 => ?_)
   ·have d3 : decide (a.ID = 1) = true := by simpa using c3
    simp -dsimp -implicitDefEqProofs [-getElem?_pos, go_sem, hP, adj_len, g1, TSub.cells, hi, lt1, c1, d3, c4, wneg]
    have hj : j < l.length := (gsI j1)
    have hne : ¬ b.ID = e.From := fun h => a5 (h.symm.trans eb)
    have jL : (adj l e.From (-e.Amount))[j]? = some b := by rw [adj_get, j1]; simp [hne]
    refine callB_pure (at_pf (adj l e.From (-e.Amount)) e.To (by (try simp only [adj_len]); omega)) hP en_65 (args_sref rfl (by simp [encL, adj]) (imm_subs _) (args_imm .sc (args_nil.2 trivial))) .sc ?_
    simp -dsimp -implicitDefEqProofs [-getElem?_pos, go_sem, hP, q2]
    refine adrawB (fun _ => true) [10] hP (by kernel_rfl) (by kernel_rfl) ?_
    have set2 : (encL TSub.cells (adj l e.From (-e.Amount))).set j [iv b.ID, iv (b.Balance + e.Amount)] = encL TSub.cells (adj (adj l e.From (-e.Amount)) e.To e.Amount) := by
     rw [← eb, ← set_adj nL1 jL, ← encL_set]
     rfl
    have g2 : (adj (adj l e.From (-e.Amount)) e.To e.Amount)[j]? = some ⟨b.ID, b.Balance + e.Amount⟩ := by rw [adj_get, jL, ← eb]; simp
    have o2 : okAt credit (adj (adj l e.From (-e.Amount)) e.To e.Amount) e.To = okSub credit ⟨b.ID, b.Balance + e.Amount⟩ := by
     rw [← eb] at g2 ⊢
     exact okAt_get (by rw [adj_ids]; exact nL1) g2
    have lt2 : (j : Int) < (l.length : Int) := by omega
    simp -dsimp -implicitDefEqProofs [-getElem?_pos, go_sem, hP, adj_len, jL, TSub.cells, hj, lt2, wb, set2, g2]
    by_cases c4 : 1000000000000000 < b.Balance + e.Amount
    ·have o2' : okAt credit (adj (adj l e.From (-e.Amount)) e.To e.Amount) e.To = false := by rw [o2]; simp [okSub]; omega
     simp -dsimp -implicitDefEqProofs [-getElem?_pos, go_sem, hP, adj_len, g2, TSub.cells, hj, lt2, c4]
     exact fin 61 _ _ (by omega) (by rw [pS, ok1]; simp [o2'])
    ·have o2' : okAt credit (adj (adj l e.From (-e.Amount)) e.To e.Amount) e.To = true := by
      rw [o2]
      have := (okSub_iff _ _).1 okb
      rw [okSub_iff]
      dsimp only
      omega
     simp -dsimp -implicitDefEqProofs [-getElem?_pos, go_sem, hP, adj_len, g2, TSub.cells, hj, lt2, c4]
     have e2 := encL_take TSub.cells (adj (adj l e.From (-e.Amount)) e.To e.Amount) l.length (by simp [adj_len])
     refine done (x := .tup [subsL (adj (adj l e.From (-e.Amount)) e.To e.Amount), iv 0]) ?_ ?_ ?_
     ·simp -dsimp -implicitDefEqProofs [-getElem?_pos, go_sem, e2]
      exact imm_list.1 (imm_subs _)
     ·rw [okR (adj (adj l e.From (-e.Amount)) e.To e.Amount) (by rw [pS, ok1]; simp [o2'])]
     ·simp -dsimp -implicitDefEqProofs [-getElem?_pos, go_sem, e2]
   ·simp -dsimp -implicitDefEqProofs [-getElem?_pos, go_sem, hP, adj_len, g1, TSub.cells, hi, lt1, c1]
    have hj : j < l.length := (gsI j1)
    have hne : ¬ b.ID = e.From := fun h => a5 (h.symm.trans eb)
    have jL : (adj l e.From (-e.Amount))[j]? = some b := by rw [adj_get, j1]; simp [hne]
    refine callB_pure (at_pf (adj l e.From (-e.Amount)) e.To (by (try simp only [adj_len]); omega)) hP en_65 (args_sref rfl (by simp [encL, adj]) (imm_subs _) (args_imm .sc (args_nil.2 trivial))) .sc ?_
    simp -dsimp -implicitDefEqProofs [-getElem?_pos, go_sem, hP, q2]
    refine adrawB (fun _ => true) [10] hP (by kernel_rfl) (by kernel_rfl) ?_
    have set2 : (encL TSub.cells (adj l e.From (-e.Amount))).set j [iv b.ID, iv (b.Balance + e.Amount)] = encL TSub.cells (adj (adj l e.From (-e.Amount)) e.To e.Amount) := by
     rw [← eb, ← set_adj nL1 jL, ← encL_set]
     rfl
    have g2 : (adj (adj l e.From (-e.Amount)) e.To e.Amount)[j]? = some ⟨b.ID, b.Balance + e.Amount⟩ := by rw [adj_get, jL, ← eb]; simp
    have o2 : okAt credit (adj (adj l e.From (-e.Amount)) e.To e.Amount) e.To = okSub credit ⟨b.ID, b.Balance + e.Amount⟩ := by
     rw [← eb] at g2 ⊢
     exact okAt_get (by rw [adj_ids]; exact nL1) g2
    have lt2 : (j : Int) < (l.length : Int) := by omega
    simp -dsimp -implicitDefEqProofs [-getElem?_pos, go_sem, hP, adj_len, jL, TSub.cells, hj, lt2, wb, set2, g2]
    by_cases c4 : 1000000000000000 < b.Balance + e.Amount
    ·have o2' : okAt credit (adj (adj l e.From (-e.Amount)) e.To e.Amount) e.To = false := by rw [o2]; simp [okSub]; omega
     simp -dsimp -implicitDefEqProofs [-getElem?_pos, go_sem, hP, adj_len, g2, TSub.cells, hj, lt2, c4]
     exact fin 61 _ _ (by omega) (by rw [pS, ok1]; simp [o2'])
    ·have o2' : okAt credit (adj (adj l e.From (-e.Amount)) e.To e.Amount) e.To = true := by
      rw [o2]
      have := (okSub_iff _ _).1 okb
      rw [okSub_iff]
      dsimp only
      omega
     simp -dsimp -implicitDefEqProofs [-getElem?_pos, go_sem, hP, adj_len, g2, TSub.cells, hj, lt2, c4]
     have e2 := encL_take TSub.cells (adj (adj l e.From (-e.Amount)) e.To e.Amount) l.length (by simp [adj_len])
     refine done (x := .tup [subsL (adj (adj l e.From (-e.Amount)) e.To e.Amount), iv 0]) ?_ ?_ ?_
     ·simp -dsimp -implicitDefEqProofs [-getElem?_pos, go_sem, e2]
      exact imm_list.1 (imm_subs _)
     ·rw [okR (adj (adj l e.From (-e.Amount)) e.To e.Amount) (by rw [pS, ok1]; simp [o2'])]
     ·simp -dsimp -implicitDefEqProofs [-getElem?_pos, go_sem, e2]
  ·have h5 : badSub l e = false := by simpa using fun h => b5.1 h ⟨a5, .inr (by omega), .inl z2⟩
   have d5 : decide (e.To = 0) = true := by simpa using z2
   have q2 : placeI (adj l e.From (-e.Amount)) e.To = -1 := by
    rcases placeI_spec (adj l e.From (-e.Amount)) e.To with ⟨h, _⟩ | ⟨_, _, _, _, _, h⟩
    ·exact h
    ·rw [adj_ids, z2] at h; exact absurd h h0
   simp -dsimp -implicitDefEqProofs [-getElem?_pos, go_sem, hP, a5, z1, p1, d2, d5]
   refine ⟨by omega, by omega, ?_⟩
   refine callB_pure (at_pf l e.From (by (try simp only [adj_len]); omega)) hP en_65 (args_sref rfl (by simp [encL, adj]) (imm_subs _) (args_imm .sc (args_nil.2 trivial))) .sc ?_
   simp -dsimp -implicitDefEqProofs [-getElem?_pos, go_sem, hP, p1]
   refine adrawB (fun _ => true) [10] hP (by kernel_rfl) (by kernel_rfl) ?_
   simp -dsimp -implicitDefEqProofs [-getElem?_pos, go_sem, hP, adj_len, i1, TSub.cells, hi, lt1, wa, set1, g1]
   have nok : okSub credit ⟨a.ID, a.Balance - e.Amount⟩ = false ↔ (a.Balance - e.Amount < 0 ∧ (¬ a.ID = 1 ∨ a.Balance - e.Amount < -credit)) := by
    rw [← Bool.not_eq_true, okSub_iff]
    dsimp only
    by_cases hid : a.ID = 1
    ·rw [if_pos hid]; omega
    ·rw [if_neg hid]; simp [hid]; omega
   by_cases hno : okSub credit ⟨a.ID, a.Balance - e.Amount⟩ = false
   ·have r61 : ∀ (H : Heap) (b), Done H (.tup [.nil, iv 61]) (· = .tup [subsL (addR credit l last e).1, iv (addR credit l last e).2]) b := fun H b => fin 61 _ _ (by omega) (by rw [pS, h5, o1, hno]; simp)
    obtain ⟨c1, c2⟩ := nok.1 hno
    by_cases c3 : a.ID = 1
    ·have c4 : a.Balance - e.Amount < -credit := c2.resolve_left (fun h => h c3)
     have d3 : decide (a.ID = 1) = true := by simpa using c3
     simp -dsimp -implicitDefEqProofs [-getElem?_pos, go_sem, hP, adj_len, g1, TSub.cells, hi, lt1, c1, d3, c4, wneg]
     exact r61 _ _
    ·simp -dsimp -implicitDefEqProofs [-getElem?_pos, go_sem, hP, adj_len, g1, TSub.cells, hi, lt1, c1, c3]
     exact r61 _ _
   have hyes : okSub credit ⟨a.ID, a.Balance - e.Amount⟩ = true := by simpa using hno
   have f1 : okAt credit (adj l e.From (-e.Amount)) e.From = true := by rw [o1, hyes]
   have ok1 : (if badSub l e = true then ((60 : Int), l) else if okAt credit (adj l e.From (-e.Amount)) e.From = false then (61, adj l e.From (-e.Amount)) else
     if okAt credit (adj (adj l e.From (-e.Amount)) e.To e.Amount) e.To = false then (61, adj (adj l e.From (-e.Amount)) e.To e.Amount) else (0, adj (adj l e.From (-e.Amount)) e.To e.Amount)) =
     if okAt credit (adj (adj l e.From (-e.Amount)) e.To e.Amount) e.To = false then (61, adj (adj l e.From (-e.Amount)) e.To e.Amount) else (0, adj (adj l e.From (-e.Amount)) e.To e.Amount) := by
    rw [f1, h5]; simp
   have go : ∀ {p : Prop}, (a.Balance - e.Amount < 0 → a.ID = 1 → ¬ a.Balance - e.Amount < -credit → p) → (¬ a.Balance - e.Amount < 0 → p) → p := fun h k => by
    by_cases c1 : a.Balance - e.Amount < 0
    ·have c3 : a.ID = 1 := Classical.byContradiction fun h3 => hno (nok.2 ⟨c1, .inl h3⟩)
     exact h c1 c3 fun h4 => hno (nok.2 ⟨c1, .inr h4⟩)
    ·exact k c1
   refine go (fun c1 c3 c4 => ?_) (fun c1 => ?_)
   ·have d3 : decide (a.ID = 1) = true := by simpa using c3
    simp -dsimp -implicitDefEqProofs [-getElem?_pos, go_sem, hP, adj_len, g1, TSub.cells, hi, lt1, c1, d3, c4, wneg]
    refine callB_pure (at_pf (adj l e.From (-e.Amount)) e.To (by (try simp only [adj_len]); omega)) hP en_65 (args_sref rfl (by simp [encL, adj]) (imm_subs _) (args_imm .sc (args_nil.2 trivial))) .sc ?_
    simp -dsimp -implicitDefEqProofs [-getElem?_pos, go_sem, hP, q2]
    refine done (x := .tup [subsL (adj l e.From (-e.Amount)), iv 0]) ?_ ?_ ?_
    ·simp -dsimp -implicitDefEqProofs [-getElem?_pos, go_sem, e1]
     exact imm_list.1 (imm_subs _)
    ·have nt : adj (adj l e.From (-e.Amount)) e.To e.Amount = (adj l e.From (-e.Amount)) := adj_none (by rw [adj_ids, z2]; exact h0)
     have ot : okAt credit (adj l e.From (-e.Amount)) e.To = true := okAt_none (by rw [adj_ids, z2]; exact h0)
     rw [okR (adj l e.From (-e.Amount)) (by rw [pS, ok1, nt, ot]; simp)]
    ·simp -dsimp -implicitDefEqProofs [-getElem?_pos, go_sem, e1]
   ·simp -dsimp -implicitDefEqProofs [-getElem?_pos, go_sem, hP, adj_len, g1, TSub.cells, hi, lt1, c1]
    refine callB_pure (at_pf (adj l e.From (-e.Amount)) e.To (by (try simp only [adj_len]); omega)) hP en_65 (args_sref rfl (by simp [encL, adj]) (imm_subs _) (args_imm .sc (args_nil.2 trivial))) .sc ?_
    simp -dsimp -implicitDefEqProofs [-getElem?_pos, go_sem, hP, q2]
    refine done (x := .tup [subsL (adj l e.From (-e.Amount)), iv 0]) ?_ ?_ ?_
    ·simp -dsimp -implicitDefEqProofs [-getElem?_pos, go_sem, e1]
     exact imm_list.1 (imm_subs _)
    ·have nt : adj (adj l e.From (-e.Amount)) e.To e.Amount = (adj l e.From (-e.Amount)) := adj_none (by rw [adj_ids, z2]; exact h0)
     have ot : okAt credit (adj l e.From (-e.Amount)) e.To = true := okAt_none (by rw [adj_ids, z2]; exact h0)
     rw [okR (adj l e.From (-e.Amount)) (by rw [pS, ok1, nt, ot]; simp)]
    ·simp -dsimp -implicitDefEqProofs [-getElem?_pos, go_sem, e1]
open Go.PA
open Go.RowKit
def runE (credit : Int) : TEntry → List TSub → List TEntry → List TSub × Int
 | _, l, [] => (l, 0)
 | last, l, e :: es => if (postS credit last.Number last.Day l e).1 = 0 then runE credit e (postS credit last.Number last.Day l e).2 es else ([], (postS credit last.Number last.Day l e).1)
theorem runE_replay (credit : Int) : ∀ (es : List TEntry) (last : TEntry) (l : List TSub), (∃ r, replayS credit last.Number last.Day l es = some r ∧ runE credit last l es = (r.2.2, 0)) ∨ (replayS credit last.Number last.Day l es = none ∧ (runE credit last l es).1 = [] ∧ ¬ (runE credit last l es).2 = 0)
 | [], last, l => .inl ⟨_, rfl, rfl⟩
 | e :: es, last, l => by
  rw [replayS, runE]
  by_cases h : (postS credit last.Number last.Day l e).1 = 0
  ·rw [if_pos h, if_pos h]
   exact runE_replay credit es e _
  ·rw [if_neg h, if_neg h]
   exact .inr ⟨rfl, rfl, h⟩
abbrev zeroE : TEntry := ⟨0, 0, 0, 0, 0, 0⟩
def early (day : Int) (e : TEntry) : Bool := decide (e.Day ≤ day)
def untilR (a : TAccount) (day : Int) : List TSub × Int := runE a.Credit zeroE (zeroS a.Subs) (a.Entries.takeWhile (early day))
theorem addR_ok {credit : Int} {l : List TSub} {last e : TEntry} (h : (postS credit last.Number last.Day l e).1 = 0) : addR credit l last e = ((postS credit last.Number last.Day l e).2, 0) := by rw [addR, if_pos h]
theorem addR_bad {credit : Int} {l : List TSub} {last e : TEntry} (h : ¬ (postS credit last.Number last.Day l e).1 = 0) : addR credit l last e = ([], (postS credit last.Number last.Day l e).1) := by rw [addR, if_neg h]
set_option maxHeartbeats 1000000 in
theorem until_pf (a : TAccount) (day : Int) (hl : a.Subs.length ≤ 100000) (he : a.Entries.length ≤ 100000) (hc : 0 ≤ a.Credit ∧ a.Credit ≤ 1000000000000) (hn : (ids a.Subs).Nodup) (h0 : 0 ∉ ids a.Subs) :
  PFun Tryz.prog none none 100 [.agg a.cells, iv day] (· = .tup [subsL (untilR a day).1, iv (untilR a day).2]) := by
 refine pfun_intro Tryz.func100 rfl (by simp [Tryz.f100]) (by kernel_rfl) ?_
 intro E hP hr hs hW hN
 simp -dsimp -implicitDefEqProofs [-getElem?_pos, go_sem, hP, TAccount.cells]
 refine callB_is ((empty_pf a.Subs hl).lift _ _) hP en_153 (by simp [imm_subs]) (imm_subs _) ?_
 simp -dsimp -implicitDefEqProofs [-getElem?_pos, go_sem, hP]
 obtain ⟨I, hI⟩ : ∃ I : Nat → St → Prop, I = fun m s => ∃ (k id : Nat) (last : TEntry) (l : List TSub), k ≤ a.Entries.length ∧ 1 ≤ id ∧ m = a.Entries.length - k ∧ untilR a day = runE a.Credit last l ((a.Entries.drop k).takeWhile (early day)) ∧ last.Number = k ∧ 0 ≤ last.Day ∧ okAll a.Credit l = true ∧ ids l = ids a.Subs ∧ s.t 1 = iv day ∧ s.t 2 = .ref 0 0 0 ∧ s.t 6 = subsL l ∧ s.t 7 = .ref id 0 0 ∧ s.t 17 = entsL a.Entries ∧ s.t 18 = iv a.Entries.length ∧ s.t 19 = iv k ∧ s.H[0]? = some (some ⟨28, 3, [a.cells]⟩) ∧ s.H[id]? = some (some ⟨48, 6, [last.cells]⟩) := ⟨_, rfl⟩
 refine aloop0 I (a.Entries.length) (by rw [hN]; rfl) ?_ ?_
 ·rw [hI]
  exact ⟨0, 1, zeroE, zeroS a.Subs, by omega, by omega, by omega, by simp [untilR], rfl, Int.le_refl _, zeroS_all hc.1 _, zeroS_ids _, by simp -dsimp [-getElem?_pos, go_sem], by simp -dsimp [-getElem?_pos, go_sem], by simp -dsimp [-getElem?_pos, go_sem], by simp -dsimp [-getElem?_pos, go_sem], by simp -dsimp [-getElem?_pos, go_sem], by simp -dsimp [-getElem?_pos, go_sem], by simp -dsimp [-getElem?_pos, go_sem], by simp -dsimp [-getElem?_pos, go_sem, TAccount.cells], by simp -dsimp [-getElem?_pos, go_sem, TEntry.cells]⟩
 intro m s hs'
 rw [hI] at hs'
 obtain ⟨k, id, last, l, hk, hid, hm, hu, hnum, hday, hok, hids, t1, t2, t6, t7, t17, t18, t19, hA, hL⟩ := hs'
 have hll : l.length = a.Subs.length := by rw [← ids_len l, hids, ids_len]
 simp -dsimp -implicitDefEqProofs [-getElem?_pos, go_sem, hP, t18, t19]
 refine condP (fun h => ?_) (fun h => ?_)
 ·have hk : k < a.Entries.length := by simpa using h
  obtain ⟨e, hee⟩ : ∃ e, a.Entries[k]? = some e := ⟨_, List.getElem?_eq_getElem hk⟩
  have wk := wrap_in ((k : Int) + 1) (by omega)
  have hd : a.Entries.drop k = e :: a.Entries.drop (k + 1) := by
   rw [List.getElem?_eq_getElem hk] at hee
   rw [List.drop_eq_getElem_cons hk, Option.some.inj hee]
  rw [hd] at hu
  have hlt0 := (gsI hA)
  have hne0 : ¬ id = 0 := by omega
  have hlt := (gsI hL)
  have tkE : e.cells.take 6 = e.cells := List.take_of_length_le (by rw [TEntry.len]; omega)
  have tkL : last.cells.take 6 = last.cells := List.take_of_length_le (by rw [TEntry.len]; omega)
  have drE : e.cells.drop 6 = [] := List.drop_eq_nil_of_le (by rw [TEntry.len]; omega)
  have drL : last.cells.drop 6 = [] := List.drop_eq_nil_of_le (by rw [TEntry.len]; omega)
  by_cases hearly : e.Day ≤ day
  ·have h2 : decide (day < e.Day) = false := by simp; omega
   have hu2 : untilR a day = if (postS a.Credit last.Number last.Day l e).1 = 0 then runE a.Credit e (postS a.Credit last.Number last.Day l e).2 ((a.Entries.drop (k + 1)).takeWhile (early day)) else ([], (postS a.Credit last.Number last.Day l e).1) := by
    rw [hu, List.takeWhile_cons_of_pos (by simpa [early] using hearly)]
    rfl
   have ap := add_pf a.Credit l last e (by omega) hc (hids ▸ hn) (hids ▸ h0) hok (by omega) hday
   have cE : e.cells = [iv e.Number, iv e.Day, iv e.From, iv e.To, iv e.Amount, iv e.Ref] := rfl
   simp -dsimp -implicitDefEqProofs [-getElem?_pos, go_sem, hP, t17, t19, hee, t1, cE, h2, t2, hA, hlt0, hlt, TAccount.cells, t6, t7, hL, TEntry.len, tkL]
   refine callB_is (ap.lift _ _) hP en_102 (by simp [imm_subs, imm_sc]; exact ⟨imm_ent last, imm_ent e⟩) (imm_pair (imm_subs _) .sc) ?_
   by_cases hp : (postS a.Credit last.Number last.Day l e).1 = 0
   ·rw [addR_ok hp]
    rw [if_pos hp] at hu2
    obtain ⟨q1, q2, q3, _⟩ := postS_ok hp
    simp -dsimp -implicitDefEqProofs [-getElem?_pos, go_sem, hP]
    refine adrawB (fun _ => true) [3] hP (by kernel_rfl) (by kernel_rfl) ?_
    simp -dsimp -implicitDefEqProofs [-getElem?_pos, go_sem, hP, t7, hL, hlt, t19, wk, drL, TEntry.len]
    refine ⟨a.Entries.length - (k + 1), by omega, ?_⟩
    rw [hI]
    refine ⟨k + 1, id, e, (postS a.Credit last.Number last.Day l e).2, by omega, hid, rfl, hu2, by rw [q1, hnum]; simp, by omega, postS_all hp hok, (postS_ids _ _ _ _ _).trans hids, by simp -dsimp [-getElem?_pos, go_sem, t1], by simp -dsimp [-getElem?_pos, go_sem, t2], by simp -dsimp [-getElem?_pos, go_sem], by simp -dsimp [-getElem?_pos, go_sem, t7], by simp -dsimp [-getElem?_pos, go_sem, t17], by simp -dsimp [-getElem?_pos, go_sem, t18], by simp -dsimp [-getElem?_pos, go_sem], ?_, ?_⟩
    ·simp -dsimp -implicitDefEqProofs [-getElem?_pos, go_sem, hne0, hlt0, hA]
    ·simp -dsimp -implicitDefEqProofs [-getElem?_pos, go_sem, hlt, TEntry.cells]
   ·rw [addR_bad hp]
    rw [if_neg hp] at hu2
    simp -dsimp -implicitDefEqProofs [-getElem?_pos, go_sem, hP, hp]
    refine done_nil2 2 ?_
    rw [hu2]
    simp [encL]
  ·have h2 : decide (day < e.Day) = true := by simp; omega
   have hu2 : untilR a day = (l, 0) := by
    rw [hu, List.takeWhile_cons_of_neg (by simpa [early] using hearly)]
    rfl
   have cE : e.cells = [iv e.Number, iv e.Day, iv e.From, iv e.To, iv e.Amount, iv e.Ref] := rfl
   simp -dsimp -implicitDefEqProofs [-getElem?_pos, go_sem, hP, t17, t19, hee, t1, cE, h2, t6]
   refine done_imm (imm_pair (imm_subs _) .sc) ?_
   rw [hu2]
 ·have hk : k = a.Entries.length := by simp at h; omega
  subst hk
  rw [List.drop_length] at hu
  have hu2 : untilR a day = (l, 0) := hu
  simp -dsimp -implicitDefEqProofs [-getElem?_pos, go_sem, hP, t6]
  refine done_imm (imm_pair (imm_subs _) .sc) ?_
  rw [hu2]
theorem listEq_pf_subs23 (a b : List TSub) (ha : a.length ≤ 100000) (hb : b.length ≤ 100000) :
  PFun Tryz.prog none none 145 [.list 2 (encL TSub.cells a), .list 2 (encL TSub.cells b)] (· = bv (decide (a = b))) := by
 refine pfun_intro Tryz.func145 rfl (by simp [Tryz.f145]) (by kernel_rfl) ?_
 intro E hP hr hs hW hN
 by_cases hlen : a.length = b.length
 rotate_left
 ·have hne : ¬ a = b := fun h => hlen (by rw [h])
  have hl : decide ((a.length : Int) = (b.length : Int)) = false := by simp; omega
  simp -dsimp -implicitDefEqProofs [-getElem?_pos, go_sem, hP, hl, hne]
 have hl : decide ((a.length : Int) = (b.length : Int)) = true := by simp; omega
 simp -dsimp -implicitDefEqProofs [-getElem?_pos, go_sem, hP, hl]
 obtain ⟨I, hI⟩ : ∃ I : Nat → St → Prop, I = fun m s => ∃ k : Nat, k ≤ a.length ∧ m = a.length - k ∧ s.t 0 = .list 2 (encL TSub.cells a) ∧ s.t 1 = .list 2 (encL TSub.cells b) ∧ s.t 12 = iv a.length ∧ s.t 13 = iv k ∧ a.take k = b.take k := ⟨_, rfl⟩
 refine aloop0 I (a.length) (by rw [hN]; rfl) ?_ ?_
 ·rw [hI]
  exact ⟨0, by omega, by omega, by simp -dsimp [-getElem?_pos, go_sem], by simp -dsimp [-getElem?_pos, go_sem], by simp -dsimp [-getElem?_pos, go_sem], by simp -dsimp [-getElem?_pos, go_sem], by simp⟩
 intro m s hs'
 rw [hI] at hs'
 obtain ⟨k, hk, hm, t0, t1, t12, t13, heq⟩ := hs'
 simp -dsimp -implicitDefEqProofs [-getElem?_pos, go_sem, hP, t12, t13]
 refine condP (fun h => ?_) (fun h => ?_)
 ·have hk : k < a.length := by simpa using h
  obtain ⟨x, hx⟩ : ∃ x, a[k]? = some x := ⟨_, List.getElem?_eq_getElem hk⟩
  obtain ⟨y, hy⟩ : ∃ y, b[k]? = some y := ⟨_, List.getElem?_eq_getElem (by omega)⟩
  have wk := wrap_in ((k : Int) + 1) (by omega)
  have tx : a.take (k + 1) = a.take k ++ [x] := by rw [List.take_add_one, hx]; rfl
  have ty : b.take (k + 1) = b.take k ++ [y] := by rw [List.take_add_one, hy]; rfl
  simp -dsimp -implicitDefEqProofs [-getElem?_pos, go_sem, hP, t13]
  refine adrawB (fun _ => true) [] hP (by kernel_rfl) (by kernel_rfl) ?_
  by_cases hxy : x = y
  ·subst hxy
   simp -dsimp -implicitDefEqProofs [-getElem?_pos, go_sem, hP, t0, t1, hx, hy, TSub.cells, t13, wk]
   refine ⟨a.length - (k + 1), by omega, ?_⟩
   rw [hI]
   exact ⟨k + 1, by omega, rfl, by simp -dsimp [-getElem?_pos, go_sem, t0], by simp -dsimp [-getElem?_pos, go_sem, t1], by simp -dsimp [-getElem?_pos, go_sem, t12], by simp -dsimp [-getElem?_pos, go_sem], by rw [tx, ty, heq]⟩
  ·have hne : ¬ a = b := fun h => by
    subst h
    rw [hx] at hy
    exact hxy (Option.some.inj hy)
   simp -dsimp -implicitDefEqProofs [-getElem?_pos, go_sem, hP, t0, t1, hx, hy, TSub.cells, t13, wk]
   refine condP (fun h => ?_) (fun h => ?_)
   ·simp -dsimp -implicitDefEqProofs [-getElem?_pos, go_sem, hP, hne]
   ·exact absurd (by cases x; cases y; simp at h; simp [h]) hxy
 ·have hk : k = a.length := by simp at h; omega
  subst hk
  rw [List.take_length] at heq
  rw [hlen, List.take_length] at heq
  simp -dsimp -implicitDefEqProofs [-getElem?_pos, go_sem, hP, heq]
theorem listEq_pf_ents23 (a b : List TEntry) (ha : a.length ≤ 100000) (hb : b.length ≤ 100000) :
  PFun Tryz.prog none none 146 [.list 6 (encL TEntry.cells a), .list 6 (encL TEntry.cells b)] (· = bv (decide (a = b))) := by
 refine pfun_intro Tryz.func146 rfl (by simp [Tryz.f146]) (by kernel_rfl) ?_
 intro E hP hr hs hW hN
 by_cases hlen : a.length = b.length
 rotate_left
 ·have hne : ¬ a = b := fun h => hlen (by rw [h])
  have hl : decide ((a.length : Int) = (b.length : Int)) = false := by simp; omega
  simp -dsimp -implicitDefEqProofs [-getElem?_pos, go_sem, hP, hl, hne]
 have hl : decide ((a.length : Int) = (b.length : Int)) = true := by simp; omega
 simp -dsimp -implicitDefEqProofs [-getElem?_pos, go_sem, hP, hl]
 obtain ⟨I, hI⟩ : ∃ I : Nat → St → Prop, I = fun m s => ∃ k : Nat, k ≤ a.length ∧ m = a.length - k ∧ s.t 0 = .list 6 (encL TEntry.cells a) ∧ s.t 1 = .list 6 (encL TEntry.cells b) ∧ s.t 12 = iv a.length ∧ s.t 13 = iv k ∧ a.take k = b.take k := ⟨_, rfl⟩
 refine aloop0 I (a.length) (by rw [hN]; rfl) ?_ ?_
 ·rw [hI]
  exact ⟨0, by omega, by omega, by simp -dsimp [-getElem?_pos, go_sem], by simp -dsimp [-getElem?_pos, go_sem], by simp -dsimp [-getElem?_pos, go_sem], by simp -dsimp [-getElem?_pos, go_sem], by simp⟩
 intro m s hs'
 rw [hI] at hs'
 obtain ⟨k, hk, hm, t0, t1, t12, t13, heq⟩ := hs'
 simp -dsimp -implicitDefEqProofs [-getElem?_pos, go_sem, hP, t12, t13]
 refine condP (fun h => ?_) (fun h => ?_)
 ·have hk : k < a.length := by simpa using h
  obtain ⟨x, hx⟩ : ∃ x, a[k]? = some x := ⟨_, List.getElem?_eq_getElem hk⟩
  obtain ⟨y, hy⟩ : ∃ y, b[k]? = some y := ⟨_, List.getElem?_eq_getElem (by omega)⟩
  have wk := wrap_in ((k : Int) + 1) (by omega)
  have tx : a.take (k + 1) = a.take k ++ [x] := by rw [List.take_add_one, hx]; rfl
  have ty : b.take (k + 1) = b.take k ++ [y] := by rw [List.take_add_one, hy]; rfl
  simp -dsimp -implicitDefEqProofs [-getElem?_pos, go_sem, hP, t13]
  refine adrawB (fun _ => true) [] hP (by kernel_rfl) (by kernel_rfl) ?_
  by_cases hxy : x = y
  ·subst hxy
   simp -dsimp -implicitDefEqProofs [-getElem?_pos, go_sem, hP, t0, t1, hx, hy, TEntry.cells, t13, wk]
   refine ⟨a.length - (k + 1), by omega, ?_⟩
   rw [hI]
   exact ⟨k + 1, by omega, rfl, by simp -dsimp [-getElem?_pos, go_sem, t0], by simp -dsimp [-getElem?_pos, go_sem, t1], by simp -dsimp [-getElem?_pos, go_sem, t12], by simp -dsimp [-getElem?_pos, go_sem], by rw [tx, ty, heq]⟩
  ·have hne : ¬ a = b := fun h => by
    subst h
    rw [hx] at hy
    exact hxy (Option.some.inj hy)
   simp -dsimp -implicitDefEqProofs [-getElem?_pos, go_sem, hP, t0, t1, hx, hy, TEntry.cells, t13, wk]
   refine condP (fun h => ?_) (fun h => ?_)
   ·simp -dsimp -implicitDefEqProofs [-getElem?_pos, go_sem, hP, hne]
   ·exact absurd (by cases x; cases y; simp at h; simp [h]) hxy
 ·have hk : k = a.length := by simp at h; omega
  subst hk
  rw [List.take_length] at heq
  rw [hlen, List.take_length] at heq
  simp -dsimp -implicitDefEqProofs [-getElem?_pos, go_sem, hP, heq]
theorem listEq_pf_subs (a b : List TSub) (ha : a.length ≤ 100000) (hb : b.length ≤ 100000) :
  PFun Tryz.prog none none 109 [.list 2 (encL TSub.cells a), .list 2 (encL TSub.cells b)] (· = bv (decide (a = b))) := by
 refine pfun_intro Tryz.func109 rfl (by simp [Tryz.f109]) (by kernel_rfl) ?_
 intro E hP hr hs hW hN
 by_cases hlen : a.length = b.length
 rotate_left
 ·have hne : ¬ a = b := fun h => hlen (by rw [h])
  have hl : decide ((a.length : Int) = (b.length : Int)) = false := by simp; omega
  simp -dsimp -implicitDefEqProofs [-getElem?_pos, go_sem, hP, hl, hne]
 have hl : decide ((a.length : Int) = (b.length : Int)) = true := by simp; omega
 simp -dsimp -implicitDefEqProofs [-getElem?_pos, go_sem, hP, hl]
 obtain ⟨I, hI⟩ : ∃ I : Nat → St → Prop, I = fun m s => ∃ k : Nat, k ≤ a.length ∧ m = a.length - k ∧ s.t 0 = .list 2 (encL TSub.cells a) ∧ s.t 1 = .list 2 (encL TSub.cells b) ∧ s.t 12 = iv a.length ∧ s.t 13 = iv k ∧ a.take k = b.take k := ⟨_, rfl⟩
 refine aloop0 I (a.length) (by rw [hN]; rfl) ?_ ?_
 ·rw [hI]
  exact ⟨0, by omega, by omega, by simp -dsimp [-getElem?_pos, go_sem], by simp -dsimp [-getElem?_pos, go_sem], by simp -dsimp [-getElem?_pos, go_sem], by simp -dsimp [-getElem?_pos, go_sem], by simp⟩
 intro m s hs'
 rw [hI] at hs'
 obtain ⟨k, hk, hm, t0, t1, t12, t13, heq⟩ := hs'
 simp -dsimp -implicitDefEqProofs [-getElem?_pos, go_sem, hP, t12, t13]
 refine condP (fun h => ?_) (fun h => ?_)
 ·have hk : k < a.length := by simpa using h
  obtain ⟨x, hx⟩ : ∃ x, a[k]? = some x := ⟨_, List.getElem?_eq_getElem hk⟩
  obtain ⟨y, hy⟩ : ∃ y, b[k]? = some y := ⟨_, List.getElem?_eq_getElem (by omega)⟩
  have wk := wrap_in ((k : Int) + 1) (by omega)
  have tx : a.take (k + 1) = a.take k ++ [x] := by rw [List.take_add_one, hx]; rfl
  have ty : b.take (k + 1) = b.take k ++ [y] := by rw [List.take_add_one, hy]; rfl
  simp -dsimp -implicitDefEqProofs [-getElem?_pos, go_sem, hP, t13]
  refine adrawB (fun _ => true) [] hP (by kernel_rfl) (by kernel_rfl) ?_
  by_cases hxy : x = y
  ·subst hxy
   simp -dsimp -implicitDefEqProofs [-getElem?_pos, go_sem, hP, t0, t1, hx, hy, TSub.cells, t13, wk]
   refine ⟨a.length - (k + 1), by omega, ?_⟩
   rw [hI]
   exact ⟨k + 1, by omega, rfl, by simp -dsimp [-getElem?_pos, go_sem, t0], by simp -dsimp [-getElem?_pos, go_sem, t1], by simp -dsimp [-getElem?_pos, go_sem, t12], by simp -dsimp [-getElem?_pos, go_sem], by rw [tx, ty, heq]⟩
  ·have hne : ¬ a = b := fun h => by
    subst h
    rw [hx] at hy
    exact hxy (Option.some.inj hy)
   simp -dsimp -implicitDefEqProofs [-getElem?_pos, go_sem, hP, t0, t1, hx, hy, TSub.cells, t13, wk]
   refine condP (fun h => ?_) (fun h => ?_)
   ·simp -dsimp -implicitDefEqProofs [-getElem?_pos, go_sem, hP, hne]
   ·exact absurd (by cases x; cases y; simp at h; simp [h]) hxy
 ·have hk : k = a.length := by simp at h; omega
  subst hk
  rw [List.take_length] at heq
  rw [hlen, List.take_length] at heq
  simp -dsimp -implicitDefEqProofs [-getElem?_pos, go_sem, hP, heq]
theorem plain_pf (a : TAccount) (hl : a.Subs.length ≤ 100000) : PFun Tryz.prog none none 98 [.agg a.cells] (· = bv (vB a.Credit && numB (ids a.Subs))) := by
 refine pfun_intro Tryz.func98 rfl (by simp [Tryz.f98]) (by kernel_rfl) ?_
 intro E hP hr hs hW hN
 simp -dsimp -implicitDefEqProofs [-getElem?_pos, go_sem, hP, TAccount.cells]
 refine callB_pure (valid01_pf a.Credit) hP en_101 (args_same (by simp -dsimp [-getElem?_pos, go_sem])) .sc ?_
 by_cases hv : vB a.Credit = true
 rotate_left
 ·simp -dsimp -implicitDefEqProofs [-getElem?_pos, go_sem, hP, hv]
 by_cases hz : a.Subs.length < 1
 ·have hnil : a.Subs = [] := List.eq_nil_of_length_eq_zero (by omega)
  have hd : decide ((a.Subs.length : Int) < 1) = true := by simp; omega
  simp -dsimp -implicitDefEqProofs [-getElem?_pos, go_sem, hP, hv, hd]
  simp [hnil, numB, ids]
 have hd : decide ((a.Subs.length : Int) < 1) = false := by simp; omega
 simp -dsimp -implicitDefEqProofs [-getElem?_pos, go_sem, hP, hv, hd]
 obtain ⟨I, hI⟩ : ∃ I : Nat → St → Prop, I = fun m s => ∃ (k : Nat) (p : Int), k ≤ a.Subs.length ∧ m = a.Subs.length - k ∧ numB (ids a.Subs) = (ascA p ((ids a.Subs).drop k) && (decide (k = 0 → (ids a.Subs).head? = some 1))) ∧ (k = 0 → p = 0) ∧ (∀ j x, k = j + 1 → a.Subs[j]? = some x → p = x.ID) ∧ s.t 1 = .ref 0 0 0 ∧ s.t 16 = subsL a.Subs ∧ s.t 17 = iv a.Subs.length ∧ s.t 18 = iv k ∧ s.H[0]? = some (some ⟨28, 3, [a.cells]⟩) := ⟨_, rfl⟩
 refine aloop0 I (a.Subs.length) (by rw [hN]; rfl) ?_ ?_
 ·rw [hI]
  exact ⟨0, 0, by omega, by omega, by simp [numB], by simp, by omega, by simp -dsimp [-getElem?_pos, go_sem], by simp -dsimp [-getElem?_pos, go_sem], by simp -dsimp [-getElem?_pos, go_sem], by simp -dsimp [-getElem?_pos, go_sem], by simp -dsimp [-getElem?_pos, go_sem, TAccount.cells]⟩
 intro m s hs'
 rw [hI] at hs'
 obtain ⟨k, p, hk, hm, hnum, hp0, hp1, t1, t16, t17, t18, hA⟩ := hs'
 have hlt0 := (gsI hA)
 simp -dsimp -implicitDefEqProofs [-getElem?_pos, go_sem, hP, t17, t18]
 refine condP (fun h => ?_) (fun h => ?_)
 ·have hk : k < a.Subs.length := by simpa using h
  obtain ⟨x, hx⟩ : ∃ x, a.Subs[k]? = some x := ⟨_, List.getElem?_eq_getElem hk⟩
  have wk := wrap_in ((k : Int) + 1) (by omega)
  have hdr : (ids a.Subs).drop k = x.ID :: (ids a.Subs).drop (k + 1) := by
   have h1 : (ids a.Subs)[k]? = some x.ID := by rw [ids_get, hx]; rfl
   obtain ⟨h2, h3⟩ := List.getElem?_eq_some_iff.1 h1
   rw [List.drop_eq_getElem_cons h2, h3]
  rw [hdr, ascA] at hnum
  have hhead : k = 0 → (ids a.Subs).head? = some x.ID := fun h => by
   subst h
   rw [List.drop_zero] at hdr
   rw [hdr]
   rfl
  have fin : ∀ s' : St, (amongB x.ID 1 1000 && decide (p < x.ID)) = true → (k = 0 → x.ID = 1) → s'.t 1 = s.t 1 → s'.t 16 = s.t 16 → s'.t 17 = s.t 17 → s'.t 18 = iv ((k : Int) + 1) → s'.H[0]? = s.H[0]? → ∃ n', n' < m ∧ I n' s' := fun s' hc h1 e1 e16 e17 e18 eH => by
   refine ⟨a.Subs.length - (k + 1), by omega, ?_⟩
   rw [hI]
   simp only [Bool.and_eq_true] at hc
   refine ⟨k + 1, x.ID, by omega, rfl, ?_, by omega, fun j y hj hy => ?_, by rw [e1, t1], by rw [e16, t16], by rw [e17, t17], by rw [e18]; simp, by rw [eH, hA]⟩
   ·rw [hnum, hc.1, hc.2]
    have : decide (k = 0 → (ids a.Subs).head? = some 1) = true := by
     simp only [decide_eq_true_eq]
     exact fun h => by rw [hhead h, h1 h]
    rw [this]
    simp
   ·have : j = k := by omega
    subst this
    rw [hx] at hy
    rw [Option.some.inj hy]
  have bad : (amongB x.ID 1 1000 && decide (p < x.ID)) = false ∨ (k = 0 ∧ ¬ x.ID = 1) → numB (ids a.Subs) = false := fun h => by
   rcases h with h | ⟨h1, h2⟩
   ·rw [hnum, ← Bool.and_assoc (amongB _ _ _), h]; simp
   ·rw [hnum]
    have : decide (k = 0 → (ids a.Subs).head? = some 1) = false := by
     simp only [decide_eq_false_iff_not]
     intro h
     have := h h1
     rw [hhead h1] at this
     exact h2 (Option.some.inj this)
    rw [this]; simp
  simp -dsimp -implicitDefEqProofs [-getElem?_pos, go_sem, hP, t16, t18, hx, TSub.cells]
  refine adrawB (fun _ => true) [] hP (by kernel_rfl) (by kernel_rfl) ?_
  by_cases c1 : x.ID < 1
  ·have := bad (.inl (by simp [amongB]; omega))
   simp -dsimp -implicitDefEqProofs [-getElem?_pos, go_sem, hP, c1, this]
  by_cases c2 : 1000 < x.ID
  ·have := bad (.inl (by simp [amongB]; omega))
   simp -dsimp -implicitDefEqProofs [-getElem?_pos, go_sem, hP, c1, c2, this]
  rcases Nat.eq_zero_or_pos k with hk0 | hkp
  ·have d0 : decide (k = 0) = true := by simp; omega
   have d1 : decide (0 < k) = false := by simp; omega
   by_cases c3 : x.ID = 1
   ·have d3 : decide (x.ID = 1) = true := by simpa using c3
    simp -dsimp -implicitDefEqProofs [-getElem?_pos, go_sem, hP, c1, c2, d0, d1, d3, t18, wk]
    exact fin _ (by have := hp0 hk0; simp [amongB]; omega) (fun _ => c3) (by simp -dsimp [-getElem?_pos, go_sem]) (by simp -dsimp [-getElem?_pos, go_sem]) (by simp -dsimp [-getElem?_pos, go_sem]) (by simp -dsimp [-getElem?_pos, go_sem]) (by simp -dsimp [-getElem?_pos, go_sem, hlt0])
   ·have := bad (.inr ⟨hk0, c3⟩)
    simp -dsimp -implicitDefEqProofs [-getElem?_pos, go_sem, hP, c1, c2, d0, d1, c3, this]
  ·obtain ⟨j, rfl⟩ : ∃ j, k = j + 1 := ⟨k - 1, by omega⟩
   obtain ⟨y, hy⟩ : ∃ y, a.Subs[j]? = some y := ⟨_, List.getElem?_eq_getElem (by omega)⟩
   have d0 : decide (((j : Int) + 1) = 0) = false := by simp <;> omega
   have d1 : decide ((0 : Int) < (j : Int) + 1) = true := by simp <;> omega
   have wj := wrap_in ((j : Int) + 1 - 1) (by omega)
   rw [Int.add_sub_cancel] at wj
   have hpy := hp1 j y rfl hy
   have wk' := wrap_in ((j : Int) + 1 + 1) (by omega)
   by_cases c3 : x.ID ≤ y.ID
   ·have := bad (.inl (by simp [amongB]; omega))
    simp -dsimp -implicitDefEqProofs [-getElem?_pos, go_sem, hP, c1, c2, d0, d1, Int.add_sub_cancel, wj, t1, hA, hlt0, TAccount.cells, hy, TSub.cells, c3, this]
   ·simp -dsimp -implicitDefEqProofs [-getElem?_pos, go_sem, hP, c1, c2, d0, d1, Int.add_sub_cancel, wj, t1, hA, hlt0, TAccount.cells, hy, TSub.cells, c3, t18, wk']
    exact fin _ (by simp [amongB]; omega) (by omega) (by simp -dsimp [-getElem?_pos, go_sem]) (by simp -dsimp [-getElem?_pos, go_sem]) (by simp -dsimp [-getElem?_pos, go_sem]) (by simp -dsimp [-getElem?_pos, go_sem]) (by simp -dsimp [-getElem?_pos, go_sem, hlt0])
 ·have hk : k = a.Subs.length := by simp at h; omega
  subst hk
  have hdn : (ids a.Subs).drop a.Subs.length = [] := List.drop_eq_nil_of_le (by rw [ids_len]; omega)
  have hh : decide (a.Subs.length = 0 → (ids a.Subs).head? = some 1) = true := by
   simp only [decide_eq_true_eq]
   intro h
   omega
  rw [hdn, hh] at hnum
  have hnum : numB (ids a.Subs) = true := hnum
  simp -dsimp -implicitDefEqProofs [-getElem?_pos, go_sem, hP, hnum, hv]
open Go.PA
open Go.RowKit
theorem replayS_days (credit : Int) : ∀ (es : List TEntry) (n d : Int) (l : List TSub) (r : Int × Int × List TSub), 0 ≤ d → replayS credit n d l es = some r → ∀ e, e ∈ es → d ≤ e.Day ∧ e.Day ≤ 36000
 | [], n, d, l, r, hd, h, e, he => by simp at he
 | x :: es, n, d, l, r, hd, h, e, he => by
  rw [replayS] at h
  split at h
  ·rename_i hp
   obtain ⟨_, h2, h3, _⟩ := postS_ok hp
   rcases List.mem_cons.1 he with rfl | he
   ·exact ⟨h2, h3⟩
   ·have := replayS_days credit es _ _ _ r (by omega) h e he
    exact ⟨by omega, this.2⟩
  ·cases h
theorem replayS_last (credit : Int) : ∀ (es : List TEntry) (last : TEntry) (l : List TSub) (r : Int × Int × List TSub), replayS credit last.Number last.Day l es = some r → r.1 = ((es.getLast?).getD last).Number ∧ r.2.1 = ((es.getLast?).getD last).Day
 | [], last, l, r, h => by
  simp only [replayS, Option.some.injEq] at h
  subst h
  exact ⟨rfl, rfl⟩
 | e :: es, last, l, r, h => by
  rw [replayS] at h
  split at h
  ·have := replayS_last credit es e _ r h
   cases es with
   | nil => exact this
   | cons x es =>
    have e1 : (e :: x :: es).getLast? = (x :: es).getLast? := by rw [List.getLast?_cons_cons]
    rw [e1]
    have e2 : ∀ y, ((x :: es).getLast?).getD y = ((x :: es).getLast?).getD e := fun y => by
     rw [List.getLast?_eq_some_getLast (by simp)]; rfl
    rw [e2 last]
    exact this
  ·cases h
theorem takeWhile_all {α : Type} (p : α → Bool) : ∀ l : List α, (∀ x, x ∈ l → p x = true) → l.takeWhile p = l
 | [], _ => rfl
 | a :: l, h => by
  rw [List.takeWhile_cons_of_pos (h a (by simp)), takeWhile_all p l fun x hx => h x (List.mem_cons_of_mem _ hx)]
def lastE (a : TAccount) : TEntry := (a.Entries.getLast?).getD zeroE
theorem check_ok {a : TAccount} (h : checkA a = 0) : a.Subs.length ≤ 20 ∧ a.Entries.length ≤ 400 ∧ (0 ≤ a.Credit ∧ a.Credit ≤ 1000000000000) ∧ numB (ids a.Subs) = true ∧ replayS a.Credit 0 0 (zeroS a.Subs) a.Entries = some ((lastE a).Number, (lastE a).Day, a.Subs) := by
 unfold checkA at h
 split at h
 ·simp at h
 rename_i h1
 split at h
 ·simp at h
 rename_i h2
 split at h
 ·simp at h
 rename_i r hr
 split at h
 ·rename_i he
  have h2 : vB a.Credit = true ∧ numB (ids a.Subs) = true := by simpa using h2
  have h3 : 0 ≤ a.Credit ∧ a.Credit ≤ 1000000000000 := by simpa [vB, amongB] using h2.1
  have := replayS_last a.Credit a.Entries zeroE (zeroS a.Subs) r hr
  refine ⟨by omega, by omega, h3, h2.2, ?_⟩
  rw [hr]
  congr 1
  exact Prod.ext this.1 (Prod.ext this.2 he)
 ·simp at h
theorem check_mk {a : TAccount} (h1 : a.Subs.length ≤ 20) (h2 : a.Entries.length ≤ 400) (h3 : 0 ≤ a.Credit ∧ a.Credit ≤ 1000000000000) (h4 : numB (ids a.Subs) = true) {n d : Int} (h5 : replayS a.Credit 0 0 (zeroS a.Subs) a.Entries = some (n, d, a.Subs)) : checkA a = 0 := by
 unfold checkA
 have hv : vB a.Credit = true := by simpa [vB, amongB] using h3
 rw [if_neg (by omega), if_neg (by simp [hv, h4]), h5]
 simp
theorem numB_facts {l : List Int} (h : numB l = true) : l.Nodup ∧ 0 ∉ l ∧ l.head? = some 1 := by
 simp only [numB, Bool.and_eq_true, decide_eq_true_eq] at h
 refine ⟨ascA_nodup l 0 h.1, fun h0 => ?_, h.2⟩
 have := ascA_gt l 0 h.1 0 h0
 omega
theorem check_keeps {a : TAccount} (h : checkA a = 0) : okAll a.Credit a.Subs = true ∧ (lastE a).Number = a.Entries.length ∧ 0 ≤ (lastE a).Day ∧ (lastE a).Day ≤ 36000 := by
 obtain ⟨_, _, h3, _, h5⟩ := check_ok h
 obtain ⟨a1, _, a3, a4, a5⟩ := replayS_keeps a.Credit a.Entries 0 0 (zeroS a.Subs) _ (zeroS_all h3.1 _) h5
 exact ⟨a1, by simpa using a3, a4, a5 (by omega)⟩
set_option maxHeartbeats 1000000 in
theorem check23_pf (a : TAccount) (hl : a.Subs.length ≤ 100000) (he : a.Entries.length ≤ 100000) : PFun Tryz.prog none none 47 [.agg a.cells] (· = iv (checkA a)) := by
 refine pfun_intro Tryz.func47 rfl (by simp [Tryz.f47]) (by kernel_rfl) ?_
 intro E hP hr hs hW hN
 have cA : a.cells = [iv a.Credit, subsL a.Subs, entsL a.Entries] := rfl
 by_cases c1 : 20 < a.Subs.length
 ·have d1 : decide ((20 : Int) < a.Subs.length) = true := by simp; omega
  have : checkA a = 3 := by rw [checkA, if_pos (.inl c1)]
  simp -dsimp -implicitDefEqProofs [-getElem?_pos, go_sem, hP, cA, d1, this]
 have d1 : decide ((20 : Int) < a.Subs.length) = false := by simp; omega
 by_cases c2 : 400 < a.Entries.length
 ·have d2 : decide ((400 : Int) < a.Entries.length) = true := by simp; omega
  have : checkA a = 3 := by rw [checkA, if_pos (.inr c2)]
  simp -dsimp -implicitDefEqProofs [-getElem?_pos, go_sem, hP, cA, d1, d2, this]
 have d2 : decide ((400 : Int) < a.Entries.length) = false := by simp; omega
 simp -dsimp -implicitDefEqProofs [-getElem?_pos, go_sem, hP, cA, d1, d2]
 have pl := plain_pf a hl
 rw [cA] at pl
 refine callB_is (pl.lift _ _) hP en_98 (by simp only [List.mem_singleton, forall_eq]; rw [← cA]; exact imm_acc a) .sc ?_
 by_cases c3 : (vB a.Credit && numB (ids a.Subs)) = true
 rotate_left
 ·have : checkA a = 62 := by
   rw [checkA, if_neg (by omega), if_pos]
   cases h1 : vB a.Credit <;> cases h2 : numB (ids a.Subs) <;> simp [h1, h2] at c3 ⊢
  have c3 : (vB a.Credit && numB (ids a.Subs)) = false := by simpa using c3
  simp -dsimp -implicitDefEqProofs [-getElem?_pos, go_sem, hP, c3, this]
 simp only [Bool.and_eq_true] at c3
 obtain ⟨c3, c4⟩ := c3
 have hcr : 0 ≤ a.Credit ∧ a.Credit ≤ 1000000000000 := by simpa [vB, amongB] using c3
 obtain ⟨hnd, hz0, hhd⟩ := numB_facts c4
 have hchk : checkA a = (replayS a.Credit 0 0 (zeroS a.Subs) a.Entries).elim 62 (fun r => if r.2.2 = a.Subs then 0 else 62) := by
  rw [checkA, if_neg (by omega), if_neg (by simp [c3, c4])]
  cases replayS a.Credit 0 0 (zeroS a.Subs) a.Entries <;> rfl
 simp -dsimp -implicitDefEqProofs [-getElem?_pos, go_sem, hP, c3, c4]
 obtain ⟨I, hI⟩ : ∃ I : Nat → St → Prop, I = fun m s => ∃ (k : Nat), k ≤ a.Entries.length ∧ m = a.Entries.length - k ∧ (∀ e, e ∈ a.Entries.take k → amongB e.Day 0 36000 = true) ∧ s.t 1 = .ref 0 0 0 ∧ s.t 23 = entsL a.Entries ∧ s.t 24 = iv a.Entries.length ∧ s.t 25 = iv k ∧ s.H[0]? = some (some ⟨28, 3, [a.cells]⟩) := ⟨_, rfl⟩
 refine aloop0 I (a.Entries.length) (by rw [hN]; rfl) ?_ ?_
 ·rw [hI]
  exact ⟨0, by omega, by omega, by simp, by simp -dsimp [-getElem?_pos, go_sem], by simp -dsimp [-getElem?_pos, go_sem], by simp -dsimp [-getElem?_pos, go_sem], by simp -dsimp [-getElem?_pos, go_sem], by simp -dsimp [-getElem?_pos, go_sem, cA]⟩
 intro m s hs'
 rw [hI] at hs'
 obtain ⟨k, hk, hm, hdays, t1, t23, t24, t25, hA⟩ := hs'
 have hlt0 := (gsI hA)
 simp -dsimp -implicitDefEqProofs [-getElem?_pos, go_sem, hP, t24, t25]
 refine condP (fun h => ?_) (fun h => ?_)
 ·have hk : k < a.Entries.length := by simpa using h
  obtain ⟨e, hee⟩ : ∃ e, a.Entries[k]? = some e := ⟨_, List.getElem?_eq_getElem hk⟩
  have wk := wrap_in ((k : Int) + 1) (by omega)
  have e1 : a.Entries.take (k + 1) = a.Entries.take k ++ [e] := by rw [List.take_add_one, hee]; rfl
  simp -dsimp -implicitDefEqProofs [-getElem?_pos, go_sem, hP, t23, t25, hee, TEntry.cells]
  refine callB_pure (day23_pf e.Day) hP en_99 (args_same (by simp -dsimp [-getElem?_pos, go_sem])) .sc ?_
  by_cases c5 : amongB e.Day 0 36000 = true
  ·simp -dsimp -implicitDefEqProofs [-getElem?_pos, go_sem, hP, c5, t25, wk]
   refine ⟨a.Entries.length - (k + 1), by omega, ?_⟩
   rw [hI]
   refine ⟨k + 1, by omega, rfl, fun x hx => ?_, by simp -dsimp [-getElem?_pos, go_sem, t1], by simp -dsimp [-getElem?_pos, go_sem, t23], by simp -dsimp [-getElem?_pos, go_sem, t24], by simp -dsimp [-getElem?_pos, go_sem], by simp -dsimp [-getElem?_pos, go_sem, hlt0, hA]⟩
   rw [e1, List.mem_append] at hx
   rcases hx with hx | hx
   ·exact hdays x hx
   ·simp at hx; subst hx; exact c5
  ·have : checkA a = 62 := by
    rw [hchk]
    cases hr : replayS a.Credit 0 0 (zeroS a.Subs) a.Entries with
    | none => rfl
    | some r => exact absurd (amongB_iff.2 (replayS_days _ _ _ _ _ _ (Int.le_refl _) hr e (List.mem_of_getElem? hee))) c5
   simp -dsimp -implicitDefEqProofs [-getElem?_pos, go_sem, hP, c5, this]
 have hk : k = a.Entries.length := by simp at h; omega
 subst hk
 rw [List.take_length] at hdays
 have htw : a.Entries.takeWhile (early 36000) = a.Entries := by
  refine takeWhile_all _ _ fun e he => ?_
  have := amongB_iff.1 (hdays e he)
  simpa [early] using this.2
 have up := until_pf a 36000 hl he hcr hnd hz0
 rw [untilR, htw, cA] at up
 have tk : ([iv a.Credit, subsL a.Subs, entsL a.Entries] : List AV).take 3 = [iv a.Credit, subsL a.Subs, entsL a.Entries] := rfl
 simp -dsimp -implicitDefEqProofs [-getElem?_pos, go_sem, hP, t1, hA, cA]
 refine callB_is (up.lift _ _) hP en_100 (by simp only [List.mem_cons, List.not_mem_nil, or_false, forall_eq_or_imp, forall_eq]; rw [← cA]; exact ⟨imm_acc a, .sc⟩) (imm_pair (imm_subs _) .sc) ?_
 rcases runE_replay a.Credit a.Entries zeroE (zeroS a.Subs) with ⟨r, hr, hrun⟩ | ⟨hr, hrun1, hrun2⟩
 rotate_left
 ·rw [show zeroE.Number = 0 from rfl, show zeroE.Day = 0 from rfl] at hr
  have : checkA a = 62 := by rw [hchk, hr]; rfl
  simp -dsimp -implicitDefEqProofs [-getElem?_pos, go_sem, hP, hrun2, this]
 rw [show zeroE.Number = 0 from rfl, show zeroE.Day = 0 from rfl] at hr
 have hids := (replayS_keeps a.Credit a.Entries 0 0 (zeroS a.Subs) r (zeroS_all hcr.1 _) hr).2.1
 rw [zeroS_ids] at hids
 rw [hr] at hchk
 obtain ⟨l, hlr⟩ : ∃ l, l = r.2.2 := ⟨_, rfl⟩
 rw [← hlr] at hids
 have hll : l.length = a.Subs.length := by rw [← ids_len l, hids, ids_len]
 have hchk : checkA a = if l = a.Subs then 0 else 62 := by rw [hchk, hlr]; rfl
 rw [hrun, ← hlr]
 simp -dsimp -implicitDefEqProofs [-getElem?_pos, go_sem, hP, hlt0, hA, t1, cA]
 obtain ⟨J, hJ⟩ : ∃ I : Nat → St → Prop, I = fun m s => ∃ (k : Nat), k ≤ a.Subs.length ∧ m = a.Subs.length - k ∧ l.take k = a.Subs.take k ∧ s.t 5 = subsL l ∧ s.t 42 = subsL a.Subs ∧ s.t 43 = iv a.Subs.length ∧ s.t 44 = iv k := ⟨_, rfl⟩
 refine aloop0 J (a.Subs.length) (by rw [hN]; rfl) ?_ ?_
 ·rw [hJ]
  exact ⟨0, by omega, by omega, by simp, by simp -dsimp [-getElem?_pos, go_sem], by simp -dsimp [-getElem?_pos, go_sem], by simp -dsimp [-getElem?_pos, go_sem], by simp -dsimp [-getElem?_pos, go_sem]⟩
 clear t1 t23 t24 t25 hA hlt0
 intro m s hs'
 rw [hJ] at hs'
 obtain ⟨k, hk, hm, htk, t5, t42, t43, t44⟩ := hs'
 simp -dsimp -implicitDefEqProofs [-getElem?_pos, go_sem, hP, t43, t44]
 refine condP (fun h => ?_) (fun h => ?_)
 ·have hk : k < a.Subs.length := by simpa using h
  obtain ⟨x, hx⟩ : ∃ x, a.Subs[k]? = some x := ⟨_, List.getElem?_eq_getElem hk⟩
  obtain ⟨y, hy⟩ : ∃ y, l[k]? = some y := ⟨_, List.getElem?_eq_getElem (by omega)⟩
  have wk := wrap_in ((k : Int) + 1) (by omega)
  have e1 : a.Subs.take (k + 1) = a.Subs.take k ++ [x] := by rw [List.take_add_one, hx]; rfl
  have e2 : l.take (k + 1) = l.take k ++ [y] := by rw [List.take_add_one, hy]; rfl
  simp -dsimp -implicitDefEqProofs [-getElem?_pos, go_sem, hP, t42, t44, hx, TSub.cells]
  refine adrawB (fun _ => true) [] hP (by kernel_rfl) (by kernel_rfl) ?_
  by_cases hxy : y = x
  ·subst hxy
   simp -dsimp -implicitDefEqProofs [-getElem?_pos, go_sem, hP, t5, hy, TSub.cells, t44, wk]
   refine ⟨a.Subs.length - (k + 1), by omega, ?_⟩
   rw [hJ]
   exact ⟨k + 1, by omega, rfl, by rw [e1, e2, htk], by simp -dsimp [-getElem?_pos, go_sem, t5], by simp -dsimp [-getElem?_pos, go_sem, t42], by simp -dsimp [-getElem?_pos, go_sem, t43], by simp -dsimp [-getElem?_pos, go_sem]⟩
  ·have hne : ¬ l = a.Subs := fun h => by
    rw [h, hx] at hy
    exact hxy (Option.some.inj hy).symm
   rw [if_neg hne] at hchk
   simp -dsimp -implicitDefEqProofs [-getElem?_pos, go_sem, hP, t5, hy, TSub.cells]
   refine condP (fun h => ?_) (fun h => ?_)
   ·simp -dsimp -implicitDefEqProofs [-getElem?_pos, go_sem, hP, hchk]
   ·exact absurd (by cases x; cases y; simp at h; simp [h]) hxy
 ·have hk : k = a.Subs.length := by simp at h; omega
  subst hk
  rw [List.take_length, ← hll, List.take_length] at htk
  rw [if_pos htk] at hchk
  simp -dsimp -implicitDefEqProofs [-getElem?_pos, go_sem, hP, hchk]
open Go.PA
open Go.RowKit
def Grown (n : Nat) (H : Heap) (x : AV) (ty : TypeId) (k : Nat) (es : List (List AV)) : Prop := (x = .nil ∧ es = []) ∨ ∃ id, n ≤ id ∧ x = .sref id 0 es.length ∧ H[id]? = some (some ⟨ty, k, es⟩)
theorem Grown.cw {n : Nat} {H : Heap} {x : AV} {ty : TypeId} {k : Nat} {es : List (List AV)} {xs ys : List AV} (h : Grown n H x ty k es) (hi : Imm (.list k es)) (t : CW H xs ys) : CW H (x :: xs) (.list k es :: ys) := by
 rcases h with ⟨rfl, rfl⟩ | ⟨id, _, rfl, h⟩
 ·exact cw_nil t
 ·exact cw_sref h rfl hi t
theorem Grown.cellish {n : Nat} {H : Heap} {x : AV} {ty : TypeId} {k : Nat} {es : List (List AV)} (h : Grown n H x ty k es) : x.cellish = true := by
 rcases h with ⟨rfl, rfl⟩ | ⟨id, _, rfl, h⟩ <;> rfl
theorem Grown.kept {n : Nat} {H H' : Heap} {x : AV} {ty : TypeId} {k : Nat} {es : List (List AV)} {X : List Nat} (h : Grown n H x ty k es) (hk : Kept X H H') (hX : ∀ i, i ∈ X → i < n) : Grown n H' x ty k es := by
 rcases h with ⟨rfl, rfl⟩ | ⟨id, hn, rfl, h⟩
 ·exact .inl ⟨rfl, rfl⟩
 ·refine .inr ⟨id, hn, rfl, hk _ _ (fun hi => ?_) h⟩
  have := hX id hi
  omega
open Go.PA
open Go.RowKit
theorem agree_push {n : Nat} {H l : Heap} (h : n ≤ H.length) : Agree (fun id => decide (id < n)) H (H ++ l) := fun id hid => List.getElem?_append_left (by simp at hid; omega)
theorem agree_3 {a b c : Option AObj} {l l' : Heap} : Agree (fun id => decide (id < 3)) (a :: b :: c :: l) (a :: b :: c :: l') := fun id hid => by
 have : id < 3 := by simpa using hid
 rcases id with _ | _ | _ | id
 ·rfl
 ·rfl
 ·rfl
 ·omega
abbrev zeroA : TAccount := ⟨0, [], []⟩
def postA (a : TAccount) (e : TEntry) : TAccount × Int :=
 if checkA a = 0 then
  if a.Entries.length = 400 then (zeroA, 3) else
  if (postS a.Credit (lastE a).Number (lastE a).Day a.Subs e).1 = 0 then (⟨a.Credit, (postS a.Credit (lastE a).Number (lastE a).Day a.Subs e).2, a.Entries ++ [e]⟩, 0) else (zeroA, (postS a.Credit (lastE a).Number (lastE a).Day a.Subs e).1)
 else (zeroA, checkA a)
theorem lastE_nil {a : TAccount} (h : a.Entries.length = 0) : lastE a = zeroE := by
 rw [lastE, List.eq_nil_of_length_eq_zero h]
 rfl
theorem lastE_get {a : TAccount} {k : Nat} {e : TEntry} (h : a.Entries.length = k + 1) (he : a.Entries[k]? = some e) : lastE a = e := by
 rw [lastE, List.getLast?_eq_getElem?, h]
 simp [he]
theorem cA (a : TAccount) : a.cells = [iv a.Credit, subsL a.Subs, entsL a.Entries] := rfl
theorem cE (e : TEntry) : e.cells = [iv e.Number, iv e.Day, iv e.From, iv e.To, iv e.Amount, iv e.Ref] := rfl
theorem done_zeroA {H : Heap} {n : Int} {Q : AV → Prop} {b : Bx Q} (h : Q (.tup [.agg zeroA.cells, iv n])) : Done H (.tup [.agg [iv 0, .nil, .nil], iv n]) Q b :=
 done_agg2 (cw_sc (cw_nil (cw_nil .nil))) h
theorem last23_pf (a : TAccount) (he : a.Entries.length ≤ 100000) : PFun Tryz.prog none none 103 [.agg a.cells] (· = .agg (lastE a).cells) := by
 refine pfun_intro Tryz.func103 rfl (by simp [Tryz.f103]) (by kernel_rfl) ?_
 intro E hP hr hs hW hN
 by_cases h0 : a.Entries.length = 0
 ·have d0 : decide (0 < a.Entries.length) = false := decide_eq_false (by omega)
  have : lastE a = zeroE := lastE_nil h0
  simp -dsimp -implicitDefEqProofs [-getElem?_pos, go_sem, hP, cA, d0]
  refine done_imm (imm_ent zeroE) ?_
  rw [this]
  rfl
 ·obtain ⟨k, hk⟩ : ∃ k, a.Entries.length = k + 1 := ⟨a.Entries.length - 1, by omega⟩
  obtain ⟨e, hee⟩ : ∃ e, a.Entries[k]? = some e := ⟨_, List.getElem?_eq_getElem (by omega)⟩
  have d0 : decide ((0 : Int) < (k : Int) + 1) = true := by simp
  have wk := wrap_in ((k : Int) + 1 - 1) (by omega)
  rw [Int.add_sub_cancel] at wk
  have : lastE a = e := lastE_get hk hee
  simp -dsimp -implicitDefEqProofs [-getElem?_pos, go_sem, hP, cA, hk, d0, Int.add_sub_cancel, wk, hee, cE]
  refine done_imm (imm_ent e) ?_
  rw [this]
  rfl
set_option maxHeartbeats 1000000 in
theorem post23_pf (a : TAccount) (e : TEntry) (hl : a.Subs.length ≤ 100000) (he : a.Entries.length ≤ 100000) : PFun Tryz.prog none none 50 [.agg a.cells, .agg e.cells] (· = .tup [.agg (postA a e).1.cells, iv (postA a e).2]) := by
 refine pfun_intro Tryz.func50 rfl (by simp [Tryz.f50]) (by kernel_rfl) ?_
 intro E hP hr hs hW hN
 have ck := check23_pf a hl he
 have la := last23_pf a he
 rw [cA] at ck la
 have ia : Imm (.agg [iv a.Credit, subsL a.Subs, entsL a.Entries]) := imm_acc a
 have ie : Imm (.agg [iv e.Number, iv e.Day, iv e.From, iv e.To, iv e.Amount, iv e.Ref]) := imm_ent e
 simp -dsimp -implicitDefEqProofs [-getElem?_pos, go_sem, hP, cA, cE]
 refine callB_is (ck.lift _ _) hP en_47 (by simp [ia]) .sc ?_
 by_cases c1 : checkA a = 0
 rotate_left
 ·have : postA a e = (zeroA, checkA a) := by rw [postA, if_neg c1]
  simp -dsimp -implicitDefEqProofs [-getElem?_pos, go_sem, hP, c1]
  refine done_zeroA ?_
  rw [this]
 obtain ⟨k1, k2, k3, k4, k5⟩ := check_ok c1
 by_cases c2 : a.Entries.length = 400
 ·have : postA a e = (zeroA, 3) := by rw [postA, if_pos c1, if_pos c2]
  simp -dsimp -implicitDefEqProofs [-getElem?_pos, go_sem, hP, c1, c2]
  refine done_zeroA ?_
  rw [this]
 have d2 : decide ((a.Entries.length : Int) = 400) = false := by simp; omega
 obtain ⟨hnd, hz0, hhd⟩ := numB_facts k4
 obtain ⟨q1, q2, q3, q4⟩ := check_keeps c1
 have ap := add_pf a.Credit a.Subs (lastE a) e (by omega) k3 hnd hz0 q1 (by omega) q3
 rw [cE, cE] at ap
 simp -dsimp -implicitDefEqProofs [-getElem?_pos, go_sem, hP, c1, d2]
 refine adrawB (fun _ => true) [] hP (by kernel_rfl) (by kernel_rfl) ?_
 simp -dsimp -implicitDefEqProofs [-getElem?_pos, go_sem, hP]
 refine callB_is (la.lift _ _) hP en_103 (by simp [ia]) (imm_ent _) ?_
 simp -dsimp -implicitDefEqProofs [-getElem?_pos, go_sem, hP, cE]
 refine callB_is (ap.lift _ _) hP en_102 (by simp [imm_subs, imm_sc, ie]; exact imm_ent (lastE a)) (imm_pair (imm_subs _) .sc) ?_
 by_cases c3 : (postS a.Credit (lastE a).Number (lastE a).Day a.Subs e).1 = 0
 ·have pA : postA a e = (⟨a.Credit, (postS a.Credit (lastE a).Number (lastE a).Day a.Subs e).2, a.Entries ++ [e]⟩, 0) := by rw [postA, if_pos c1, if_neg c2, if_pos c3]
  rw [addR_ok c3]
  simp -dsimp -implicitDefEqProofs [-getElem?_pos, go_sem, hP]
  refine adrawB (fun id => decide (id < 3)) [7] hP (by kernel_rfl) (by kernel_rfl) ?_
  simp -dsimp -implicitDefEqProofs [-getElem?_pos, go_sem, hP, restr_get]
  refine ⟨by omega, by omega, agree_3, by omega, by omega, agree_3, ?_⟩
  have en : encL TEntry.cells a.Entries ++ [[iv e.Number, iv e.Day, iv e.From, iv e.To, iv e.Amount, iv e.Ref]] = encL TEntry.cells (a.Entries ++ [e]) := encL_snoc TEntry.cells a.Entries e
  refine done_agg2 (cw_sc (cw_imm (imm_subs _) (cw_sref rfl (by simp [encL]) (by rw [en]; exact imm_ents _) .nil))) ?_
  rw [pA, en]
  rfl
 ·have pA : postA a e = (zeroA, (postS a.Credit (lastE a).Number (lastE a).Day a.Subs e).1) := by rw [postA, if_pos c1, if_neg c2, if_neg c3]
  rw [addR_bad c3]
  simp -dsimp -implicitDefEqProofs [-getElem?_pos, go_sem, hP, c3]
  refine done_zeroA ?_
  rw [pA]
def nextE (a : TAccount) (day from_ to amount ref : Int) : TEntry := ⟨IntKind.i64.wrap ((lastE a).Number + 1), day, from_, to, amount, ref⟩
theorem next23_pf (a : TAccount) (day from_ to amount ref : Int) (he : a.Entries.length ≤ 100000) : PFun Tryz.prog none none 51 [.agg a.cells, iv day, iv from_, iv to, iv amount, iv ref] (· = .agg (nextE a day from_ to amount ref).cells) := by
 refine pfun_intro Tryz.func51 rfl (by simp [Tryz.f51]) (by kernel_rfl) ?_
 intro E hP hr hs hW hN
 have la := last23_pf a he
 rw [cA, cE] at la
 have ia : Imm (.agg [iv a.Credit, subsL a.Subs, entsL a.Entries]) := imm_acc a
 simp -dsimp -implicitDefEqProofs [-getElem?_pos, go_sem, hP, cA]
 refine callB_is (la.lift _ _) hP en_103 (by simp [ia]) (imm_ent (lastE a)) ?_
 simp -dsimp -implicitDefEqProofs [-getElem?_pos, go_sem, hP]
 refine done_imm (imm_ent (nextE a day from_ to amount ref)) ?_
 rfl
def balanceA (a : TAccount) (id : Int) : Int × Bool :=
 if checkA a = 0 then (match a.Subs.find? (fun s => decide (s.ID = id)) with | some s => (s.Balance, true) | none => (0, false)) else (0, false)
theorem find_place {l : List TSub} {id : Int} : (placeI l id = -1 ∧ l.find? (fun s => decide (s.ID = id)) = none) ∨ ∃ (i : Nat) (s : TSub), placeI l id = i ∧ l[i]? = some s ∧ l.find? (fun s => decide (s.ID = id)) = some s := by
 suffices h : ∀ (l : List TSub) (k : Nat), (idxFrom (fun s => decide (s.ID = id)) k l = -1 ∧ l.find? (fun s => decide (s.ID = id)) = none) ∨ ∃ (i : Nat) (s : TSub), idxFrom (fun s => decide (s.ID = id)) k l = ((k + i : Nat) : Int) ∧ l[i]? = some s ∧ l.find? (fun s => decide (s.ID = id)) = some s by
  have := h l 0
  simpa [placeI, idxI] using this
 intro l
 induction l with
 | nil => exact fun k => .inl ⟨rfl, rfl⟩
 | cons a l ih =>
  intro k
  rw [idxFrom, List.find?_cons]
  by_cases h : a.ID = id
  ·simp only [h, decide_true, if_true]
   exact .inr ⟨0, a, by simp, rfl, rfl⟩
  ·simp only [h, decide_false, Bool.false_eq_true, if_false]
   rcases ih (k + 1) with h | ⟨i, s, h1, h2, h3⟩
   ·exact .inl h
   ·exact .inr ⟨i + 1, s, by rw [h1]; congr 1; omega, h2, h3⟩
theorem balance23_pf (a : TAccount) (id : Int) (hl : a.Subs.length ≤ 100000) (he : a.Entries.length ≤ 100000) : PFun Tryz.prog none none 21 [.agg a.cells, iv id] (· = .tup [iv (balanceA a id).1, bv (balanceA a id).2]) := by
 refine pfun_intro Tryz.func21 rfl (by simp [Tryz.f21]) (by kernel_rfl) ?_
 intro E hP hr hs hW hN
 have ck := check23_pf a hl he
 rw [cA] at ck
 have ia : Imm (.agg [iv a.Credit, subsL a.Subs, entsL a.Entries]) := imm_acc a
 simp -dsimp -implicitDefEqProofs [-getElem?_pos, go_sem, hP, cA]
 refine callB_is (ck.lift _ _) hP en_47 (by simp [ia]) .sc ?_
 by_cases c1 : checkA a = 0
 rotate_left
 ·have : balanceA a id = (0, false) := by rw [balanceA, if_neg c1]
  simp -dsimp -implicitDefEqProofs [-getElem?_pos, go_sem, hP, c1]
  refine done_imm (imm_pair .sc .sc) ?_
  rw [this]
 simp -dsimp -implicitDefEqProofs [-getElem?_pos, go_sem, hP, c1]
 refine callB_pure (at_pf a.Subs id hl) hP en_65 (args_imm (imm_subs _) (args_imm .sc (args_nil.2 trivial))) .sc ?_
 rcases find_place (l := a.Subs) (id := id) with ⟨h1, h2⟩ | ⟨i, s, h1, h2, h3⟩
 ·have : balanceA a id = (0, false) := by rw [balanceA, if_pos c1, h2]
  simp -dsimp -implicitDefEqProofs [-getElem?_pos, go_sem, hP, h1]
  refine done_imm (imm_pair .sc .sc) ?_
  rw [this]
 ·have : balanceA a id = (s.Balance, true) := by rw [balanceA, if_pos c1, h3]
  have hi := (gsI h2)
  have d1 : decide ((0 : Int) ≤ (i : Int)) = true := by simp
  simp -dsimp -implicitDefEqProofs [-getElem?_pos, go_sem, hP, h1, d1, h2, TSub.cells]
  refine done_imm (imm_pair .sc .sc) ?_
  rw [this]
theorem okSub_bounds {credit : Int} {s : TSub} (hc : 0 ≤ credit ∧ credit ≤ 1000000000000) (h : okSub credit s = true) : -1000000000000 ≤ s.Balance ∧ s.Balance ≤ 1000000000000000 := by
 have := (okSub_iff _ _).1 h
 split at this <;> omega
theorem same_pf (a b : TAccount) (hl : a.Subs.length ≤ 100000) (he : a.Entries.length ≤ 100000) (hl' : b.Subs.length ≤ 100000) (he' : b.Entries.length ≤ 100000) : PFun Tryz.prog none none 81 [.agg a.cells, .agg b.cells] (· = bv (decide (a = b))) := by
 refine pfun_intro Tryz.func81 rfl (by simp [Tryz.f81]) (by kernel_rfl) ?_
 intro E hP hr hs hW hN
 have e1 : decide (a = b) = (decide (a.Credit = b.Credit) && (decide (a.Subs = b.Subs) && decide (a.Entries = b.Entries))) := by
  cases a; cases b
  rw [Bool.eq_iff_iff]
  simp
 rw [e1]
 by_cases c1 : a.Credit = b.Credit
 rotate_left
 ·simp -dsimp -implicitDefEqProofs [-getElem?_pos, go_sem, hP, cA, c1]
 have d1 : decide (a.Credit = b.Credit) = true := by simpa using c1
 simp -dsimp -implicitDefEqProofs [-getElem?_pos, go_sem, hP, cA, d1]
 refine callB_pure (listEq_pf_subs23 a.Subs b.Subs hl hl') hP en_145 (args_imm (imm_subs _) (args_imm (imm_subs _) (args_nil.2 trivial))) .sc ?_
 by_cases c2 : a.Subs = b.Subs
 rotate_left
 ·simp -dsimp -implicitDefEqProofs [-getElem?_pos, go_sem, hP, c2]
 have d2 : decide (a.Subs = b.Subs) = true := by simpa using c2
 simp -dsimp -implicitDefEqProofs [-getElem?_pos, go_sem, hP, d2]
 refine callB_pure (listEq_pf_ents23 a.Entries b.Entries he he') hP en_146 (args_imm (imm_ents _) (args_imm (imm_ents _) (args_nil.2 trivial))) .sc ?_
 simp -dsimp -implicitDefEqProofs [-getElem?_pos, go_sem, hP, d1, d2]
abbrev numsL (l : List Int) : AV := .list 1 (encL encI l)
theorem imm_nums (l : List Int) : Imm (numsL l) := imm_encL _ imm_encI l
def newS (l : List Int) : List TSub := l.map fun i => ⟨i, 0⟩
theorem newS_len (l : List Int) : (newS l).length = l.length := by simp [newS]
def newA (l : List Int) (credit : Int) : TAccount := ⟨credit, newS l, []⟩
theorem newS_ids (l : List Int) : ids (newS l) = l := by simp [ids, newS, Function.comp_def]
def openA (ids : List Int) (credit : Int) : TAccount × Int :=
 if vB credit = true then if 20 < ids.length then (zeroA, 3) else if numB ids = true then (newA ids credit, 0) else (zeroA, 60) else (zeroA, 2)
set_option maxHeartbeats 1000000 in
theorem open23_pf (l : List Int) (credit : Int) (hl : l.length ≤ 100000) : PFun Tryz.prog none none 48 [numsL l, iv credit] (· = .tup [.agg (openA l credit).1.cells, iv (openA l credit).2]) := by
 refine pfun_intro Tryz.func48 rfl (by simp [Tryz.f48]) (by kernel_rfl) ?_
 intro E hP hr hs hW hN
 simp -dsimp -implicitDefEqProofs [-getElem?_pos, go_sem, hP]
 refine callB_pure (valid01_pf credit) hP en_101 (args_same (by simp -dsimp [-getElem?_pos, go_sem])) .sc ?_
 by_cases c1 : vB credit = true
 rotate_left
 ·have : openA l credit = (zeroA, 2) := by rw [openA, if_neg c1]
  simp -dsimp -implicitDefEqProofs [-getElem?_pos, go_sem, hP, c1]
  refine done_zeroA ?_
  rw [this]
 by_cases c2 : 20 < l.length
 ·have d2 : decide ((20 : Int) < l.length) = true := decide_eq_true (by omega)
  have : openA l credit = (zeroA, 3) := by rw [openA, if_pos c1, if_pos c2]
  simp -dsimp -implicitDefEqProofs [-getElem?_pos, go_sem, hP, c1, d2]
  refine done_zeroA ?_
  rw [this]
 have d2 : decide ((20 : Int) < l.length) = false := decide_eq_false (by omega)
 simp -dsimp -implicitDefEqProofs [-getElem?_pos, go_sem, hP, c1, d2]
 obtain ⟨I, hI⟩ : ∃ I : Nat → St → Prop, I = fun m s => ∃ (k : Nat) (x : AV), k ≤ l.length ∧ m = l.length - k ∧ s.t 4 = .ref 0 0 0 ∧ s.t 6 = .ref 1 0 0 ∧ s.t 19 = numsL l ∧ s.t 20 = iv l.length ∧ s.t 21 = iv k ∧ s.H[0]? = some (some ⟨28, 3, [[iv 0, .nil, .nil]]⟩) ∧ s.H[1]? = some (some ⟨28, 3, [[iv credit, x, .nil]]⟩) ∧ Grown 2 s.H x 98 2 (encL TSub.cells (newS (l.take k))) := ⟨_, rfl⟩
 refine aloop0 I (l.length) (by rw [hN]; rfl) ?_ ?_
 ·rw [hI]
  exact ⟨0, .nil, by omega, by omega, by simp -dsimp [-getElem?_pos, go_sem], by simp -dsimp [-getElem?_pos, go_sem], by simp -dsimp [-getElem?_pos, go_sem], by simp -dsimp [-getElem?_pos, go_sem], by simp -dsimp [-getElem?_pos, go_sem], by simp -dsimp [-getElem?_pos, go_sem], by simp -dsimp [-getElem?_pos, go_sem], .inl ⟨rfl, rfl⟩⟩
 intro m s hs'
 rw [hI] at hs'
 obtain ⟨k, x, hk, hm, t4, t6, t19, t20, t21, h0, h1, hg⟩ := hs'
 have lt0 := (gsI h0)
 have lt1 := (gsI h1)
 simp -dsimp -implicitDefEqProofs [-getElem?_pos, go_sem, hP, t20, t21]
 refine condP (fun h => ?_) (fun h => ?_)
 ·have hk : k < l.length := by simpa using h
  obtain ⟨n, hn⟩ : ∃ n, l[k]? = some n := ⟨_, List.getElem?_eq_getElem hk⟩
  have wk := wrap_in ((k : Int) + 1) (by omega)
  have e1 : newS (l.take (k + 1)) = newS (l.take k) ++ [⟨n, 0⟩] := by rw [List.take_add_one, hn]; simp [newS]
  have nl : (newS (l.take k)).length = k := by rw [newS_len, List.length_take]; omega
  rcases hg with ⟨rfl, hg⟩ | ⟨id, h2, rfl, hg⟩
  ·simp -dsimp -implicitDefEqProofs [-getElem?_pos, go_sem, hP, t19, t21, hn, encI, t6, h1, lt1, wk]
   refine ⟨l.length - (k + 1), by omega, ?_⟩
   rw [hI]
   refine ⟨k + 1, .sref s.H.length 0 1, by omega, rfl, by simp -dsimp [-getElem?_pos, go_sem, t4], by simp -dsimp [-getElem?_pos, go_sem, t6], by simp -dsimp [-getElem?_pos, go_sem, t19], by simp -dsimp [-getElem?_pos, go_sem, t20], by simp -dsimp [-getElem?_pos, go_sem], by simp -dsimp [-getElem?_pos, go_sem, lt0, h0], by simp -dsimp [-getElem?_pos, go_sem, lt1], .inr ⟨s.H.length, by omega, ?_, ?_⟩⟩
   ·rw [e1, ← encL_snoc, hg]; rfl
   ·rw [e1, ← encL_snoc, hg]
    simp -dsimp -implicitDefEqProofs [-getElem?_pos, go_sem, TSub.cells]
  ·have ne0 : ¬ id = 0 := by omega
   have ne1 : ¬ id = 1 := by omega
   have lti := (gsI hg)
   simp -dsimp -implicitDefEqProofs [-getElem?_pos, go_sem, hP, t19, t21, hn, encI, t6, h1, lt1, hg, ne1, nl, wk]
   refine ⟨by omega, by omega, ?_⟩
   refine ⟨l.length - (k + 1), by omega, ?_⟩
   rw [hI]
   refine ⟨k + 1, .sref s.H.length 0 (k + 1), by omega, rfl, by simp -dsimp [-getElem?_pos, go_sem, t4], by simp -dsimp [-getElem?_pos, go_sem, t6], by simp -dsimp [-getElem?_pos, go_sem, t19], by simp -dsimp [-getElem?_pos, go_sem, t20], by simp -dsimp [-getElem?_pos, go_sem], by simp -dsimp [-getElem?_pos, go_sem, ne0, lt0, h0], by simp -dsimp [-getElem?_pos, go_sem, ne1, lt1], .inr ⟨s.H.length, by omega, ?_, ?_⟩⟩
   ·rw [encL_len, newS_len, List.length_take]
    congr 1
    omega
   ·rw [e1, ← encL_snoc]
    simp -dsimp -implicitDefEqProofs [-getElem?_pos, go_sem, TSub.cells]
 ·have hk : k = l.length := by simp at h; omega
  subst hk
  rw [List.take_length] at hg
  have pl := plain_pf ⟨credit, newS l, []⟩ (by rw [newS_len]; omega)
  have cw : CW s.H [iv credit, x, .nil] [iv credit, subsL (newS l), .list 6 []] := cw_sc (hg.cw (imm_subs _) (cw_nil .nil))
  simp -dsimp -implicitDefEqProofs [-getElem?_pos, go_sem, hP, t6, h1, lt1]
  refine callB_pure pl hP en_98 (args_agg cw (args_nil.2 trivial)) .sc ?_
  rw [newS_ids, c1]
  by_cases c3 : numB l = true
  ·have : openA l credit = (newA l credit, 0) := by rw [openA, if_pos c1, if_neg c2, if_pos c3]
   have hc := hg.cellish
   simp -dsimp -implicitDefEqProofs [-getElem?_pos, go_sem, hP, c3, t6, h1, lt1, t4, lt0, h0, hc]
   refine done_agg2 (cs' := (newA l credit).cells) (cw_sc ((hg.kept (X := [0]) (kept_set _ (by simp) (kept_refl _ _)) (by simp)).cw (imm_subs _) (cw_nil .nil))) ?_
   rw [this]
  ·have : openA l credit = (zeroA, 60) := by rw [openA, if_pos c1, if_neg c2, if_neg c3]
   simp -dsimp -implicitDefEqProofs [-getElem?_pos, go_sem, hP, c3, t4, lt0, h0]
   refine done_zeroA ?_
   rw [this]
open Go.PA
open Go.RowKit
abbrev paysL (l : List TPayment) : AV := .list 5 (encL TPayment.cells l)
abbrev batsL (l : List TBatch) : AV := .list 3 (encL TBatch.cells l)
theorem imm_pays (l : List TPayment) : Imm (paysL l) := imm_encL _ TPayment.imm _
theorem imm_bats (l : List TBatch) : Imm (batsL l) := imm_encL _ TBatch.imm _
theorem cPy (p : TPayment) : p.cells = [iv p.Warrant, iv p.Payee, iv p.Amount, iv p.Due, iv p.Sub] := rfl
theorem cBt (b : TBatch) : b.cells = [iv b.Number, iv b.Day, paysL b.Payments] := rfl
theorem cQu (q : TQueue) : q.cells = [paysL q.Waiting, intsL q.Known, batsL q.Batches] := rfl
theorem imm_pay (c : TPayment) : Imm (.agg c.cells) := imm_agg.2 c.imm
theorem imm_bat (c : TBatch) : Imm (.agg c.cells) := imm_agg.2 c.imm
theorem imm_que (c : TQueue) : Imm (.agg c.cells) := imm_agg.2 c.imm
theorem drop_at {α : Type} {l : List α} {k : Nat} {e : α} (h : l[k]? = some e) : l.drop k = e :: l.drop (k + 1) := by
 obtain ⟨hk, rfl⟩ := List.getElem?_eq_some_iff.1 h
 exact List.drop_eq_getElem_cons hk
theorem take_at {α : Type} {l : List α} {k : Nat} {e : α} (h : l[k]? = some e) : l.take (k + 1) = l.take k ++ [e] := by
 rw [List.take_add_one, h]; rfl
def amg (n lo hi : Int) : Bool := decide (lo ≤ n) && decide (n ≤ hi)
theorem amg_iff {n lo hi : Int} : amg n lo hi = true ↔ lo ≤ n ∧ n ≤ hi := by simp [amg]
theorem amg_no {n lo hi : Int} (h : ¬ (lo ≤ n ∧ n ≤ hi)) : amg n lo hi = false := Bool.eq_false_iff.2 fun e => h (amg_iff.1 e)
def payB (p : TPayment) : Bool := amg p.Warrant 1 1000000 && (amg p.Payee 1 1000000 && (amg p.Amount 1 1000000000000 && (amg p.Due 0 35990 && amg p.Sub 1 1000)))
structure PayOk (p : TPayment) : Prop where
 warrant : 1 ≤ p.Warrant ∧ p.Warrant ≤ 1000000
 payee : 1 ≤ p.Payee ∧ p.Payee ≤ 1000000
 amount : 1 ≤ p.Amount ∧ p.Amount ≤ 1000000000000
 due : 0 ≤ p.Due ∧ p.Due ≤ 35990
 sub : 1 ≤ p.Sub ∧ p.Sub ≤ 1000
theorem payB_iff (p : TPayment) : payB p = true ↔ PayOk p := by
 simp only [payB, Bool.and_eq_true, amg_iff]
 exact ⟨fun ⟨a, b, c, d, e⟩ => ⟨a, b, c, d, e⟩, fun ⟨a, b, c, d, e⟩ => ⟨a, b, c, d, e⟩⟩
def Bef (a b : TPayment) : Prop := a.Due < b.Due ∨ a.Due = b.Due ∧ a.Warrant < b.Warrant
instance (a b : TPayment) : Decidable (Bef a b) := by unfold Bef; infer_instance
def befB (a b : TPayment) : Bool := decide (Bef a b)
theorem befB_iff {a b : TPayment} : befB a b = true ↔ Bef a b := by simp [befB]
theorem Bef.trans {a b c : TPayment} (h : Bef a b) (k : Bef b c) : Bef a c := by unfold Bef at *; omega
theorem Bef.tot {a b : TPayment} (h : a.Warrant ≠ b.Warrant) : Bef a b ∨ Bef b a := by unfold Bef; omega
def allO {α : Type} (o : Option α) (f : α → Bool) : Bool := match o with
 | none => true
 | some x => f x
theorem allO_iff {α : Type} {o : Option α} {f : α → Bool} : allO o f = true ↔ ∀ x, o = some x → f x = true := by
 cases o <;> simp [allO]
def ordFrom : Option TPayment → List TPayment → Bool
 | _, [] => true
 | o, p :: l => payB p && (allO o (fun x => befB x p) && ordFrom (some p) l)
def distFrom : List TPayment → List TPayment → Bool
 | _, [] => true
 | pre, p :: l => !(pre.any fun x => decide (x.Warrant = p.Warrant)) && distFrom (pre ++ [p]) l
def inK (K : List Int) (p : TPayment) : Bool := decide (p.Warrant ∈ K)
def ascB (K : List Int) (l : List TPayment) : Bool := ordFrom none l && (l.all (inK K) && distFrom [] l)
def knFrom : Option Int → List Int → Bool
 | _, [] => true
 | o, n :: l => amg n 1 1000000 && (allO o (fun x => decide (x < n)) && knFrom (some n) l)
def busB (d : Int) : Bool := amg d 0 36000 && decide (d % 7 < 5)
def batB (K : List Int) (i d : Int) (b : TBatch) : Bool := decide (b.Number = i + 1) && (decide (d ≤ b.Day) && (busB b.Day && (amg b.Payments.length 1 10 && ascB K b.Payments)))
def batsFrom (K : List Int) : Int → Int → List TBatch → Bool
 | _, _, [] => true
 | i, d, b :: l => batB K i d b && batsFrom K (i + 1) b.Day l
def checkQ (q : TQueue) : Int :=
 if 100 < q.Waiting.length ∨ 200 < q.Known.length ∨ 200 < q.Batches.length then 3 else if (knFrom none q.Known && (ascB q.Known q.Waiting && batsFrom q.Known 0 0 q.Batches)) = true then 0 else 64
theorem ordFrom_iff : ∀ (l : List TPayment) (o : Option TPayment), ordFrom o l = true ↔ (∀ p, p ∈ l → PayOk p) ∧ (∀ x, o = some x → ∀ p, p ∈ l → Bef x p) ∧ l.Pairwise Bef
 | [], o => by simp [ordFrom]
 | p :: l, o => by
  rw [ordFrom, Bool.and_eq_true, Bool.and_eq_true, ordFrom_iff l (some p), payB_iff, allO_iff, List.pairwise_cons]
  simp only [befB_iff, List.mem_cons]
  constructor
  ·rintro ⟨h1, h2, h3, h4, h5⟩
   refine ⟨?_, ?_, h4 p rfl, h5⟩
   ·rintro x (rfl | hx)
    ·exact h1
    ·exact h3 x hx
   ·rintro x hx y (rfl | hy)
    ·exact h2 x hx
    ·exact (h2 x hx).trans (h4 p rfl y hy)
  ·rintro ⟨h1, h2, h3, h4⟩
   refine ⟨h1 p (.inl rfl), fun x hx => h2 x hx p (.inl rfl), fun x hx => h1 x (.inr hx), ?_, h4⟩
   rintro x hx y hy
   cases hx
   exact h3 y hy
theorem distFrom_iff : ∀ (l pre : List TPayment), distFrom pre l = true ↔ (∀ p, p ∈ l → ∀ x, x ∈ pre → x.Warrant ≠ p.Warrant) ∧ (l.map (·.Warrant)).Nodup
 | [], pre => by simp [distFrom]
 | p :: l, pre => by
  rw [distFrom, Bool.and_eq_true, Bool.not_eq_true', distFrom_iff l, List.map_cons, List.nodup_cons, List.any_eq_false]
  simp only [decide_eq_true_eq, List.mem_append, List.mem_cons, List.not_mem_nil, or_false, List.mem_map, not_exists, not_and]
  constructor
  ·rintro ⟨h1, h2, h3⟩
   refine ⟨?_, fun x hx e => h2 x hx p (.inr rfl) e.symm, h3⟩
   rintro x (rfl | hx) y hy
   ·exact h1 y hy
   ·exact h2 x hx y (.inl hy)
  ·rintro ⟨h1, h2, h3⟩
   refine ⟨fun y hy => h1 p (.inl rfl) y hy, ?_, h3⟩
   rintro x hx y (hy | rfl)
   ·exact h1 x (.inr hx) y hy
   ·exact fun e => h2 x hx e.symm
structure AscOk (K : List Int) (l : List TPayment) : Prop where
 pay : ∀ p, p ∈ l → PayOk p
 ord : l.Pairwise Bef
 kn : ∀ p, p ∈ l → p.Warrant ∈ K
 nd : (l.map (·.Warrant)).Nodup
theorem ascB_iff {K : List Int} {l : List TPayment} : ascB K l = true ↔ AscOk K l := by
 rw [ascB, Bool.and_eq_true, Bool.and_eq_true, ordFrom_iff, distFrom_iff, List.all_eq_true]
 simp only [inK, decide_eq_true_eq]
 constructor
 ·rintro ⟨⟨h1, _, h2⟩, h3, _, h4⟩
  exact ⟨h1, h2, h3, h4⟩
 ·rintro ⟨h1, h2, h3, h4⟩
  exact ⟨⟨h1, by simp, h2⟩, h3, by simp, h4⟩
theorem knFrom_iff : ∀ (l : List Int) (o : Option Int), knFrom o l = true ↔ (∀ p, p ∈ l → 1 ≤ p ∧ p ≤ 1000000) ∧ (∀ x, o = some x → ∀ p, p ∈ l → x < p) ∧ l.Pairwise (· < ·)
 | [], o => by simp [knFrom]
 | p :: l, o => by
  rw [knFrom, Bool.and_eq_true, Bool.and_eq_true, knFrom_iff l (some p), amg_iff, allO_iff, List.pairwise_cons]
  simp only [decide_eq_true_eq, List.mem_cons]
  constructor
  ·rintro ⟨h1, h2, h3, h4, h5⟩
   refine ⟨?_, ?_, h4 p rfl, h5⟩
   ·rintro x (rfl | hx)
    ·exact h1
    ·exact h3 x hx
   ·rintro x hx y (rfl | hy)
    ·exact h2 x hx
    ·exact Int.lt_trans (h2 x hx) (h4 p rfl y hy)
  ·rintro ⟨h1, h2, h3, h4⟩
   refine ⟨h1 p (.inl rfl), fun x hx => h2 x hx p (.inl rfl), fun x hx => h1 x (.inr hx), ?_, h4⟩
   rintro x hx y hy
   cases hx
   exact h3 y hy
structure QOk (q : TQueue) : Prop where
 lw : q.Waiting.length ≤ 100
 lk : q.Known.length ≤ 200
 lb : q.Batches.length ≤ 200
 kn : ∀ w, w ∈ q.Known → 1 ≤ w ∧ w ≤ 1000000
 ks : q.Known.Pairwise (· < ·)
 asc : AscOk q.Known q.Waiting
 bats : batsFrom q.Known 0 0 q.Batches = true
theorem checkQ_iff {q : TQueue} : checkQ q = 0 ↔ QOk q := by
 unfold checkQ
 split
 ·rename_i h
  exact ⟨fun e => absurd e (by decide), fun ⟨h1, h2, h3, _, _, _, _⟩ => by omega⟩
 ·rename_i h
  split
  ·rename_i h1
   rw [Bool.and_eq_true, Bool.and_eq_true, knFrom_iff, ascB_iff] at h1
   exact ⟨fun _ => ⟨by omega, by omega, by omega, h1.1.1, h1.1.2.2, h1.2.1, h1.2.2⟩, fun _ => rfl⟩
  ·rename_i h1
   refine ⟨fun e => absurd e (by decide), fun ⟨_, _, _, h4, h5, h6, h7⟩ => absurd ?_ h1⟩
   rw [Bool.and_eq_true, Bool.and_eq_true, knFrom_iff, ascB_iff]
   exact ⟨⟨h4, by simp, h5⟩, h6, h7⟩
structure FitQ (q : TQueue) : Prop where
 w : q.Waiting.length ≤ 100000
 k : q.Known.length ≤ 100000
 b : q.Batches.length ≤ 100000
 each : ∀ b, b ∈ q.Batches → b.Payments.length ≤ 100000
theorem batsFrom_len {K : List Int} : ∀ {l : List TBatch} {i d : Int}, batsFrom K i d l = true → ∀ b, b ∈ l → 1 ≤ b.Payments.length ∧ b.Payments.length ≤ 10 ∧ AscOk K b.Payments ∧ busB b.Day = true ∧ d ≤ b.Day
 | [], _, _, _, b, hb => by cases hb
 | a :: l, i, d, h, b, hb => by
  rw [batsFrom, batB] at h
  simp only [Bool.and_eq_true, amg_iff, ascB_iff, decide_eq_true_eq] at h
  rcases List.mem_cons.1 hb with rfl | hb
  ·obtain ⟨⟨_, h2, h3, h4, h5⟩, _⟩ := h
   exact ⟨by omega, by omega, h5, h3, h2⟩
  ·obtain ⟨h1, h2, h3, h4, h5⟩ := batsFrom_len h.2 b hb
   exact ⟨h1, h2, h3, h4, by have := h.1.2.1; omega⟩
theorem QOk.fit {q : TQueue} (h : QOk q) : FitQ q := ⟨by have := h.lw; omega, by have := h.lk; omega, by have := h.lb; omega, fun b hb => by have := batsFrom_len h.bats b hb; omega⟩
abbrev zeroQ : TQueue := ⟨[], [], []⟩
abbrev zeroB : TBatch := ⟨0, 0, []⟩
def ins {α : Type} (lt : α → α → Bool) (l : List α) (a : α) : List α := l.takeWhile (fun x => lt x a) ++ a :: l.dropWhile (fun x => lt x a)
def ltB (a b : Int) : Bool := decide (a < b)
def waitQ (q : TQueue) (w : Int) : Int := idxI (fun p : TPayment => decide (p.Warrant = w)) q.Waiting
def addQ (q : TQueue) (p : TPayment) : TQueue × Int :=
 if checkQ q = 0 then (if payB p = true then (if p.Warrant ∈ q.Known then (zeroQ, 65) else if q.Waiting.length = 100 ∨ q.Known.length = 200 then (zeroQ, 3) else (⟨ins befB q.Waiting p, ins ltB q.Known p.Warrant, q.Batches⟩, 0)) else (zeroQ, 64)) else (zeroQ, checkQ q)
def againQ (q : TQueue) (p : TPayment) : TQueue × Int :=
 if checkQ q = 0 then (if payB p = true then (if p.Warrant ∈ q.Known then (if 0 ≤ waitQ q p.Warrant then (zeroQ, 65) else if q.Waiting.length = 100 then (zeroQ, 3) else (⟨ins befB q.Waiting p, q.Known, q.Batches⟩, 0)) else (zeroQ, 6)) else (zeroQ, 64)) else (zeroQ, checkQ q)
def dropQ (q : TQueue) (w : Int) : TQueue × Int :=
 if checkQ q = 0 then (if waitQ q w < 0 then (zeroQ, 6) else (⟨q.Waiting.eraseIdx (waitQ q w).toNat, q.Known, q.Batches⟩, 0)) else (zeroQ, checkQ q)
def readyQ (q : TQueue) (day : Int) : List TPayment := if checkQ q = 0 then q.Waiting.filter (fun p => decide (p.Due ≤ day)) else []
def lastQ (q : TQueue) : Int := match q.Batches.getLast? with
 | none => 0
 | some b => b.Day
def takenB (ws : List Int) (p : TPayment) : Bool := decide (p.Warrant ∈ ws)
def dueB (q : TQueue) (day : Int) (ws : List Int) : Bool := decide (ws.Nodup) && ws.all fun w => q.Waiting.any fun p => decide (p.Warrant = w) && decide (p.Due ≤ day)
def takeB (q : TQueue) (day : Int) (ws : List Int) : TBatch := ⟨q.Batches.length + 1, day, q.Waiting.filter (takenB ws)⟩
def takeQ (q : TQueue) (day : Int) (ws : List Int) : TQueue × TBatch × Int :=
 if checkQ q = 0 then (if busB day = true then (if day < lastQ q then (zeroQ, zeroB, 8) else if ws.length = 0 then (zeroQ, zeroB, 10) else if 10 < ws.length ∨ 200 ≤ q.Batches.length then (zeroQ, zeroB, 3) else if dueB q day ws = true then (⟨q.Waiting.filter (fun p => !takenB ws p), q.Known, q.Batches ++ [takeB q day ws]⟩, takeB q day ws, 0) else (zeroQ, zeroB, 6)) else (zeroQ, zeroB, 66)) else (zeroQ, zeroB, checkQ q)
open Go.PA
open Go.RowKit
theorem ins_split {α : Type} (lt : α → α → Bool) (l : List α) (a : α) : ∃ A B, l = A ++ B ∧ ins lt l a = A ++ a :: B ∧ (∀ x, x ∈ A → lt x a = true) ∧ ∀ x, B.head? = some x → lt x a = false := by
 refine ⟨l.takeWhile fun x => lt x a, l.dropWhile fun x => lt x a, by rw [List.takeWhile_append_dropWhile], rfl, fun x hx => ?_, fun x hx => ?_⟩
 ·exact List.all_eq_true.1 (List.all_takeWhile (p := fun x => lt x a) (l := l)) x hx
 ·have := List.head?_dropWhile_not (p := fun x => lt x a) (l := l)
  rw [hx] at this
  simpa using this
theorem ins_perm {α : Type} (lt : α → α → Bool) (l : List α) (a : α) : (ins lt l a).Perm (a :: l) := by
 obtain ⟨A, B, h1, h2, _⟩ := ins_split lt l a
 rw [h2, h1]
 exact List.perm_middle
theorem ins_len {α : Type} (lt : α → α → Bool) (l : List α) (a : α) : (ins lt l a).length = l.length + 1 := by
 rw [(ins_perm lt l a).length_eq]; rfl
theorem mem_ins {α : Type} {lt : α → α → Bool} {l : List α} {a x : α} : x ∈ ins lt l a ↔ x = a ∨ x ∈ l := by
 rw [(ins_perm lt l a).mem_iff, List.mem_cons]
theorem ins_sorted {α : Type} {lt : α → α → Bool} {R : α → α → Prop} (hR : ∀ x y, lt x y = true ↔ R x y) (tr : ∀ {x y z}, R x y → R y z → R x z) {l : List α} {a : α} (hl : l.Pairwise R) (tot : ∀ x, x ∈ l → R x a ∨ R a x) : (ins lt l a).Pairwise R := by
 obtain ⟨A, B, rfl, h2, h3, h4⟩ := ins_split lt l a
 rw [h2]
 rw [List.pairwise_append] at hl ⊢
 obtain ⟨p1, p2, p3⟩ := hl
 have ha : ∀ x, x ∈ B → R a x := by
  cases B with
  | nil => simp
  | cons b B =>
   have hb : R a b := (tot b (by simp)).resolve_left fun h => by
    have := h4 b rfl
    rw [(hR _ _).2 h] at this
    cases this
   intro x hx
   rcases List.mem_cons.1 hx with rfl | hx
   ·exact hb
   ·exact tr hb (List.rel_of_pairwise_cons p2 hx)
 refine ⟨p1, List.pairwise_cons.2 ⟨ha, p2⟩, fun x hx y hy => ?_⟩
 rcases List.mem_cons.1 hy with rfl | hy
 ·exact (hR _ _).1 (h3 x hx)
 ·exact p3 x hx y hy
theorem befB_bef (a b : TPayment) : befB a b = true ↔ Bef a b := befB_iff
theorem ltB_lt (a b : Int) : ltB a b = true ↔ a < b := by simp [ltB]
theorem waitQ_none {q : TQueue} {w : Int} : waitQ q w < 0 ↔ ∀ p, p ∈ q.Waiting → p.Warrant ≠ w := by
 unfold waitQ
 rcases idxI_spec (fun p : TPayment => decide (p.Warrant = w)) q.Waiting with ⟨h1, h2⟩ | ⟨i, a, h1, h2, h3, h4⟩
 ·rw [h1]
  exact ⟨fun _ p hp => by simpa using h2 p hp, fun _ => by omega⟩
 ·rw [h3]
  exact ⟨fun h => by omega, fun h => absurd (by simpa using h2) (h a (List.mem_of_getElem? h1))⟩
theorem waitQ_some {q : TQueue} {w : Int} (h : ¬ waitQ q w < 0) : ∃ (i : Nat) (p : TPayment), waitQ q w = i ∧ q.Waiting[i]? = some p ∧ p.Warrant = w ∧ i < q.Waiting.length := by
 unfold waitQ at *
 rcases idxI_spec (fun p : TPayment => decide (p.Warrant = w)) q.Waiting with ⟨h1, h2⟩ | ⟨i, a, h1, h2, h3, h4⟩
 ·omega
 ·exact ⟨i, a, h3, h1, by simpa using h2, (gsI h1)⟩
theorem AscOk.mono {K K' : List Int} {l : List TPayment} (h : AscOk K l) (hk : ∀ w, w ∈ K → w ∈ K') : AscOk K' l := ⟨h.pay, h.ord, fun p hp => hk _ (h.kn p hp), h.nd⟩
theorem AscOk.sub {K : List Int} {l l' : List TPayment} (h : AscOk K l) (hs : l'.Sublist l) : AscOk K l' := ⟨fun p hp => h.pay p (hs.subset hp), h.ord.sublist hs, fun p hp => h.kn p (hs.subset hp), h.nd.sublist (hs.map _)⟩
theorem batB_mono {K K' : List Int} (hk : ∀ w, w ∈ K → w ∈ K') {i d : Int} {b : TBatch} (h : batB K i d b = true) : batB K' i d b = true := by
 unfold batB at *
 simp only [Bool.and_eq_true, ascB_iff] at h ⊢
 exact ⟨h.1, h.2.1, h.2.2.1, h.2.2.2.1, h.2.2.2.2.mono hk⟩
theorem batsFrom_mono {K K' : List Int} (hk : ∀ w, w ∈ K → w ∈ K') : ∀ {l : List TBatch} {i d : Int}, batsFrom K i d l = true → batsFrom K' i d l = true
 | [], _, _, _ => rfl
 | b :: l, i, d, h => by
  rw [batsFrom, Bool.and_eq_true] at h ⊢
  exact ⟨batB_mono hk h.1, batsFrom_mono hk h.2⟩
def lastFrom (d : Int) (l : List TBatch) : Int := match l.getLast? with
 | none => d
 | some b => b.Day
theorem lastFrom_cons (d : Int) (b : TBatch) (l : List TBatch) : lastFrom d (b :: l) = lastFrom b.Day l := by
 unfold lastFrom
 cases l with
 | nil => rfl
 | cons c l => rw [List.getLast?_cons_cons]; cases h : (c :: l).getLast? with
  | none => simp at h
  | some x => rfl
theorem batsFrom_snoc {K : List Int} {b : TBatch} : ∀ {l : List TBatch} {i d : Int}, batsFrom K i d l = true → batB K (i + l.length) (lastFrom d l) b = true → batsFrom K i d (l ++ [b]) = true
 | [], i, d, _, h => by
  have : batB K i d b = true := by simpa [lastFrom] using h
  simp [batsFrom, this]
 | c :: l, i, d, h, k => by
  rw [batsFrom, Bool.and_eq_true] at h
  rw [List.cons_append, batsFrom, Bool.and_eq_true]
  rw [lastFrom_cons, List.length_cons] at k
  exact ⟨h.1, batsFrom_snoc h.2 (by rw [show i + 1 + (l.length : Int) = i + ((l.length + 1 : Nat) : Int) by omega]; exact k)⟩
theorem zeroQ_ok : QOk zeroQ := checkQ_iff.1 (by decide)
theorem QOk.nod {q : TQueue} (h : QOk q) {w : Int} (hw : w ∉ q.Known) : ∀ p, p ∈ q.Waiting → p.Warrant ≠ w := fun p hp e => hw (e ▸ h.asc.kn p hp)
theorem AscOk.ins {K : List Int} {l : List TPayment} {p : TPayment} (h : AscOk K l) (hp : PayOk p) (hk : p.Warrant ∈ K) (hn : ∀ x, x ∈ l → x.Warrant ≠ p.Warrant) : AscOk K (ins befB l p) := by
 refine ⟨fun x hx => ?_, ins_sorted befB_bef Bef.trans h.ord fun x hx => Bef.tot (hn x hx), fun x hx => ?_, ?_⟩
 ·rcases mem_ins.1 hx with rfl | hx
  ·exact hp
  ·exact h.pay x hx
 ·rcases mem_ins.1 hx with rfl | hx
  ·exact hk
  ·exact h.kn x hx
 ·refine (((ins_perm befB l p).map (·.Warrant)).nodup_iff).2 ?_
  rw [List.map_cons, List.nodup_cons]
  refine ⟨fun hm => ?_, h.nd⟩
  obtain ⟨x, hx, e⟩ := List.mem_map.1 hm
  exact hn x hx e
theorem addQ_ok {q x : TQueue} {p : TPayment} (h : addQ q p = (x, 0)) : QOk q ∧ PayOk p ∧ p.Warrant ∉ q.Known ∧ q.Waiting.length < 100 ∧ q.Known.length < 200 ∧ x = ⟨ins befB q.Waiting p, ins ltB q.Known p.Warrant, q.Batches⟩ ∧ QOk x := by
 unfold addQ at h
 split at h
 ·rename_i c1
  split at h
  ·rename_i c2
   split at h
   ·simp at h
   ·rename_i c3
    split at h
    ·simp at h
    ·rename_i c4
     have hq := checkQ_iff.1 c1
     have hp := (payB_iff p).1 c2
     have := hq.lw
     have := hq.lk
     have hm : ∀ w, w ∈ q.Known → w ∈ ins ltB q.Known p.Warrant := fun w hw => mem_ins.2 (.inr hw)
     simp only [Prod.mk.injEq, and_true] at h
     refine ⟨hq, hp, c3, by omega, by omega, h.symm, h ▸ ⟨?_, ?_, hq.lb, ?_, ?_, ?_, ?_⟩⟩
     ·simp only [ins_len]; omega
     ·simp only [ins_len]; omega
     ·intro w hw
      rcases mem_ins.1 hw with rfl | hw
      ·exact hp.warrant
      ·exact hq.kn w hw
     ·refine ins_sorted ltB_lt Int.lt_trans hq.ks fun x hx => ?_
      have : x ≠ p.Warrant := fun e => c3 (e ▸ hx)
      omega
     ·exact (hq.asc.mono hm).ins hp (mem_ins.2 (.inl rfl)) (hq.nod c3)
     ·exact batsFrom_mono hm hq.bats
  ·simp at h
 ·rename_i c1
  simp only [Prod.mk.injEq] at h
  exact absurd h.2 c1
theorem againQ_ok {q x : TQueue} {p : TPayment} (h : againQ q p = (x, 0)) : QOk q ∧ PayOk p ∧ p.Warrant ∈ q.Known ∧ (∀ y, y ∈ q.Waiting → y.Warrant ≠ p.Warrant) ∧ q.Waiting.length < 100 ∧ x = ⟨ins befB q.Waiting p, q.Known, q.Batches⟩ ∧ QOk x := by
 unfold againQ at h
 split at h
 ·rename_i c1
  split at h
  ·rename_i c2
   split at h
   ·rename_i c3
    split at h
    ·simp at h
    ·rename_i c4
     split at h
     ·simp at h
     ·rename_i c5
      have hq := checkQ_iff.1 c1
      have hp := (payB_iff p).1 c2
      have := hq.lw
      have hn := waitQ_none.1 (show waitQ q p.Warrant < 0 by omega)
      simp only [Prod.mk.injEq, and_true] at h
      refine ⟨hq, hp, c3, hn, by omega, h.symm, h ▸ ⟨?_, hq.lk, hq.lb, hq.kn, hq.ks, ?_, hq.bats⟩⟩
      ·simp only [ins_len]; omega
      ·exact hq.asc.ins hp c3 hn
   ·simp at h
  ·simp at h
 ·rename_i c1
  simp only [Prod.mk.injEq] at h
  exact absurd h.2 c1
theorem dropQ_ok {q x : TQueue} {w : Int} (h : dropQ q w = (x, 0)) : QOk q ∧ (∃ p, p ∈ q.Waiting ∧ p.Warrant = w) ∧ x = ⟨q.Waiting.eraseIdx (waitQ q w).toNat, q.Known, q.Batches⟩ ∧ QOk x := by
 unfold dropQ at h
 split at h
 ·rename_i c1
  split at h
  ·simp at h
  ·rename_i c2
   have hq := checkQ_iff.1 c1
   obtain ⟨i, p, h1, h2, h3, h4⟩ := waitQ_some c2
   simp only [Prod.mk.injEq, and_true] at h
   refine ⟨hq, ⟨p, List.mem_of_getElem? h2, h3⟩, h.symm, h ▸ ⟨?_, hq.lk, hq.lb, hq.kn, hq.ks, hq.asc.sub (List.eraseIdx_sublist _ _), hq.bats⟩⟩
   have := (List.eraseIdx_sublist q.Waiting (waitQ q w).toNat).length_le
   have := hq.lw
   simp only
   omega
 ·rename_i c1
  simp only [Prod.mk.injEq] at h
  exact absurd h.2 c1
theorem nodup_sub : ∀ (M ws : List Int), M.Nodup → (∀ x, x ∈ M → x ∈ ws) → M.length ≤ ws.length ∧ (M.length = ws.length → ws.Nodup ∧ ∀ x, x ∈ ws → x ∈ M)
 | [], ws, _, _ => ⟨by simp, fun h => by
   have : ws = [] := List.eq_nil_of_length_eq_zero h.symm
   subst this
   simp⟩
 | a :: M, ws, hn, hs => by
  have ha := hs a (by simp)
  have hp := List.perm_cons_erase ha
  rw [List.nodup_cons] at hn
  have hl : ws.length = (ws.erase a).length + 1 := hp.length_eq
  obtain ⟨i1, i2⟩ := nodup_sub M (ws.erase a) hn.2 fun x hx => (List.mem_erase_of_ne (fun e => hn.1 (by rw [← e]; exact hx))).2 (hs x (by simp [hx]))
  refine ⟨by simp only [List.length_cons]; omega, fun h => ?_⟩
  simp only [List.length_cons] at h
  obtain ⟨j1, j2⟩ := i2 (by omega)
  refine ⟨hp.nodup_iff.2 (List.nodup_cons.2 ⟨fun hm => hn.1 (j2 a hm), j1⟩), fun x hx => ?_⟩
  rcases List.mem_cons.1 (hp.mem_iff.1 hx) with rfl | hx
  ·simp
  ·exact List.mem_cons_of_mem _ (j2 x hx)
theorem uniqW {l : List TPayment} (h : (l.map (·.Warrant)).Nodup) {p p' : TPayment} (hp : p ∈ l) (hp' : p' ∈ l) (e : p.Warrant = p'.Warrant) : p = p' := by
 induction l with
 | nil => cases hp
 | cons a l ih =>
  rw [List.map_cons, List.nodup_cons] at h
  rcases List.mem_cons.1 hp with e1 | hp
  ·rcases List.mem_cons.1 hp' with e2 | hp'
   ·rw [e1, e2]
   ·exact absurd (List.mem_map.2 ⟨p', hp', by rw [← e, e1]⟩) h.1
  ·rcases List.mem_cons.1 hp' with e2 | hp'
   ·exact absurd (List.mem_map.2 ⟨p, hp, by rw [e, e2]⟩) h.1
   ·exact ih h.2 hp hp'
theorem dueB_iff {q : TQueue} {day : Int} {ws : List Int} : dueB q day ws = true ↔ ws.Nodup ∧ ∀ w, w ∈ ws → ∃ p, p ∈ q.Waiting ∧ p.Warrant = w ∧ p.Due ≤ day := by
 simp [dueB]
theorem dueB_filter {q : TQueue} {day : Int} {ws : List Int} (hn : (q.Waiting.map (·.Warrant)).Nodup) (h : dueB q day ws = true) : (q.Waiting.filter fun p => decide (p.Due ≤ day)).filter (takenB ws) = q.Waiting.filter (takenB ws) := by
 obtain ⟨_, h⟩ := dueB_iff.1 h
 rw [List.filter_filter]
 refine List.filter_congr fun p hp => ?_
 cases ht : takenB ws p
 ·rfl
 ·obtain ⟨p', h1, h2, h3⟩ := h p.Warrant (by simpa [takenB] using ht)
  have := uniqW hn h1 hp h2
  subst this
  simp [h3]
theorem dueB_len {q : TQueue} {day : Int} {ws : List Int} (hn : (q.Waiting.map (·.Warrant)).Nodup) : ((q.Waiting.filter fun p => decide (p.Due ≤ day)).filter (takenB ws)).length = ws.length ↔ dueB q day ws = true := by
 have hM := hn.sublist (((List.filter_sublist (p := takenB ws)).trans (List.filter_sublist (l := q.Waiting) (p := fun p => decide (p.Due ≤ day)))).map (·.Warrant))
 have hs : ∀ x, x ∈ ((q.Waiting.filter fun p => decide (p.Due ≤ day)).filter (takenB ws)).map (·.Warrant) → x ∈ ws := fun x hx => by
  obtain ⟨p, hp, rfl⟩ := List.mem_map.1 hx
  simpa [takenB] using (List.mem_filter.1 hp).2
 obtain ⟨h1, h2⟩ := nodup_sub _ ws hM hs
 rw [List.length_map] at h1 h2
 rw [dueB_iff]
 constructor
 ·intro h
  obtain ⟨h3, h4⟩ := h2 h
  refine ⟨h3, fun w hw => ?_⟩
  obtain ⟨p, hp, e⟩ := List.mem_map.1 (h4 w hw)
  obtain ⟨hp, _⟩ := List.mem_filter.1 hp
  obtain ⟨hp, hd⟩ := List.mem_filter.1 hp
  exact ⟨p, hp, e, by simpa using hd⟩
 ·rintro ⟨h3, h4⟩
  have := h3.length_le_of_subset (l₂ := ((q.Waiting.filter fun p => decide (p.Due ≤ day)).filter (takenB ws)).map (·.Warrant)) fun w hw => by
   obtain ⟨p, hp, e, hd⟩ := h4 w hw
   exact List.mem_map.2 ⟨p, List.mem_filter.2 ⟨List.mem_filter.2 ⟨hp, by simpa using hd⟩, by simpa [takenB, e] using hw⟩, e⟩
  rw [List.length_map] at this
  omega
theorem taken_len {q : TQueue} {day : Int} {ws : List Int} (hn : (q.Waiting.map (·.Warrant)).Nodup) (h : dueB q day ws = true) : (q.Waiting.filter (takenB ws)).length = ws.length := by
 rw [← dueB_filter hn h]
 exact (dueB_len hn).2 h
theorem takeQ_ok {q x : TQueue} {b : TBatch} {day : Int} {ws : List Int} (h : takeQ q day ws = (x, b, 0)) : QOk q ∧ busB day = true ∧ lastQ q ≤ day ∧ 1 ≤ ws.length ∧ ws.length ≤ 10 ∧ dueB q day ws = true ∧ x = ⟨q.Waiting.filter (fun p => !takenB ws p), q.Known, q.Batches ++ [takeB q day ws]⟩ ∧ b = takeB q day ws ∧ QOk x := by
 unfold takeQ at h
 split at h
 ·rename_i c1
  split at h
  ·rename_i c2
   split at h
   ·simp at h
   ·rename_i c3
    split at h
    ·simp at h
    ·rename_i c4
     split at h
     ·simp at h
     ·rename_i c5
      split at h
      ·rename_i c6
       have hq := checkQ_iff.1 c1
       simp only [Prod.mk.injEq, and_true] at h
       refine ⟨hq, c2, by omega, by omega, by omega, c6, h.1.symm, h.2.symm, h.1 ▸ ⟨?_, hq.lk, ?_, hq.kn, hq.ks, hq.asc.sub List.filter_sublist, ?_⟩⟩
       ·have := List.length_filter_le (fun p => !takenB ws p) q.Waiting
        have := hq.lw
        simp only
        omega
       ·simp only [List.length_append, List.length_cons, List.length_nil]
        omega
       ·refine batsFrom_snoc hq.bats ?_
        have := taken_len hq.asc.nd c6
        simp only [batB, takeB, Bool.and_eq_true, ascB_iff, amg_iff]
        refine ⟨decide_eq_true (by omega), decide_eq_true ?_, c2, by omega, hq.asc.sub List.filter_sublist⟩
        have : lastFrom 0 q.Batches = lastQ q := rfl
        omega
      ·simp at h
  ·simp at h
 ·rename_i c1
  simp only [Prod.mk.injEq] at h
  exact absurd h.2.2 c1
open Go.PA
open Go.RowKit
abbrev itemsL (l : List TItem) : AV := .list 7 (encL TItem.cells l)
theorem imm_items (l : List TItem) : Imm (itemsL l) := imm_encL _ TItem.imm _
theorem cIt (x : TItem) : x.cells = [iv x.Payment.Warrant, iv x.Payment.Payee, iv x.Payment.Amount, iv x.Payment.Due, iv x.Payment.Sub, iv x.State, iv x.Attempts] := rfl
theorem imm_item (c : TItem) : Imm (.agg c.cells) := imm_agg.2 c.imm
theorem imm_desk (c : TDesk) : Imm (.agg c.cells) := imm_agg.2 c.imm
abbrev zeroD : TDesk := ⟨zeroA, zeroQ, []⟩
def wrt (x : TItem) : Int := x.Payment.Warrant
structure FitD (d : TDesk) : Prop where
 s : d.Account.Subs.length ≤ 100000
 e : d.Account.Entries.length ≤ 100000
 q : FitQ d.Queue
 i : d.Items.length ≤ 100000
def outE (p : TPayment) (e : TEntry) : Bool := decide (e.Ref = p.Warrant) && (decide (e.From = p.Sub) && decide (e.To = 0))
def inE (p : TPayment) (e : TEntry) : Bool := decide (e.Ref = p.Warrant) && (decide (e.From = 0) && decide (e.To = p.Sub))
def okE (p : TPayment) (e : TEntry) : Bool := !decide (e.Ref = p.Warrant) || (decide (e.Amount = p.Amount) && (decide (e.From = p.Sub) && decide (e.To = 0) || decide (e.From = 0) && decide (e.To = p.Sub)))
def goneB (x : TItem) : Bool := decide (x.State = 2) || decide (x.State = 3)
def goneN (x : TItem) : Nat := if goneB x = true then 1 else 0
def movedB (a : TAccount) (x : TItem) : Bool := a.Entries.all (okE x.Payment) && (decide ((a.Entries.countP (outE x.Payment) : Int) = x.Attempts) && decide ((a.Entries.countP (inE x.Payment) : Int) + goneN x = x.Attempts))
def hasW (w : Int) (p : TPayment) : Bool := decide (p.Warrant = w)
def sentN (q : TQueue) (w : Int) : Nat := q.Batches.countP fun b => b.Payments.any (hasW w)
def batN (q : TQueue) (w : Int) : Nat := (q.Batches.map fun b => b.Payments.countP (hasW w)).sum
def waitO (q : TQueue) (w : Int) : Option TPayment := q.Waiting.find? (hasW w)
def waitB (q : TQueue) (x : TItem) : Bool := match waitO q x.Payment.Warrant with
 | none => !decide (x.State = 1)
 | some w => decide (x.State = 1) && decide (w = x.Payment)
def attB (x : TItem) : Bool := amg x.Attempts 0 5 && (!(decide (x.Attempts = 5) && decide (x.State = 1)) && !(decide (x.Attempts = 0) && !(decide (x.State = 1) || decide (x.State = 5))))
def itemB (d : TDesk) (x : TItem) : Bool := payB x.Payment && ((balanceA d.Account x.Payment.Sub).2 && (amg x.State 1 5 && (attB x && (waitB d.Queue x && (decide ((batN d.Queue x.Payment.Warrant : Int) = x.Attempts) && movedB d.Account x)))))
def deskB (d : TDesk) : Bool := decide (d.Items.map wrt = d.Queue.Known) && d.Items.all (itemB d)
def checkD (d : TDesk) : Int := if checkA d.Account = 0 then (if checkQ d.Queue = 0 then (if deskB d = true then 0 else 68) else checkQ d.Queue) else checkA d.Account
def mostI (x : TItem) : Int := if x.State = 1 then 4 else 5
def leastI (x : TItem) : Int := if x.State = 1 then 0 else if x.State = 5 then 0 else 1
def rightB (d : TDesk) (x : TItem) : Bool := (balanceA d.Account x.Payment.Sub).2 && (payB x.Payment && (amg x.State 1 5 && (amg x.Attempts (leastI x) (mostI x) && (decide (decide (x.Payment ∈ d.Queue.Waiting) = decide (x.State = 1)) && (decide ((sentN d.Queue x.Payment.Warrant : Int) = x.Attempts) && movedB d.Account x)))))
def queuedB (x : TItem) : Bool := decide (x.State = 1)
def deskP (d : TDesk) : Bool := d.Items.all (rightB d) && (decide (d.Items.map wrt = d.Queue.Known) && decide (d.Items.countP queuedB = d.Queue.Waiting.length))
theorem attB_eq {x : TItem} : amg x.Attempts (leastI x) (mostI x) = attB x := by
 unfold attB mostI leastI
 by_cases h1 : x.State = 1
 ·simp only [h1, if_true, decide_true, Bool.and_true, Bool.true_or, Bool.not_true, Bool.and_false, Bool.not_false, amg]
  rw [Bool.eq_iff_iff]
  simp only [Bool.and_eq_true, decide_eq_true_eq, Bool.not_eq_true', decide_eq_false_iff_not]
  omega
 ·by_cases h5 : x.State = 5
  ·simp [h5, amg]
  ·simp only [h1, h5, if_false, decide_false, Bool.and_false, Bool.not_false, Bool.true_and, Bool.false_or, Bool.and_true, amg]
   rw [Bool.eq_iff_iff]
   simp only [Bool.and_eq_true, decide_eq_true_eq, Bool.not_eq_true', decide_eq_false_iff_not]
   omega
theorem batN_eq {q : TQueue} (h : QOk q) (w : Int) : batN q w = sentN q w := by
 have each : ∀ b, b ∈ q.Batches → (b.Payments.map (·.Warrant)).Nodup := fun b hb => (batsFrom_len h.bats b hb).2.2.1.nd
 have one : ∀ l : List TPayment, (l.map (·.Warrant)).Nodup → l.countP (hasW w) = if l.any (hasW w) = true then 1 else 0 := by
  intro l
  induction l with
  | nil => intro _; rfl
  | cons p l ih =>
   intro hn
   rw [List.map_cons, List.nodup_cons] at hn
   rw [List.countP_cons, List.any_cons, ih hn.2]
   by_cases hp : p.Warrant = w
   ·have : l.any (hasW w) = false := by
     refine List.any_eq_false.2 fun x hx e => hn.1 (List.mem_map.2 ⟨x, hx, ?_⟩)
     have : x.Warrant = w := by simpa [hasW] using e
     omega
    have hw : hasW w p = true := by simp [hasW, hp]
    rw [this, hw]
    rfl
   ·have : hasW w p = false := by simp [hasW, hp]
    rw [this]
    simp
 unfold batN sentN
 revert each
 generalize q.Batches = l
 intro each
 induction l with
 | nil => rfl
 | cons b l ih =>
  rw [List.map_cons, List.sum_cons, List.countP_cons, ih fun b hb => each b (List.mem_cons_of_mem _ hb), one _ (each b (by simp))]
  omega
theorem uniqI {l : List TItem} (h : (l.map wrt).Nodup) {x y : TItem} (hx : x ∈ l) (hy : y ∈ l) (e : x.Payment.Warrant = y.Payment.Warrant) : x = y := by
 induction l with
 | nil => cases hx
 | cons a l ih =>
  rw [List.map_cons, List.nodup_cons] at h
  rcases List.mem_cons.1 hx with e1 | hx
  ·rcases List.mem_cons.1 hy with e2 | hy
   ·rw [e1, e2]
   ·exact absurd (List.mem_map.2 ⟨y, hy, by rw [wrt, ← e, e1]; rfl⟩) h.1
  ·rcases List.mem_cons.1 hy with e2 | hy
   ·exact absurd (List.mem_map.2 ⟨x, hx, by rw [wrt, e, e2]; rfl⟩) h.1
   ·exact ih h.2 hx hy
theorem waitO_none {q : TQueue} {w : Int} : waitO q w = none ↔ ∀ p, p ∈ q.Waiting → p.Warrant ≠ w := by
 simp [waitO, hasW]
theorem waitO_some {q : TQueue} {w : Int} {p : TPayment} (h : waitO q w = some p) : p ∈ q.Waiting ∧ p.Warrant = w := ⟨List.mem_of_find?_eq_some h, by simpa [hasW] using List.find?_some h⟩
theorem waitO_mem {q : TQueue} (hn : (q.Waiting.map (·.Warrant)).Nodup) {p : TPayment} (h : p ∈ q.Waiting) : waitO q p.Warrant = some p := by
 cases hw : waitO q p.Warrant with
 | none => exact absurd rfl (waitO_none.1 hw p h)
 | some x =>
  obtain ⟨h1, h2⟩ := waitO_some hw
  rw [uniqW hn h1 h h2]
theorem sorted_nodup {l : List Int} (h : l.Pairwise (· < ·)) : l.Nodup := h.imp fun h => by omega
theorem nodup_map_of {l : List TItem} (h : (l.map wrt).Nodup) : ∀ f : TItem → Bool, (((l.filter f).map (·.Payment)).map (·.Warrant)).Nodup := fun f => by
 rw [List.map_map]
 exact h.sublist (List.filter_sublist.map _)
theorem nodup_of_map {α β : Type} {f : α → β} {l : List α} (h : (l.map f).Nodup) : l.Nodup := (List.pairwise_map.1 h).imp fun hab e => hab (congrArg f e)
theorem wait_all {q : TQueue} {l : List TItem} (hq : QOk q) (hk : l.map wrt = q.Known) (hw : ∀ x, x ∈ l → (x.Payment ∈ q.Waiting ↔ x.State = 1)) (hc : l.countP queuedB = q.Waiting.length) : ∀ p, p ∈ q.Waiting → ∃ x, x ∈ l ∧ x.State = 1 ∧ x.Payment = p := by
 have hnk : (l.map wrt).Nodup := hk ▸ sorted_nodup hq.ks
 intro p hp
 by_cases h : p ∈ (l.filter queuedB).map (·.Payment)
 ·obtain ⟨x, hx, e⟩ := List.mem_map.1 h
  obtain ⟨h1, h2⟩ := List.mem_filter.1 hx
  exact ⟨x, h1, by simpa [queuedB] using h2, e⟩
 ·exfalso
  have hn : (p :: (l.filter queuedB).map (·.Payment)).Nodup := List.nodup_cons.2 ⟨h, nodup_of_map (nodup_map_of hnk queuedB)⟩
  have := hn.length_le_of_subset (l₂ := q.Waiting) fun y hy => by
   rcases List.mem_cons.1 hy with rfl | hy
   ·exact hp
   ·obtain ⟨x, hx, rfl⟩ := List.mem_map.1 hy
    obtain ⟨h1, h2⟩ := List.mem_filter.1 hx
    exact (hw x h1).2 (by simpa [queuedB] using h2)
  rw [List.length_cons, List.length_map, ← List.countP_eq_length_filter] at this
  omega
theorem waitB_iff {q : TQueue} {l : List TItem} (hq : QOk q) (hk : l.map wrt = q.Known) : ((∀ x, x ∈ l → waitB q x = true) ↔ (∀ x, x ∈ l → (x.Payment ∈ q.Waiting ↔ x.State = 1)) ∧ l.countP queuedB = q.Waiting.length) := by
 have hnk : (l.map wrt).Nodup := hk ▸ sorted_nodup hq.ks
 have hnd := hq.asc.nd
 constructor
 ·intro h
  have h1 : ∀ x, x ∈ l → (x.Payment ∈ q.Waiting ↔ x.State = 1) := fun x hx => by
   have := h x hx
   unfold waitB at this
   cases hw : waitO q x.Payment.Warrant with
   | none =>
    rw [hw] at this
    have h1 := waitO_none.1 hw
    exact ⟨fun hm => absurd rfl (h1 _ hm), fun e => by simp [e] at this⟩
   | some w =>
    rw [hw] at this
    simp only [Bool.and_eq_true, decide_eq_true_eq] at this
    exact ⟨fun _ => this.1, fun _ => this.2 ▸ (waitO_some hw).1⟩
  refine ⟨h1, ?_⟩
  rw [List.countP_eq_length_filter]
  have a := (nodup_of_map (nodup_map_of hnk queuedB)).length_le_of_subset (l₂ := q.Waiting) fun y hy => by
   obtain ⟨x, hx, rfl⟩ := List.mem_map.1 hy
   obtain ⟨h2, h3⟩ := List.mem_filter.1 hx
   exact (h1 x h2).2 (by simpa [queuedB] using h3)
  have b := (nodup_of_map hnd).length_le_of_subset (l₂ := (l.filter queuedB).map (·.Payment)) fun p hp => by
   have hw := hq.asc.kn p hp
   rw [← hk] at hw
   obtain ⟨x, hx, e⟩ := List.mem_map.1 hw
   have hb := h x hx
   have e : x.Payment.Warrant = p.Warrant := e
   rw [waitB, e, waitO_mem hnd hp] at hb
   simp only [Bool.and_eq_true, decide_eq_true_eq] at hb
   exact List.mem_map.2 ⟨x, List.mem_filter.2 ⟨hx, by simp [queuedB, hb.1]⟩, hb.2.symm⟩
  rw [List.length_map] at a b
  omega
 ·rintro ⟨h, hc⟩ x hx
  have hall := wait_all hq hk h hc
  unfold waitB
  cases hw : waitO q x.Payment.Warrant with
  | none =>
   have h1 := waitO_none.1 hw
   simp only [Bool.not_eq_true', decide_eq_false_iff_not]
   exact fun e => h1 _ ((h x hx).2 e) rfl
  | some w =>
   obtain ⟨h1, h2⟩ := waitO_some hw
   obtain ⟨y, hy, hs, e⟩ := hall w h1
   have : x = y := uniqI hnk hx hy (by rw [← h2, e])
   subst this
   simp [hs, e]
theorem deskP_eq {d : TDesk} (hq : QOk d.Queue) : deskP d = deskB d := by
 rw [Bool.eq_iff_iff]
 unfold deskP deskB rightB itemB
 simp only [Bool.and_eq_true, List.all_eq_true, decide_eq_true_eq, attB_eq, batN_eq hq, decide_eq_decide]
 constructor
 ·rintro ⟨h1, h2, h3⟩
  have hw := (waitB_iff hq h2).2 ⟨fun x hx => (h1 x hx).2.2.2.2.1, h3⟩
  exact ⟨h2, fun x hx => ⟨(h1 x hx).2.1, (h1 x hx).1, (h1 x hx).2.2.1, (h1 x hx).2.2.2.1, hw x hx, (h1 x hx).2.2.2.2.2⟩⟩
 ·rintro ⟨h2, h1⟩
  obtain ⟨hw, hc⟩ := (waitB_iff hq h2).1 fun x hx => (h1 x hx).2.2.2.2.1
  exact ⟨fun x hx => ⟨(h1 x hx).2.1, (h1 x hx).1, (h1 x hx).2.2.1, (h1 x hx).2.2.2.1, hw x hx, (h1 x hx).2.2.2.2.2⟩, h2, hc⟩
def refB (w : Int) (e : TEntry) : Bool := decide (e.Ref = w)
def openD (a : TAccount) : TDesk × Int := if checkA a = 0 then (if (a.Entries.any fun e => !refB 0 e) = true then (zeroD, 68) else (⟨a, zeroQ, []⟩, 0)) else (zeroD, checkA a)
def ltI (x y : TItem) : Bool := decide (x.Payment.Warrant < y.Payment.Warrant)
def posI (l : List TItem) (w : Int) : Int := idxI (fun x => decide (x.Payment.Warrant = w)) l
def orderD (d : TDesk) (p : TPayment) : TDesk × Int :=
 if checkD d = 0 then (if (addQ d.Queue p).2 = 0 then (if (balanceA d.Account p.Sub).2 = true then (if d.Account.Entries.any (refB p.Warrant) = true then (zeroD, 65) else (⟨d.Account, (addQ d.Queue p).1, ins ltI d.Items ⟨p, 1, 0⟩⟩, 0)) else (zeroD, 60)) else (zeroD, (addQ d.Queue p).2)) else (zeroD, checkD d)
structure Done1 where
 a : TAccount
 q : TQueue
 x : TItem
 e : Int
def changeD (d : TDesk) (w st : Int) (f : TDesk → TItem → Done1) : TDesk × Int :=
 if checkD d = 0 then (match d.Items[(posI d.Items w).toNat]? with
  | none => (zeroD, 6)
  | some x => if posI d.Items w < 0 then (zeroD, 6) else if x.State = st then (if (f d x).e = 0 then (⟨(f d x).a, (f d x).q, d.Items.set (posI d.Items w).toNat (f d x).x⟩, 0) else (zeroD, (f d x).e)) else (zeroD, 67)) else (zeroD, checkD d)
def recallF (w : Int) (d : TDesk) (x : TItem) : Done1 := ⟨d.Account, (dropQ d.Queue w).1, ⟨x.Payment, 5, x.Attempts⟩, (dropQ d.Queue w).2⟩
def settleF (d : TDesk) (x : TItem) : Done1 := ⟨d.Account, d.Queue, ⟨x.Payment, 3, x.Attempts⟩, 0⟩
def returnF (w day : Int) (d : TDesk) (x : TItem) : Done1 := ⟨(postA d.Account (nextE d.Account day 0 x.Payment.Sub x.Payment.Amount w)).1, d.Queue, ⟨x.Payment, 4, x.Attempts⟩, (postA d.Account (nextE d.Account day 0 x.Payment.Sub x.Payment.Amount w)).2⟩
def duePay (p : TPayment) (due : Int) : TPayment := ⟨p.Warrant, p.Payee, p.Amount, due, p.Sub⟩
def againF (due : Int) (d : TDesk) (x : TItem) : Done1 := if x.Attempts = 5 then ⟨d.Account, d.Queue, x, 3⟩ else ⟨d.Account, (againQ d.Queue (duePay x.Payment due)).1, ⟨duePay x.Payment due, 1, x.Attempts⟩, (againQ d.Queue (duePay x.Payment due)).2⟩
def recallD (d : TDesk) (w : Int) : TDesk × Int := changeD d w 1 (recallF w)
def settleD (d : TDesk) (w : Int) : TDesk × Int := changeD d w 2 settleF
def returnD (d : TDesk) (w day : Int) : TDesk × Int := changeD d w 2 (returnF w day)
def againD (d : TDesk) (w due : Int) : TDesk × Int := changeD d w 4 (againF due)
def sendGo (day : Int) : List TPayment → TAccount → List Int → Bool → TAccount × List Int × Bool
 | [], a, ws, full => (a, ws, full)
 | p :: l, a, ws, full => if ws.length = 10 then (a, ws, full) else
  if (postA a (nextE a day p.Sub 0 p.Amount p.Warrant)).2 = 0 then sendGo day l (postA a (nextE a day p.Sub 0 p.Amount p.Warrant)).1 (ws ++ [p.Warrant]) full else sendGo day l a ws (full || decide ((postA a (nextE a day p.Sub 0 p.Amount p.Warrant)).2 = 3))
def sentI (ws : List Int) (x : TItem) : TItem := if x.Payment.Warrant ∈ ws then ⟨x.Payment, 2, x.Attempts + 1⟩ else x
def lastDay (a : TAccount) : Int := (lastE a).Day
def goD (d : TDesk) (day : Int) : TAccount × List Int × Bool := sendGo day (readyQ d.Queue day) d.Account [] false
def sendD (d : TDesk) (day : Int) : TDesk × TBatch × Int :=
 if checkD d = 0 then (if busB day = true then (if day < lastQ d.Queue ∨ day < lastDay d.Account then (zeroD, zeroB, 8) else
  if (goD d day).2.1.length = 0 then (zeroD, zeroB, if (goD d day).2.2 = true then 3 else 10) else
  if (takeQ d.Queue day (goD d day).2.1).2.2 = 0 then (⟨(goD d day).1, (takeQ d.Queue day (goD d day).2.1).1, d.Items.map (sentI (goD d day).2.1)⟩, (takeQ d.Queue day (goD d day).2.1).2.1, 0) else (zeroD, zeroB, (takeQ d.Queue day (goD d day).2.1).2.2)) else (zeroD, zeroB, 66)) else (zeroD, zeroB, checkD d)
def stateD (d : TDesk) (w : Int) : Int := if checkD d = 0 then (match d.Items[(posI d.Items w).toNat]? with | none => 0 | some x => if posI d.Items w < 0 then 0 else x.State) else 0
def addPaid (s : Int) (x : TItem) : Int := if x.State = 3 then IntKind.i64.wrap (s + x.Payment.Amount) else s
def paidD (d : TDesk) : Int := if checkD d = 0 then d.Items.foldl addPaid 0 else 0
structure DOk (d : TDesk) : Prop where
 a : checkA d.Account = 0
 q : QOk d.Queue
 k : d.Items.map wrt = d.Queue.Known
 i : ∀ x, x ∈ d.Items → itemB d x = true
theorem checkD_iff {d : TDesk} : checkD d = 0 ↔ DOk d := by
 unfold checkD
 split
 ·rename_i h1
  split
  ·rename_i h2
   split
   ·rename_i h3
    rw [deskB, Bool.and_eq_true, decide_eq_true_eq, List.all_eq_true] at h3
    exact ⟨fun _ => ⟨h1, checkQ_iff.1 h2, h3.1, h3.2⟩, fun _ => rfl⟩
   ·rename_i h3
    refine ⟨fun e => absurd e (by decide), fun h => absurd ?_ h3⟩
    rw [deskB, Bool.and_eq_true, decide_eq_true_eq, List.all_eq_true]
    exact ⟨h.k, h.i⟩
  ·rename_i h2
   exact ⟨fun e => absurd e h2, fun h => absurd (checkQ_iff.2 h.q) h2⟩
 ·rename_i h1
  exact ⟨fun e => absurd e h1, fun h => absurd h.a h1⟩
open Go.PA
open Go.RowKit
theorem valid_pf (n : Int) : PFun Tryz.prog none none 104 [iv n] (· = bv (vB n)) := by
 refine pfun_intro Tryz.func104 rfl (by simp [Tryz.f104]) (by kernel_rfl) ?_
 intro E hP hr hs hW hN
 by_cases h1 : 0 ≤ n <;> by_cases h2 : n ≤ 1000000000000 <;> simp -dsimp -implicitDefEqProofs [-getElem?_pos, go_sem, hP, h1, h2, vB, amongB]
theorem among_pf (n lo hi : Int) : PFun Tryz.prog none none 154 [iv n, iv lo, iv hi] (· = bv (amongB n lo hi)) := by
 refine pfun_intro Tryz.func154 rfl (by simp [Tryz.f154]) (by kernel_rfl) ?_
 intro E hP hr hs hW hN
 by_cases h1 : lo ≤ n <;> by_cases h2 : n ≤ hi <;> simp -dsimp -implicitDefEqProofs [-getElem?_pos, go_sem, hP, h1, h2, amongB]
theorem positive_pf (n : Int) : PFun Tryz.prog none none 166 [iv n] (· = bv (decide (0 < n) && vB n)) := by
 refine pfun_intro Tryz.func166 rfl (by simp [Tryz.f166]) (by kernel_rfl) ?_
 intro E hP hr hs hW hN
 by_cases h1 : 0 < n
 ·have d1 : decide (0 < n) = true := decide_eq_true h1
  simp -dsimp -implicitDefEqProofs [-getElem?_pos, go_sem, hP, d1]
  refine callB_pure (valid_pf n) hP en_104 (args_same (by simp -dsimp [-getElem?_pos, go_sem])) .sc ?_
  simp -dsimp -implicitDefEqProofs [-getElem?_pos, go_sem, hP, d1]
 ·simp -dsimp -implicitDefEqProofs [-getElem?_pos, go_sem, hP, h1]
theorem numbers_pf (l : List TSub) (hl : l.length ≤ 100000) : PFun Tryz.prog none none 106 [subsL l] (· = numsL (ids l)) := by
 refine pfun_intro Tryz.func106 rfl (by simp [Tryz.f106]) (by kernel_rfl) ?_
 intro E hP hr hs hW hN
 simp -dsimp -implicitDefEqProofs [-getElem?_pos, go_sem, hP]
 refine aloop_own 3 3 1 (by simp -dsimp [-getElem?_pos, go_sem]) ?_
 obtain ⟨I, hI⟩ : ∃ I : Nat → St → Prop, I = fun m s => ∃ k id : Nat, k ≤ l.length ∧ m = l.length - k ∧ s.t 6 = subsL l ∧ s.t 7 = iv l.length ∧ s.t 8 = iv k ∧ s.t 3 = .sref id 0 k ∧ s.H[id]? = some (some ⟨3, 1, encL encI (ids (l.take k))⟩) := ⟨_, rfl⟩
 refine aloopF 3 hW I (l.length) (by rw [hN]; rfl) ?_ ?_
 ·rw [hI]
  exact ⟨0, 0, by omega, by omega, by simp -dsimp [-getElem?_pos, go_sem], by simp -dsimp [-getElem?_pos, go_sem], by simp -dsimp [-getElem?_pos, go_sem], by simp -dsimp [-getElem?_pos, go_sem], by simp -dsimp [-getElem?_pos, go_sem, ids]⟩
 intro m s hs'
 rw [hI] at hs'
 obtain ⟨k, id, hk, hm, t6, t7, t8, t3, hH⟩ := hs'
 have hlt := (gsI hH)
 have hz : (ids (l.take k)).length = k := by rw [ids_len]; simp; omega
 simp -dsimp -implicitDefEqProofs [-getElem?_pos, go_sem, hP, t7, t8]
 refine condP (fun h => ?_) (fun h => ?_)
 ·have hk : k < l.length := by simpa using h
  obtain ⟨a, ha⟩ : ∃ a, l[k]? = some a := ⟨_, List.getElem?_eq_getElem hk⟩
  have wk := wrap_in ((k : Int) + 1) (by omega)
  have e1 : ids (l.take (k + 1)) = ids (l.take k) ++ [a.ID] := by rw [List.take_add_one, ha]; simp [ids]
  simp -dsimp -implicitDefEqProofs [-getElem?_pos, go_sem, hP, t6, t8, t3, ha, TSub.cells, hH, hz, hlt, wk]
  refine ⟨by omega, by omega, ?_⟩
  refine ⟨l.length - (k + 1), by omega, ?_⟩
  rw [hI]
  exact ⟨k + 1, s.H.length + 1, by omega, rfl, by simp -dsimp [-getElem?_pos, go_sem, t6], by simp -dsimp [-getElem?_pos, go_sem, t7], by simp -dsimp [-getElem?_pos, go_sem], by simp -dsimp [-getElem?_pos, go_sem], by rw [e1, ← encL_snoc]; simp -dsimp -implicitDefEqProofs [-getElem?_pos, go_sem, encI]⟩
 ·have hk : k = l.length := by simp at h; omega
  subst hk
  refine frz id _ 3 1 (encL encI (ids l)) t3 (by rw [hH, List.take_length]) (by rw [encL_len, ids_len]) (imm_nums _) ?_
  simp -dsimp -implicitDefEqProofs [-getElem?_pos, go_sem, hP]
  exact done_imm (imm_nums _) rfl
set_option maxHeartbeats 1000000 in
theorem numbered_pf (l : List Int) (hl : l.length ≤ 100000) : PFun Tryz.prog none none 105 [numsL l] (· = bv (numB l)) := by
 refine pfun_intro Tryz.func105 rfl (by simp [Tryz.f105]) (by kernel_rfl) ?_
 intro E hP hr hs hW hN
 simp -dsimp -implicitDefEqProofs [-getElem?_pos, go_sem, hP]
 obtain ⟨I, hI⟩ : ∃ I : Nat → St → Prop, I = fun m s => ∃ (k : Nat) (p : Int), k ≤ l.length ∧ m = l.length - k ∧ ascA 0 l = ascA p (l.drop k) ∧ (k = 0 → p = 0) ∧ (∀ j x, k = j + 1 → l[j]? = some x → p = x) ∧ s.t 0 = numsL l ∧ s.t 5 = numsL l ∧ s.t 6 = iv l.length ∧ s.t 7 = iv k := ⟨_, rfl⟩
 refine aloop0 I (l.length) (by rw [hN]; rfl) ?_ ?_
 ·rw [hI]
  exact ⟨0, 0, by omega, by omega, by simp, by simp, by omega, by simp -dsimp [-getElem?_pos, go_sem], by simp -dsimp [-getElem?_pos, go_sem], by simp -dsimp [-getElem?_pos, go_sem], by simp -dsimp [-getElem?_pos, go_sem]⟩
 intro m s hs'
 rw [hI] at hs'
 obtain ⟨k, p, hk, hm, hasc, hp0, hp1, t0, t5, t6, t7⟩ := hs'
 simp -dsimp -implicitDefEqProofs [-getElem?_pos, go_sem, hP, t6, t7]
 refine condP (fun h => ?_) (fun h => ?_)
 ·have hk : k < l.length := by simpa using h
  obtain ⟨x, hx⟩ : ∃ x, l[k]? = some x := ⟨_, List.getElem?_eq_getElem hk⟩
  have wk := wrap_in ((k : Int) + 1) (by omega)
  have hdr : l.drop k = x :: l.drop (k + 1) := by
   obtain ⟨h2, h3⟩ := List.getElem?_eq_some_iff.1 hx
   rw [List.drop_eq_getElem_cons h2, h3]
  rw [hdr, ascA] at hasc
  have fin : ∀ s' : St, (amongB x 1 1000 && decide (p < x)) = true → s'.t 0 = s.t 0 → s'.t 5 = s.t 5 → s'.t 6 = s.t 6 → s'.t 7 = iv ((k : Int) + 1) → ∃ n', n' < m ∧ I n' s' := fun s' hc e0 e5 e6 e7 => by
   refine ⟨l.length - (k + 1), by omega, ?_⟩
   rw [hI]
   simp only [Bool.and_eq_true] at hc
   refine ⟨k + 1, x, by omega, rfl, by rw [hasc, hc.1, hc.2]; simp, by omega, fun j y hj hy => ?_, by rw [e0, t0], by rw [e5, t5], by rw [e6, t6], by rw [e7]; simp⟩
   have : j = k := by omega
   subst this
   rw [hx] at hy
   exact Option.some.inj hy
  have bad : (amongB x 1 1000 && decide (p < x)) = false → numB l = false := fun h => by
   rw [numB, hasc, ← Bool.and_assoc (amongB _ _ _), h]; simp
  simp -dsimp -implicitDefEqProofs [-getElem?_pos, go_sem, hP, t5, t7, hx, encI]
  refine callB_pure (among_pf x 1 1000) hP en_154 (args_same (by simp -dsimp [-getElem?_pos, go_sem])) .sc ?_
  by_cases c1 : amongB x 1 1000 = true
  rotate_left
  ·have : numB l = false := bad (by simp [c1])
   simp -dsimp -implicitDefEqProofs [-getElem?_pos, go_sem, hP, c1, this]
  rcases Nat.eq_zero_or_pos k with hk0 | hkp
  ·have d1 : decide (0 < k) = false := decide_eq_false (by omega)
   simp -dsimp -implicitDefEqProofs [-getElem?_pos, go_sem, hP, c1, d1, t7, wk]
   exact fin _ (by have := hp0 hk0; have := amongB_iff.1 c1; simp [c1]; omega) (by simp -dsimp [-getElem?_pos, go_sem]) (by simp -dsimp [-getElem?_pos, go_sem]) (by simp -dsimp [-getElem?_pos, go_sem]) (by simp -dsimp [-getElem?_pos, go_sem])
  ·obtain ⟨j, rfl⟩ : ∃ j, k = j + 1 := ⟨k - 1, by omega⟩
   obtain ⟨y, hy⟩ : ∃ y, l[j]? = some y := ⟨_, List.getElem?_eq_getElem (by omega)⟩
   have d1 : decide ((0 : Int) < (j : Int) + 1) = true := decide_eq_true (by omega)
   have wj := wrap_in ((j : Int) + 1 - 1) (by omega)
   rw [Int.add_sub_cancel] at wj
   have hpy := hp1 j y rfl hy
   have wk' := wrap_in ((j : Int) + 1 + 1) (by omega)
   by_cases c3 : x ≤ y
   ·have : numB l = false := bad (by simp [c1]; omega)
    simp -dsimp -implicitDefEqProofs [-getElem?_pos, go_sem, hP, c1, d1, t0, Int.add_sub_cancel, wj, hy, encI, c3, this]
   ·simp -dsimp -implicitDefEqProofs [-getElem?_pos, go_sem, hP, c1, d1, t0, Int.add_sub_cancel, wj, hy, encI, c3, t7, wk']
    exact fin _ (by simp [c1]; omega) (by simp -dsimp [-getElem?_pos, go_sem]) (by simp -dsimp [-getElem?_pos, go_sem]) (by simp -dsimp [-getElem?_pos, go_sem]) (by simp -dsimp [-getElem?_pos, go_sem])
 ·have hk : k = l.length := by simp at h; omega
  subst hk
  rw [List.drop_length] at hasc
  have hasc : ascA 0 l = true := hasc
  cases l with
  | nil => simp -dsimp -implicitDefEqProofs [-getElem?_pos, go_sem, hP, t0, numB]
  | cons x l =>
   have : numB (x :: l) = decide (x = 1) := by rw [numB, hasc]; simp
   simp -dsimp -implicitDefEqProofs [-getElem?_pos, go_sem, hP, t0, this, encI]
structure Teller (H : Heap) (p q : Nat) (credit n d : Int) (l : List TSub) : Prop where
 ne : p ≠ q
 obj : H[p]? = some (some ⟨134, 4, [[iv credit, iv n, iv d, .sref q 0 l.length]]⟩)
 subs : H[q]? = some (some ⟨98, 2, encL TSub.cells l⟩)
theorem Teller.kept {H H' : Heap} {p q : Nat} {credit n d : Int} {l : List TSub} {X : List Nat} (h : Teller H p q credit n d l) (hk : Kept X H H') (hp : p ∉ X) (hq : q ∉ X) : Teller H' p q credit n d l :=
 ⟨h.ne, hk _ _ hp h.obj, hk _ _ hq h.subs⟩
theorem Teller.ltp {H : Heap} {p q : Nat} {credit n d : Int} {l : List TSub} (h : Teller H p q credit n d l) : p < H.length := (List.getElem?_eq_some_iff.1 h.obj).1
theorem Teller.ltq {H : Heap} {p q : Nat} {credit n d : Int} {l : List TSub} (h : Teller H p q credit n d l) : q < H.length := (List.getElem?_eq_some_iff.1 h.subs).1
theorem isid_m {row src : Option Nat} (g : FuncId) (fn : Func) (hg : True) (a : TSub) (H : Heap) (b : Nat) (id : Int) (hb : H[b]? = some (some ⟨3, 1, [[iv id]]⟩)) :
  MFun Tryz.prog row src 185 [.agg a.cells, .ref b 0 0] H (fun r H' => r = bv (decide (a.ID = id)) ∧ Kept [] H H') := by
 refine mfun_intro Tryz.func185 rfl (by simp [Tryz.f185]) (by kernel_rfl) (⟨_, H, rfl, kept_refl _ _⟩) ?_
 intro E hP hr hs hN
 have hlt := (gsI hb)
 simp -dsimp -implicitDefEqProofs [-getElem?_pos, go_sem, hP, TSub.cells, hb, hlt]
 exact kept_push _ (kept_refl _ _)
theorem place_m {row src : Option Nat} {H : Heap} {p q : Nat} {credit n d : Int} {l : List TSub} (h : Teller H p q credit n d l) (hl : l.length ≤ 100000) (id : Int) :
  MFun Tryz.prog row src 180 [.ref p 0 0, iv id] H (fun r H' => r = iv (placeI l id) ∧ Kept [] H H') := by
 refine mfun_intro Tryz.func180 rfl (by simp [Tryz.f180]) (by kernel_rfl) (⟨_, H, rfl, kept_refl _ _⟩) ?_
 intro E hP hr hs hN
 have ho := h.obj
 have hlt := h.ltp
 simp -dsimp -implicitDefEqProofs [-getElem?_pos, go_sem, hP, ho, hlt]
 refine callB_m (by rw [hr, hs]; exact index_m_sub l (.sref q 0 l.length) _ 185 [.ref H.length 0 0] (fun s => decide (s.ID = id)) (.inr (.inr ⟨q, 98, by rw [encL_len], by rw [List.getElem?_append_left h.ltq]; exact h.subs⟩)) (by omega) en_185 (fun a _ H' hk => isid_m 0 default trivial a H' _ id (hk _ _ (by simp) (by simp)))) hP en_139 ?_
 rintro r H' ⟨rfl, hk⟩
 simp -dsimp -implicitDefEqProofs [-getElem?_pos, go_sem, hP]
 exact ⟨rfl, (kept_push _ (kept_refl _ _)).trans hk⟩
theorem known_m {row src : Option Nat} {H : Heap} {p q : Nat} {credit n d : Int} {l : List TSub} (h : Teller H p q credit n d l) (hl : l.length ≤ 100000) (id : Int) :
  MFun Tryz.prog row src 167 [.ref p 0 0, iv id] H (fun r H' => r = bv (knownB l id) ∧ Kept [] H H') := by
 refine mfun_intro Tryz.func167 rfl (by simp [Tryz.f167]) (by kernel_rfl) (⟨_, H, rfl, kept_refl _ _⟩) ?_
 intro E hP hr hs hN
 by_cases h0 : id = 0
 ·have d0 : decide (id = 0) = true := decide_eq_true h0
  simp -dsimp -implicitDefEqProofs [-getElem?_pos, go_sem, hP, d0, knownB]
  exact kept_refl _ _
 ·simp -dsimp -implicitDefEqProofs [-getElem?_pos, go_sem, hP, h0, knownB]
  refine callB_m (by rw [hr, hs]; exact place_m h hl id) hP en_180 ?_
  rintro r H' ⟨rfl, hk⟩
  simp -dsimp -implicitDefEqProofs [-getElem?_pos, go_sem, hP, h0, knownB]
  exact hk
theorem agree_two {H H' : Heap} {X : List Nat} {p q : Nat} {o o' : AObj} (hk : Kept X H H') (hp : H[p]? = some (some o)) (hq : H[q]? = some (some o')) (np : p ∉ X) (nq : q ∉ X) : Agree (fun i => decide (i = p) || decide (i = q)) H H' := fun i hi => by
 simp only [Bool.or_eq_true, decide_eq_true_eq] at hi
 rcases hi with rfl | rfl
 ·rw [hp, hk _ _ np hp]
 ·rw [hq, hk _ _ nq hq]
theorem add_m {row src : Option Nat} {H : Heap} {p q : Nat} {credit n d : Int} {l : List TSub} (h : Teller H p q credit n d l) (hl : l.length ≤ 100000) (hc : 0 ≤ credit ∧ credit ≤ 1000000000000) (hn : (ids l).Nodup) (h0 : 0 ∉ ids l) (hok : okAll credit l = true)
  (id amt : Int) (hid : id = 0 ∨ id ∈ ids l) (ham : -1000000000000 ≤ amt ∧ amt ≤ 1000000000000) :
  MFun Tryz.prog row src 168 [.ref p 0 0, iv id, iv amt] H (fun r H' => r = bv (okAt credit (adj l id amt) id) ∧ Teller H' p q credit n d (adj l id amt) ∧ Kept [q] H H') := by
 have hadj : (adj l id amt).length = l.length := adj_len _ _ _
 refine mfun_intro Tryz.func168 rfl (by simp [Tryz.f168]) (by kernel_rfl) (⟨_, H.set q (some ⟨98, 2, encL TSub.cells (adj l id amt)⟩), rfl, ⟨h.ne, by rw [List.getElem?_set_ne h.ne.symm, hadj]; exact h.obj, by rw [List.getElem?_set_self h.ltq]⟩, kept_set _ (by simp) (kept_refl _ _)⟩) ?_
 intro E hP hr hs hN
 by_cases hz : id = 0
 ·subst hz
  have e1 : adj l 0 amt = l := adj_none h0
  have e2 : okAt credit l 0 = true := okAt_none h0
  simp -dsimp -implicitDefEqProofs [-getElem?_pos, go_sem, hP, e1, e2]
  exact ⟨h, kept_refl _ _⟩
 have hm : id ∈ ids l := hid.resolve_left hz
 have ho := h.obj
 have hlt := h.ltp
 rcases placeI_spec l id with ⟨_, h2⟩ | ⟨i, a, hi, ha, hp, _⟩
 ·exact absurd hm h2
 simp -dsimp -implicitDefEqProofs [-getElem?_pos, go_sem, hP, hz, ho, hlt]
 have hq := h.subs
 refine adrawB (fun i => decide (i = p) || decide (i = q)) [] hP (by kernel_rfl) (by kernel_rfl) ?_
 simp -dsimp -implicitDefEqProofs [-getElem?_pos, go_sem, hP, ho, hlt, restr_get]
 refine callB_m (by rw [hr, hs]; exact place_m h hl id) hP en_180 ?_
 rintro r H' ⟨rfl, hk⟩
 simp -dsimp -implicitDefEqProofs [-getElem?_pos, go_sem, hP, hp]
 have h' := h.kept hk (by simp) (by simp)
 have ho' := h'.obj
 have hq' := h'.subs
 have hil := (gsI hi)
 have hlq := h'.ltq
 have hlp := h'.ltp
 have hne : ¬ q = p := fun e => h.ne e.symm
 have bnd := okSub_bounds hc (List.all_eq_true.1 hok a (List.mem_of_getElem? hi))
 have wa := wrap_in (a.Balance + amt) (by omega)
 have set1 : (encL TSub.cells l).set i [iv a.ID, iv (a.Balance + amt)] = encL TSub.cells (adj l id amt) := by
  rw [← ha, ← set_adj hn hi, ← encL_set]
  rfl
 have g1 : (adj l id amt)[i]? = some ⟨a.ID, a.Balance + amt⟩ := by rw [adj_get, hi, ← ha]; simp
 have o1 : okAt credit (adj l id amt) id = okSub credit ⟨a.ID, a.Balance + amt⟩ := by
  rw [← ha] at g1 ⊢
  exact okAt_get (by rw [adj_ids]; exact hn) g1
 have fin : ∀ H'', Kept [] (H'.set q (some ⟨98, 2, encL TSub.cells (adj l id amt)⟩)) H'' → Teller H'' p q credit n d (adj l id amt) ∧ Kept [q] H H'' := fun H'' hk2 => by
  have t : Teller (H'.set q (some ⟨98, 2, encL TSub.cells (adj l id amt)⟩)) p q credit n d (adj l id amt) := ⟨h.ne, by rw [List.getElem?_set_ne h.ne.symm, hadj]; exact ho', by rw [List.getElem?_set_self hlq]⟩
  exact ⟨t.kept hk2 (by simp) (by simp), (kept_set _ (by simp) (hk.mono (by simp))).trans (hk2.mono (by simp))⟩
 simp -dsimp -implicitDefEqProofs [-getElem?_pos, go_sem, hP, hz, restr_get, hq', hil]
 refine ⟨agree_two hk ho hq (by simp) (by simp), ?_⟩
 by_cases h1 : id = 1
 ·have d1 : decide (id = 1) = true := decide_eq_true h1
  have wn := wrap_in (-credit) (by omega)
  simp -dsimp -implicitDefEqProofs [-getElem?_pos, go_sem, hP, hp, hil, hq', hi, TSub.cells, wa, hlq, set1, d1, ho', hne, hlp, wn, g1]
  refine callB_pure (among_pf (a.Balance + amt) (-credit) 1000000000000000) hP en_154 (args_same (by simp -dsimp [-getElem?_pos, go_sem])) .sc ?_
  simp -dsimp -implicitDefEqProofs [-getElem?_pos, go_sem, hP]
  refine ⟨?_, fin _ (kept_refl _ _)⟩
  rw [o1]
  simp [okSub, amongB, ha, h1]
 ·simp -dsimp -implicitDefEqProofs [-getElem?_pos, go_sem, hP, hp, hil, hq', hi, TSub.cells, wa, hlq, set1, h1, g1]
  refine callB_pure (among_pf (a.Balance + amt) 0 1000000000000000) hP en_154 (args_same (by simp -dsimp [-getElem?_pos, go_sem])) .sc ?_
  simp -dsimp -implicitDefEqProofs [-getElem?_pos, go_sem, hP]
  refine ⟨?_, fin _ (kept_refl _ _)⟩
  rw [o1]
  simp [okSub, amongB, ha, h1]
set_option maxHeartbeats 1000000 in
theorem tpost_m {row src : Option Nat} {H : Heap} {p q : Nat} {credit n d : Int} {l : List TSub} (h : Teller H p q credit n d l) (hl : l.length ≤ 100000) (hc : 0 ≤ credit ∧ credit ≤ 1000000000000) (hn : (ids l).Nodup) (h0 : 0 ∉ ids l) (hok : okAll credit l = true)
  (hnn : 0 ≤ n ∧ n ≤ 100000) (e : TEntry) :
  MFun Tryz.prog row src 128 [.ref p 0 0, .agg e.cells] H (fun r H' => r = iv (postS credit n d l e).1 ∧ ((postS credit n d l e).1 = 0 → Teller H' p q credit e.Number e.Day (postS credit n d l e).2) ∧ Kept [p, q] H H') := by
 have post : ∃ r H', r = iv (postS credit n d l e).1 ∧ ((postS credit n d l e).1 = 0 → Teller H' p q credit e.Number e.Day (postS credit n d l e).2) ∧ Kept [p, q] H H' :=
  ⟨_, (H.set q (some ⟨98, 2, encL TSub.cells (postS credit n d l e).2⟩)).set p (some ⟨134, 4, [[iv credit, iv e.Number, iv e.Day, .sref q 0 (postS credit n d l e).2.length]]⟩), rfl, fun _ => ⟨h.ne, by rw [List.getElem?_set_self (by simp; exact h.ltp)], by rw [List.getElem?_set_ne h.ne, List.getElem?_set_self h.ltq]⟩, kept_set _ (by simp) (kept_set _ (by simp) (kept_refl _ _))⟩
 obtain ⟨C, hC⟩ : ∃ C : AV → Heap → Prop, C = fun r H' => r = iv (postS credit n d l e).1 ∧ ((postS credit n d l e).1 = 0 → Teller H' p q credit e.Number e.Day (postS credit n d l e).2) ∧ Kept [p, q] H H' := ⟨_, rfl⟩
 rw [← hC]
 have post : ∃ r H', C r H' := hC ▸ post
 refine mfun_intro Tryz.func128 rfl (by simp [Tryz.f128]) (by kernel_rfl) (post) ?_
 intro E hP hr hs hN
 have ho := h.obj
 have hlt := h.ltp
 have wn := wrap_in (n + 1) (by omega)
 have bad : ∀ (c : Int) (H'' : Heap), (postS credit n d l e).1 = c → c ≠ 0 → Kept [p, q] H H'' → C (iv c) H'' := fun c H'' h1 h2 h3 => by
  rw [hC]
  exact ⟨by rw [h1], fun h4 => absurd (h1.symm.trans h4) h2, h3⟩
 have kb := kept_push (X := [p, q]) (some ⟨48, 6, [[iv e.Number, iv e.Day, iv e.From, iv e.To, iv e.Amount, iv e.Ref]]⟩) (kept_refl [p, q] H)
 have hB : Teller (H ++ [some ⟨48, 6, [[iv e.Number, iv e.Day, iv e.From, iv e.To, iv e.Amount, iv e.Ref]]⟩]) p q credit n d l := h.kept (X := []) (kept_push _ (kept_refl _ _)) (by simp) (by simp)
 simp -dsimp -implicitDefEqProofs [-getElem?_pos, go_sem, hP, cE]
 refine adrawB (fun _ => true) [] hP (by kernel_rfl) (by kernel_rfl) ?_
 simp -dsimp -implicitDefEqProofs [-getElem?_pos, go_sem, hP, ho, hlt, wn]
 by_cases c1 : e.Number = n + 1
 rotate_left
 ·have b1 : badNum n e = true := by simp [badNum, c1]
  simp -dsimp -implicitDefEqProofs [-getElem?_pos, go_sem, hP, c1]
  exact bad 65 _ (by rw [postS, if_pos b1]) (by omega) kb
 have b1 : ¬ badNum n e = true := by simp [badNum, c1]
 have d1 : decide (e.Number = n + 1) = true := decide_eq_true c1
 simp -dsimp -implicitDefEqProofs [-getElem?_pos, go_sem, hP, d1]
 refine adrawB (fun _ => true) [] hP (by kernel_rfl) (by kernel_rfl) ?_
 simp -dsimp -implicitDefEqProofs [-getElem?_pos, go_sem, hP, ho, hlt]
 refine callB_pure (among_pf e.Day d 36000) hP en_154 (args_same (by simp -dsimp [-getElem?_pos, go_sem])) .sc ?_
 by_cases c2 : amongB e.Day d 36000 = true
 rotate_left
 ·have b2 : badDay d e = true := by simp [badDay, c2]
  simp -dsimp -implicitDefEqProofs [-getElem?_pos, go_sem, hP, c2, agree_refl]
  exact bad 8 _ (by rw [postS, if_neg b1, if_pos b2]) (by omega) kb
 have b2 : ¬ badDay d e = true := by simp [badDay, c2]
 simp -dsimp -implicitDefEqProofs [-getElem?_pos, go_sem, hP, c2, agree_refl]
 refine callB_pure (positive_pf e.Amount) hP en_166 (args_same (by simp -dsimp [-getElem?_pos, go_sem])) .sc ?_
 by_cases c3 : (decide (0 < e.Amount) && vB e.Amount) = true
 rotate_left
 ·have b3 : badAmt e = true := by simp [badAmt, c3]
  have c3 : (decide (0 < e.Amount) && vB e.Amount) = false := by simpa using c3
  simp -dsimp -implicitDefEqProofs [-getElem?_pos, go_sem, hP, c3]
  exact bad 2 _ (by rw [postS, if_neg b1, if_neg b2, if_pos b3]) (by omega) kb
 simp -dsimp -implicitDefEqProofs [-getElem?_pos, go_sem, hP, c3]
 refine callB_pure (among_pf e.Ref 0 1000000) hP en_154 (args_same (by simp -dsimp [-getElem?_pos, go_sem])) .sc ?_
 by_cases c4 : amongB e.Ref 0 1000000 = true
 rotate_left
 ·have b3 : badAmt e = true := by simp [badAmt, c4]
  simp -dsimp -implicitDefEqProofs [-getElem?_pos, go_sem, hP, c3, c4]
  exact bad 2 _ (by rw [postS, if_neg b1, if_neg b2, if_pos b3]) (by omega) kb
 have b3 : ¬ badAmt e = true := by simp [badAmt, c3, c4]
 have am : 0 < e.Amount ∧ e.Amount ≤ 1000000000000 := by
  simp only [Bool.and_eq_true, decide_eq_true_eq, vB, amongB_iff] at c3
  omega
 have p60 : badSub l e = true → (postS credit n d l e).1 = 60 := fun h => by rw [postS, if_neg b1, if_neg b2, if_neg b3, if_pos h]
 simp -dsimp -implicitDefEqProofs [-getElem?_pos, go_sem, hP, c3, c4]
 by_cases c5 : e.From = e.To
 ·have d5 : decide (e.From = e.To) = true := decide_eq_true c5
  simp -dsimp -implicitDefEqProofs [-getElem?_pos, go_sem, hP, d5]
  exact bad 60 _ (p60 (by simp [badSub, c5])) (by omega) kb
 simp -dsimp -implicitDefEqProofs [-getElem?_pos, go_sem, hP, c5]
 refine callB_m (by rw [hr, hs]; exact known_m hB hl e.From) hP en_167 ?_
 rintro r H1 ⟨rfl, hk1⟩
 have h1 := hB.kept hk1 (by simp) (by simp)
 have o1 := hk1 H.length ⟨48, 6, [[iv e.Number, iv e.Day, iv e.From, iv e.To, iv e.Amount, iv e.Ref]]⟩ (by simp) (by simp)
 have l1 := (gsI o1)
 by_cases c6 : knownB l e.From = true
 rotate_left
 ·simp -dsimp -implicitDefEqProofs [-getElem?_pos, go_sem, hP, c5, c6]
  exact bad 60 _ (p60 (by simp [badSub, c6])) (by omega) (kb.trans (hk1.mono (by simp)))
 simp -dsimp -implicitDefEqProofs [-getElem?_pos, go_sem, hP, c5, c6, o1, l1]
 refine callB_m (by rw [hr, hs]; exact known_m h1 hl e.To) hP en_167 ?_
 rintro r H2 ⟨rfl, hk2⟩
 have h2 := h1.kept hk2 (by simp) (by simp)
 have o2 := hk2 _ _ (by simp) o1
 have l2 := (gsI o2)
 have k2 := kb.trans ((hk1.trans hk2).mono (Y := [p, q]) (by simp))
 by_cases c7 : knownB l e.To = true
 rotate_left
 ·simp -dsimp -implicitDefEqProofs [-getElem?_pos, go_sem, hP, c5, c6, c7]
  exact bad 60 _ (p60 (by simp [badSub, c7])) (by omega) k2
 have b4 : ¬ badSub l e = true := by simp [badSub, c5, c6, c7]
 have pS : postS credit n d l e = if okAt credit (adj l e.From (-e.Amount)) e.From = false then (61, adj l e.From (-e.Amount)) else
   if okAt credit (adj (adj l e.From (-e.Amount)) e.To e.Amount) e.To = false then (61, adj (adj l e.From (-e.Amount)) e.To e.Amount) else (0, adj (adj l e.From (-e.Amount)) e.To e.Amount) := by
  rw [postS, if_neg b1, if_neg b2, if_neg b3, if_neg b4]
 have wa := wrap_in (-e.Amount) (by omega)
 simp -dsimp -implicitDefEqProofs [-getElem?_pos, go_sem, hP, c5, c6, c7, o2, l2, wa]
 refine callB_m (by rw [hr, hs]; exact add_m h2 hl hc hn h0 hok e.From (-e.Amount) ((knownB_iff _ _).1 c6) (by omega)) hP en_168 ?_
 rintro r H3 ⟨rfl, h3, hk3⟩
 have nq : ¬ H.length = q := by have := h.ltq; omega
 have np : ¬ H.length = p := by have := h.ltp; omega
 have o3 := hk3 _ _ (by simp [nq]) o2
 have l3 := (gsI o3)
 have k3 := k2.trans (hk3.mono (Y := [p, q]) (by simp))
 by_cases c8 : okAt credit (adj l e.From (-e.Amount)) e.From = true
 rotate_left
 ·have c8 : okAt credit (adj l e.From (-e.Amount)) e.From = false := by simpa using c8
  simp -dsimp -implicitDefEqProofs [-getElem?_pos, go_sem, hP, c8]
  exact bad 61 _ (by rw [pS, if_pos c8]) (by omega) k3
 rw [if_neg (by simp [c8])] at pS
 simp -dsimp -implicitDefEqProofs [-getElem?_pos, go_sem, hP, c8, o3, l3]
 refine callB_m (by rw [hr, hs]; exact add_m h3 (by rw [adj_len]; omega) hc (by rw [adj_ids]; exact hn) (by rw [adj_ids]; exact h0) (okAll_adj hok c8) e.To e.Amount (by rw [adj_ids]; exact (knownB_iff _ _).1 c7) (by omega)) hP en_168 ?_
 rintro r H4 ⟨rfl, h4, hk4⟩
 have o4 := hk4 _ _ (by simp [nq]) o3
 have l4 := (gsI o4)
 have k4 := k3.trans (hk4.mono (Y := [p, q]) (by simp))
 by_cases c9 : okAt credit (adj (adj l e.From (-e.Amount)) e.To e.Amount) e.To = true
 rotate_left
 ·have c9 : okAt credit (adj (adj l e.From (-e.Amount)) e.To e.Amount) e.To = false := by simpa using c9
  simp -dsimp -implicitDefEqProofs [-getElem?_pos, go_sem, hP, c8, c9]
  exact bad 61 _ (by rw [pS, if_pos c9]) (by omega) k4
 rw [if_neg (by simp [c9])] at pS
 have ho4 := h4.obj
 have hp4 := h4.ltp
 simp -dsimp -implicitDefEqProofs [-getElem?_pos, go_sem, hP, c8, c9]
 refine adrawB (fun i => decide (i = H.length)) [6, 7, 9, 10, 11] hP (by kernel_rfl) (by kernel_rfl) ?_
 simp -dsimp -implicitDefEqProofs [-getElem?_pos, go_sem, hP, o4, l4, ho4, hp4]
 refine ⟨fun i hi => ?_, ?_⟩
 ·simp only [decide_eq_true_eq] at hi
  subst hi
  rw [List.getElem?_set_ne (Ne.symm np)]
 rw [hC, pS]
 refine ⟨rfl, fun _ => ⟨h.ne, by rw [List.getElem?_set_self hp4], by rw [List.getElem?_set_ne h.ne]; exact h4.subs⟩, kept_set _ (by simp) k4⟩
set_option maxHeartbeats 1000000 in
theorem fresh_m {row src : Option Nat} (a : TAccount) (H : Heap) (hl : a.Subs.length ≤ 100000) (hne : a.Subs ≠ []) :
  MFun Tryz.prog row src 155 [.agg a.cells] H (fun r H' => ∃ p q, r = .ref p 0 0 ∧ H.length ≤ p ∧ H.length ≤ q ∧ Teller H' p q a.Credit 0 0 (zeroS a.Subs) ∧ Kept [] H H') := by
 obtain ⟨C, hC⟩ : ∃ C : AV → Heap → Prop, C = fun r H' => ∃ p q, r = .ref p 0 0 ∧ H.length ≤ p ∧ H.length ≤ q ∧ Teller H' p q a.Credit 0 0 (zeroS a.Subs) ∧ Kept [] H H' := ⟨_, rfl⟩
 rw [← hC]
 have ex : ∃ r H', C r H' := ⟨.ref H.length 0 0, H ++ [some ⟨134, 4, [[iv a.Credit, iv 0, iv 0, .sref (H.length + 1) 0 (zeroS a.Subs).length]]⟩, some ⟨98, 2, encL TSub.cells (zeroS a.Subs)⟩], by
  rw [hC]
  exact ⟨H.length, H.length + 1, rfl, Nat.le_refl _, by omega, ⟨by omega, by simp, by rw [List.getElem?_append_right (by omega)]; simp⟩, kept_app _ _ _⟩⟩
 refine mfun_intro Tryz.func155 rfl (by simp [Tryz.f155]) (by kernel_rfl) (ex) ?_
 intro E hP hr hs hN
 simp -dsimp -implicitDefEqProofs [-getElem?_pos, go_sem, hP, cA]
 obtain ⟨I, hI⟩ : ∃ I : Nat → St → Prop, I = fun m s => ∃ (k : Nat) (x : AV), k ≤ a.Subs.length ∧ m = a.Subs.length - k ∧ s.t 3 = .ref (H.length + 1) 0 0 ∧ s.t 11 = subsL a.Subs ∧ s.t 12 = iv a.Subs.length ∧ s.t 13 = iv k ∧ s.H[H.length + 1]? = some (some ⟨134, 4, [[iv a.Credit, iv 0, iv 0, x]]⟩) ∧ Grown (H.length + 2) s.H x 98 2 (encL TSub.cells (zeroS (a.Subs.take k))) ∧ Kept [] H s.H := ⟨_, rfl⟩
 refine aloop0 I (a.Subs.length) (by rw [hN]; rfl) ?_ ?_
 ·rw [hI]
  exact ⟨0, .nil, by omega, by omega, by simp -dsimp [-getElem?_pos, go_sem], by simp -dsimp [-getElem?_pos, go_sem], by simp -dsimp [-getElem?_pos, go_sem], by simp -dsimp [-getElem?_pos, go_sem], by simp -dsimp [-getElem?_pos, go_sem], .inl ⟨rfl, rfl⟩, by simp -dsimp [-getElem?_pos, go_sem]; exact kept_app _ _ _⟩
 intro m s hs'
 rw [hI] at hs'
 obtain ⟨k, x, hk, hm, t3, t11, t12, t13, h1, hg, hK⟩ := hs'
 have lt1 := (gsI h1)
 simp -dsimp -implicitDefEqProofs [-getElem?_pos, go_sem, hP, t12, t13]
 refine condP (fun h => ?_) (fun h => ?_)
 ·have hk : k < a.Subs.length := by simpa using h
  obtain ⟨y, hy⟩ : ∃ y, a.Subs[k]? = some y := ⟨_, List.getElem?_eq_getElem hk⟩
  have wk := wrap_in ((k : Int) + 1) (by omega)
  have e1 : zeroS (a.Subs.take (k + 1)) = zeroS (a.Subs.take k) ++ [⟨y.ID, 0⟩] := by rw [List.take_add_one, hy]; simp [zeroS]
  have nl : (zeroS (a.Subs.take k)).length = k := by rw [zeroS_len, List.length_take]; omega
  simp -dsimp -implicitDefEqProofs [-getElem?_pos, go_sem, hP, t11, t13, hy, TSub.cells]
  rcases hg with ⟨rfl, hg⟩ | ⟨id, h2, rfl, hg⟩
  ·refine adrawB (fun i => decide (i = H.length + 1) || decide (i = s.H.length)) [12] hP (by kernel_rfl) (by kernel_rfl) ?_
   simp -dsimp -implicitDefEqProofs [-getElem?_pos, go_sem, hP, t3, h1, lt1, t13, wk]
   refine ⟨fun i hi => ?_, a.Subs.length - (k + 1), by omega, ?_⟩
   ·simp only [Bool.or_eq_true, decide_eq_true_eq] at hi
    rcases hi with rfl | rfl <;> simp [-getElem?_pos, List.getElem?_append, lt1] <;> rfl
   rw [hI]
   refine ⟨k + 1, .sref (s.H.length + 1) 0 1, by omega, rfl, by simp -dsimp [-getElem?_pos, go_sem, t3], by simp -dsimp [-getElem?_pos, go_sem, t11], by simp -dsimp [-getElem?_pos, go_sem, t12], by simp -dsimp [-getElem?_pos, go_sem], by simp -dsimp [-getElem?_pos, go_sem, lt1], .inr ⟨s.H.length + 1, by omega, ?_, ?_⟩, ?_⟩
   ·rw [e1, ← encL_snoc, hg]; rfl
   ·rw [e1, ← encL_snoc, hg]
    simp -dsimp -implicitDefEqProofs [-getElem?_pos, go_sem, TSub.cells]
   ·simp -dsimp -implicitDefEqProofs [-getElem?_pos, go_sem]
    exact (kept_new _ (by omega) hK).trans (kept_app _ _ _)
  ·have ne1 : ¬ id = H.length + 1 := by omega
   have lti := (gsI hg)
   have ne2 : ¬ id = s.H.length := by omega
   refine adrawB (fun i => decide (i = H.length + 1) || decide (i = s.H.length)) [12] hP (by kernel_rfl) (by kernel_rfl) ?_
   simp -dsimp -implicitDefEqProofs [-getElem?_pos, go_sem, hP, t3, h1, lt1, t13, wk, hg, lti, ne1, nl]
   refine ⟨by omega, by omega, fun i hi => ?_, a.Subs.length - (k + 1), by omega, ?_⟩
   ·simp only [Bool.or_eq_true, decide_eq_true_eq] at hi
    rcases hi with rfl | rfl <;> simp [-getElem?_pos, List.getElem?_append, List.getElem?_set, lt1, ne1, ne2] <;> rfl
   rw [hI]
   refine ⟨k + 1, .sref (s.H.length + 1) 0 (k + 1), by omega, rfl, by simp -dsimp [-getElem?_pos, go_sem, t3], by simp -dsimp [-getElem?_pos, go_sem, t11], by simp -dsimp [-getElem?_pos, go_sem, t12], by simp -dsimp [-getElem?_pos, go_sem], by simp -dsimp [-getElem?_pos, go_sem, lt1, ne1], .inr ⟨s.H.length + 1, by omega, ?_, ?_⟩, ?_⟩
   ·rw [encL_len, zeroS_len, List.length_take]
    congr 1
    omega
   ·rw [e1, ← encL_snoc]
    simp -dsimp -implicitDefEqProofs [-getElem?_pos, go_sem, TSub.cells]
   ·simp -dsimp -implicitDefEqProofs [-getElem?_pos, go_sem]
    exact ((kept_new _ (by omega) (kept_new _ (by omega) hK)).trans (kept_app _ _ _))
 ·have hk : k = a.Subs.length := by simp at h; omega
  subst hk
  rw [List.take_length] at hg
  simp -dsimp -implicitDefEqProofs [-getElem?_pos, go_sem, hP, t3]
  rw [hC]
  rcases hg with ⟨rfl, hg⟩ | ⟨id, h2, rfl, hg⟩
  ·exfalso
   apply hne
   have := congrArg List.length hg
   rw [encL_len, zeroS_len] at this
   exact List.eq_nil_of_length_eq_zero this
  ·exact ⟨H.length + 1, id, rfl, by omega, by omega, ⟨by omega, by rw [h1, encL_len], hg⟩, hK⟩
open Go.PA
open Go.RowKit
theorem kept_high {H H' H'' : Heap} {X : List Nat} (h : Kept [] H H') (k : Kept X H' H'') (hX : ∀ i, i ∈ X → H.length ≤ i) : Kept [] H H'' := fun j o _ ho => by
 refine k j o (fun hj => ?_) (h j o (by simp) ho)
 have := hX j hj
 have := (gsI ho)
 omega
def replayW (a : TAccount) (w : TEntry → Bool) : Option (Int × Int × List TSub) := replayS a.Credit 0 0 (zeroS a.Subs) (a.Entries.takeWhile w)
set_option maxHeartbeats 1000000 in
theorem replay_m {row src : Option Nat} (a : TAccount) (H : Heap) (g : FuncId) (caps : List AV) (w : TEntry → Bool) (hl : a.Subs.length ≤ 100000) (he : a.Entries.length ≤ 100000) (hne : a.Subs ≠ []) (hc : 0 ≤ a.Credit ∧ a.Credit ≤ 1000000000000) (hn : (ids a.Subs).Nodup) (h0 : 0 ∉ ids a.Subs)
  (hen : enterable Tryz.prog g = true) (hg : ∀ e, e ∈ a.Entries → ∀ H', Kept [] H H' → MFun Tryz.prog row src g (.agg e.cells :: caps) H' (fun r H'' => r = bv (w e) ∧ Kept [] H' H'')) :
  MFun Tryz.prog row src 107 [.agg a.cells, .fn g caps] H (fun r H' => ∃ p q, r = .tup [.ref p 0 0, bv (replayW a w).isSome] ∧ H.length ≤ p ∧ H.length ≤ q ∧ (∀ x, replayW a w = some x → Teller H' p q a.Credit x.1 x.2.1 x.2.2) ∧ Kept [] H H') := by
 obtain ⟨C, hC⟩ : ∃ C : AV → Heap → Prop, C = fun r H' => ∃ p q, r = .tup [.ref p 0 0, bv (replayW a w).isSome] ∧ H.length ≤ p ∧ H.length ≤ q ∧ (∀ x, replayW a w = some x → Teller H' p q a.Credit x.1 x.2.1 x.2.2) ∧ Kept [] H H' := ⟨_, rfl⟩
 rw [← hC]
 obtain ⟨R, hR⟩ : ∃ R, R = replayW a w := ⟨_, rfl⟩
 rw [← hR] at hC
 have ex : ∃ r H', C r H' := by
  rw [hC]
  cases R with
  | none => exact ⟨_, H, H.length, H.length, rfl, Nat.le_refl _, Nat.le_refl _, by simp, kept_refl _ _⟩
  | some x => exact ⟨_, H ++ [some ⟨134, 4, [[iv a.Credit, iv x.1, iv x.2.1, .sref (H.length + 1) 0 x.2.2.length]]⟩, some ⟨98, 2, encL TSub.cells x.2.2⟩], H.length, H.length + 1, rfl, Nat.le_refl _, by omega, fun y hy => by
    simp only [Option.some.injEq] at hy
    subst hy
    exact ⟨by omega, by simp, by rw [List.getElem?_append_right (by omega)]; simp⟩, kept_app _ _ _⟩
 refine mfun_intro Tryz.func107 rfl (by simp [Tryz.f107]) (by kernel_rfl) (ex) ?_
 intro E hP hr hs hN
 have ia : Imm (.agg [iv a.Credit, subsL a.Subs, entsL a.Entries]) := imm_acc a
 have fr := fun (row src : Option Nat) (H : Heap) => fresh_m (row := row) (src := src) a H hl hne
 rw [cA] at fr
 simp -dsimp -implicitDefEqProofs [-getElem?_pos, go_sem, hP, cA]
 refine callB_m (fr _ _ _) hP en_155 ?_
 rintro r H1 ⟨p, q, rfl, hp, hq, ht, hk1⟩
 have ob := hk1 H.length ⟨28, 3, [[iv a.Credit, subsL a.Subs, entsL a.Entries]]⟩ (by simp) (by simp)
 have lb := (gsI ob)
 rw [List.length_append, List.length_singleton] at hp hq
 simp -dsimp -implicitDefEqProofs [-getElem?_pos, go_sem, hP, ob, lb]
 obtain ⟨I, hI⟩ : ∃ I : Nat → St → Prop, I = fun m s => ∃ (k : Nat) (d : Int) (l : List TSub), k ≤ a.Entries.length ∧ m = a.Entries.length - k ∧ R = replayS a.Credit k d l ((a.Entries.drop k).takeWhile w) ∧ okAll a.Credit l = true ∧ ids l = ids a.Subs ∧ Teller s.H p q a.Credit k d l ∧ Kept [] H s.H ∧ s.t 1 = .fn g caps ∧ s.t 6 = .ref p 0 0 ∧ s.t 12 = entsL a.Entries ∧ s.t 13 = iv a.Entries.length ∧ s.t 14 = iv k := ⟨_, rfl⟩
 refine aloop0 I (a.Entries.length) (by rw [hN]; rfl) ?_ ?_
 ·rw [hI]
  exact ⟨0, 0, zeroS a.Subs, by omega, by omega, by rw [hR]; simp [replayW], zeroS_all hc.1 _, zeroS_ids _, by simp -dsimp [-getElem?_pos, go_sem]; exact ht, by simp -dsimp [-getElem?_pos, go_sem]; exact (kept_app _ _ _).trans hk1, by simp -dsimp [-getElem?_pos, go_sem], by simp -dsimp [-getElem?_pos, go_sem], by simp -dsimp [-getElem?_pos, go_sem], by simp -dsimp [-getElem?_pos, go_sem], by simp -dsimp [-getElem?_pos, go_sem]⟩
 clear ht hk1 ob lb
 intro m s hs'
 rw [hI] at hs'
 obtain ⟨k, d, l, hk, hm, hRr, hok, hids, ht, hK, t1, t6, t12, t13, t14⟩ := hs'
 have fin : ∀ b : Bool, R.isSome = b → (∀ x, R = some x → Teller s.H p q a.Credit x.1 x.2.1 x.2.2) → C (.tup [.ref p 0 0, bv b]) s.H := fun b hb hx => by
  rw [hC]
  exact ⟨p, q, by rw [hb], by omega, by omega, hx, hK⟩
 simp -dsimp -implicitDefEqProofs [-getElem?_pos, go_sem, hP, t13, t14]
 refine condP (fun h => ?_) (fun h => ?_)
 ·have hk : k < a.Entries.length := by simpa using h
  obtain ⟨e, hee⟩ : ∃ e, a.Entries[k]? = some e := ⟨_, List.getElem?_eq_getElem hk⟩
  have wk := wrap_in ((k : Int) + 1) (by omega)
  have hd : a.Entries.drop k = e :: a.Entries.drop (k + 1) := by
   rw [List.getElem?_eq_getElem hk] at hee
   rw [List.drop_eq_getElem_cons hk, Option.some.inj hee]
  rw [hd] at hRr
  have hge := hg e (List.mem_of_getElem? hee) _ (hK.trans (kept_push (some ⟨48, 6, [[iv e.Number, iv e.Day, iv e.From, iv e.To, iv e.Amount, iv e.Ref]]⟩) (kept_refl _ s.H)))
  rw [cE] at hge
  simp -dsimp -implicitDefEqProofs [-getElem?_pos, go_sem, hP, t12, t14, hee, cE, t1]
  refine callB_m (by rw [hr, hs]; exact hge) hP hen ?_
  rintro r H2 ⟨rfl, hk2⟩
  have o2 := hk2 s.H.length ⟨48, 6, [[iv e.Number, iv e.Day, iv e.From, iv e.To, iv e.Amount, iv e.Ref]]⟩ (by simp) (by simp)
  have l2 := (gsI o2)
  have k2 : Kept [] s.H H2 := (kept_app _ _ _).trans hk2
  by_cases hw : w e = true
  rotate_left
  ·rw [List.takeWhile_cons_of_neg hw] at hRr
   simp -dsimp -implicitDefEqProofs [-getElem?_pos, go_sem, hP, hw, t6]
   rw [hC]
   have hRr : R = some ((k : Int), d, l) := hRr
   refine ⟨p, q, by rw [hRr]; rfl, by omega, by omega, fun x hx => ?_, hK.trans k2⟩
   rw [hRr] at hx
   simp only [Option.some.injEq] at hx
   subst hx
   exact ht.kept k2 (by simp) (by simp)
  rw [List.takeWhile_cons_of_pos hw, replayS] at hRr
  have tp := tpost_m (row := row) (src := src) (ht.kept k2 (by simp) (by simp)) (by rw [← ids_len, hids, ids_len]; omega) hc (by rw [hids]; exact hn) (by rw [hids]; exact h0) hok (by omega) e
  rw [cE] at tp
  simp -dsimp -implicitDefEqProofs [-getElem?_pos, go_sem, hP, hw, t6, o2, l2]
  refine callB_m (by rw [hr, hs]; exact tp) hP en_128 ?_
  rintro r H3 ⟨rfl, ht3, hk3⟩
  have K3 : Kept [] H H3 := kept_high (hK.trans k2) hk3 (fun i hi => by simp at hi; omega)
  by_cases hp0 : (postS a.Credit k d l e).1 = 0
  ·rw [if_pos hp0] at hRr
   obtain ⟨q1, q2, q3, _⟩ := postS_ok hp0
   simp -dsimp -implicitDefEqProofs [-getElem?_pos, go_sem, hP, hp0, t14, wk]
   refine ⟨a.Entries.length - (k + 1), by omega, ?_⟩
   rw [hI]
   rw [q1] at hRr
   refine ⟨k + 1, e.Day, (postS a.Credit k d l e).2, by omega, rfl, hRr, postS_all hp0 hok, (postS_ids _ _ _ _ _).trans hids, ?_, by simp -dsimp [-getElem?_pos, go_sem]; exact K3, by simp -dsimp [-getElem?_pos, go_sem, t1], by simp -dsimp [-getElem?_pos, go_sem, t6], by simp -dsimp [-getElem?_pos, go_sem, t12], by simp -dsimp [-getElem?_pos, go_sem, t13], by simp -dsimp [-getElem?_pos, go_sem]⟩
   simp -dsimp -implicitDefEqProofs [-getElem?_pos, go_sem]
   have := ht3 hp0
   rw [q1] at this
   exact this
  ·rw [if_neg hp0] at hRr
   simp -dsimp -implicitDefEqProofs [-getElem?_pos, go_sem, hP, hp0, t6]
   rw [hC]
   exact ⟨p, q, by rw [hRr]; rfl, by omega, by omega, fun x hx => (by rw [hRr] at hx; cases hx), K3⟩
 ·have hk : k = a.Entries.length := by simp at h; omega
  subst hk
  rw [List.drop_length] at hRr
  have hRr : R = some ((a.Entries.length : Int), d, l) := hRr
  simp -dsimp -implicitDefEqProofs [-getElem?_pos, go_sem, hP, t6]
  refine fin true (by rw [hRr]; rfl) fun x hx => ?_
  rw [hRr] at hx
  simp only [Option.some.injEq] at hx
  subst hx
  exact ht
theorem all_m {row src : Option Nat} (e : TEntry) (H : Heap) : MFun Tryz.prog row src 108 [.agg e.cells] H (fun r H' => r = bv true ∧ Kept [] H H') := by
 refine mfun_intro Tryz.func108 rfl (by simp [Tryz.f108]) (by kernel_rfl) (⟨_, H, rfl, kept_refl _ _⟩) ?_
 intro E hP hr hs hN
 simp -dsimp -implicitDefEqProofs [-getElem?_pos, go_sem, hP, TEntry.cells]
 exact kept_app _ _ _
theorem takeWhile_true {α : Type} (l : List α) : l.takeWhile (fun _ => true) = l := takeWhile_all _ _ fun _ _ => rfl
theorem check_prog {a : TAccount} (h1 : ¬ (20 < a.Subs.length ∨ 400 < a.Entries.length)) (h2 : (vB a.Credit && numB (ids a.Subs)) = true) :
  checkA a = (replayW a fun _ => true).elim 62 (fun r => if r.2.2 = a.Subs then 0 else 62) := by
 have h3 : ¬ (!vB a.Credit || !numB (ids a.Subs)) = true := by
  simp only [Bool.and_eq_true] at h2
  simp [h2.1, h2.2]
 rw [checkA, if_neg h1, if_neg h3, replayW, takeWhile_true]
 cases replayS a.Credit 0 0 (zeroS a.Subs) a.Entries <;> rfl
set_option maxHeartbeats 1000000 in
theorem check_pf (a : TAccount) (hl : a.Subs.length ≤ 100000) (he : a.Entries.length ≤ 100000) : PFun Tryz.prog none none 52 [.agg a.cells] (· = iv (checkA a)) := by
 refine pfun_intro Tryz.func52 rfl (by simp [Tryz.f52]) (by kernel_rfl) ?_
 intro E hP hr hs hW hN
 by_cases c1 : 20 < a.Subs.length
 ·have d1 : decide ((20 : Int) < a.Subs.length) = true := decide_eq_true (by omega)
  have : checkA a = 3 := by rw [checkA, if_pos (.inl c1)]
  simp -dsimp -implicitDefEqProofs [-getElem?_pos, go_sem, hP, cA, d1, this]
 have d1 : decide ((20 : Int) < a.Subs.length) = false := decide_eq_false (by omega)
 by_cases c2 : 400 < a.Entries.length
 ·have d2 : decide ((400 : Int) < a.Entries.length) = true := decide_eq_true (by omega)
  have : checkA a = 3 := by rw [checkA, if_pos (.inr c2)]
  simp -dsimp -implicitDefEqProofs [-getElem?_pos, go_sem, hP, cA, d1, d2, this]
 have d2 : decide ((400 : Int) < a.Entries.length) = false := decide_eq_false (by omega)
 simp -dsimp -implicitDefEqProofs [-getElem?_pos, go_sem, hP, cA, d1, d2]
 refine callB_pure (valid_pf a.Credit) hP en_104 (args_same (by simp -dsimp [-getElem?_pos, go_sem])) .sc ?_
 by_cases c3 : vB a.Credit = true
 rotate_left
 ·have : checkA a = 62 := by rw [checkA, if_neg (by omega), if_pos (by simp [c3])]
  simp -dsimp -implicitDefEqProofs [-getElem?_pos, go_sem, hP, c3, this]
 simp -dsimp -implicitDefEqProofs [-getElem?_pos, go_sem, hP, c3]
 refine callB_is ((numbers_pf a.Subs hl).lift _ _) hP en_106 (by simp [imm_subs]) (imm_nums _) ?_
 simp -dsimp -implicitDefEqProofs [-getElem?_pos, go_sem, hP, c3]
 refine callB_pure (numbered_pf (ids a.Subs) (by rw [ids_len]; omega)) hP en_105 (args_imm (imm_nums _) (args_nil.2 trivial)) .sc ?_
 by_cases c4 : numB (ids a.Subs) = true
 rotate_left
 ·have : checkA a = 62 := by rw [checkA, if_neg (by omega), if_pos (by simp [c4])]
  simp -dsimp -implicitDefEqProofs [-getElem?_pos, go_sem, hP, c3, c4, this]
 obtain ⟨hnd, hz0, hhd⟩ := numB_facts c4
 have hcr : 0 ≤ a.Credit ∧ a.Credit ≤ 1000000000000 := by simpa [vB, amongB] using c3
 have hchk := check_prog (a := a) (by omega) (by simp [c3, c4])
 have hne : a.Subs ≠ [] := fun h => by rw [h] at hhd; simp [ids] at hhd
 have rp := fun (H : Heap) => replay_m (row := none) (src := none) a H 108 [] (fun _ => true) hl he hne hcr hnd hz0 en_108 (fun e _ H' _ => all_m e H')
 rw [cA] at rp
 simp -dsimp -implicitDefEqProofs [-getElem?_pos, go_sem, hP, c3, c4]
 refine callB_m (by rw [hr, hs]; exact rp _) hP en_107 ?_
 rintro r H1 ⟨p, q, rfl, hp, hq, ht, hk⟩
 have ob := hk 0 ⟨28, 3, [[iv a.Credit, subsL a.Subs, entsL a.Entries]]⟩ (by simp) (by simp)
 have lb := (gsI ob)
 cases hR : replayW a fun _ => true with
 | none =>
  rw [hR] at hchk
  have hchk : checkA a = 62 := hchk
  simp -dsimp -implicitDefEqProofs [-getElem?_pos, go_sem, hP, hchk]
  refine adrawB (fun _ => true) [] hP (by kernel_rfl) (by kernel_rfl) ?_
  simp -dsimp -implicitDefEqProofs [-getElem?_pos, go_sem, hP]
  exact hchk.symm
 | some x =>
  rw [hR] at hchk
  have hchk : checkA a = if x.2.2 = a.Subs then 0 else 62 := hchk
  have t := ht x hR
  have t1 := t.obj
  have t2 := t.ltp
  have t3 := t.subs
  have il : x.2.2.length = a.Subs.length := by
   have := (replayS_keeps a.Credit _ 0 0 (zeroS a.Subs) x (zeroS_all hcr.1 _) hR).2.1
   rw [← ids_len x.2.2, this, ids_len, zeroS_len]
  simp -dsimp -implicitDefEqProofs [-getElem?_pos, go_sem, hP]
  refine adrawB (fun _ => true) [] hP (by kernel_rfl) (by kernel_rfl) ?_
  simp -dsimp -implicitDefEqProofs [-getElem?_pos, go_sem, hP, t1, t2, ob, lb]
  refine callB_pure (listEq_pf_subs x.2.2 a.Subs (by omega) hl) hP en_109 (args_sref t3 (by rw [encL_len]) (imm_subs _) (args_imm (imm_subs _) (args_nil.2 trivial))) .sc ?_
  by_cases c5 : x.2.2 = a.Subs
  ·rw [if_pos c5] at hchk
   have d5 : decide (x.2.2 = a.Subs) = true := decide_eq_true c5
   simp -dsimp -implicitDefEqProofs [-getElem?_pos, go_sem, hP, d5, hchk]
  ·rw [if_neg c5] at hchk
   simp -dsimp -implicitDefEqProofs [-getElem?_pos, go_sem, hP, c5, hchk]
end Go.Proofs.YtmpncdlhmknkoaaGreat
