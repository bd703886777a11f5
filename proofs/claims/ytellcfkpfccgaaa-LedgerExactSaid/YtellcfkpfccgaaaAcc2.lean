/- Accounts: the reference's functions. -/
import Derived.Test.YtellcfkpfccgaaaAcc1
import Derived.Test.YtellcfkpfccgaaaAccLib
set_option linter.unusedSimpArgs false
set_option linter.unusedVariables false
namespace Go.Proofs.Ytellcfkpfccgaaa
open Go.PA
open Go.RowKit

abbrev subsL (l : List TSub) : AV := .list 2 (encL TSub.cells l)
abbrev entsL (l : List TEntry) : AV := .list 6 (encL TEntry.cells l)
theorem imm_subs (l : List TSub) : Imm (subsL l) := imm_encL _ TSub.imm l
theorem imm_ents (l : List TEntry) : Imm (entsL l) := imm_encL _ TEntry.imm l
theorem imm_acc (a : TAccount) : Imm (.agg a.cells) := .agg fun c hc => a.imm c hc
theorem imm_ent (e : TEntry) : Imm (.agg e.cells) := .agg fun c hc => e.imm c hc

theorem valid01_pf (n : Int) : PFun Try.prog none none 111 [iv n] (· = bv (vB n)) := by
  refine pfun_intro Try.func111 rfl (by simp [Try.f111]) (by kernel_rfl) ?_
  intro E hP hr hs hW hN
  by_cases h1 : 0 ≤ n <;> by_cases h2 : n ≤ 1000000000000 <;> simp -dsimp -implicitDefEqProofs [-getElem?_pos, go_sem, hP, h1, h2, vB, amongB]
theorem day23_pf (n : Int) : PFun Try.prog none none 122 [iv n] (· = bv (amongB n 0 36000)) := by
  refine pfun_intro Try.func122 rfl (by simp [Try.f122]) (by kernel_rfl) ?_
  intro E hP hr hs hW hN
  by_cases h1 : 0 ≤ n <;> by_cases h2 : n ≤ 36000 <;> simp -dsimp -implicitDefEqProofs [-getElem?_pos, go_sem, hP, h1, h2, amongB]

theorem at_pf (l : List TSub) (id : Int) (hl : l.length ≤ 100000) : PFun Try.prog none none 126 [subsL l, iv id] (· = iv (placeI l id)) := by
  refine pfun_intro Try.func126 rfl (by simp [Try.f126]) (by kernel_rfl) ?_
  intro E hP hr hs hW hN
  simp -dsimp -implicitDefEqProofs [-getElem?_pos, go_sem, hP]
  obtain ⟨I, hI⟩ : ∃ I : Nat → St → Prop, I = fun m s => ∃ k : Nat, k ≤ l.length ∧ m = l.length - k ∧ placeI l id = idxFrom (fun s => decide (s.ID = id)) k (l.drop k) ∧ s.t 1 = iv id ∧ s.t 7 = subsL l ∧ s.t 8 = iv l.length ∧ s.t 9 = iv k := ⟨_, rfl⟩
  refine aloop0 I (l.length) (by rw [hN]; rfl) ?_ ?_
  · rw [hI]
    exact ⟨0, by omega, by omega, by simp [placeI, idxI], by simp -dsimp -implicitDefEqProofs [-getElem?_pos, go_sem], by simp -dsimp -implicitDefEqProofs [-getElem?_pos, go_sem], by simp -dsimp -implicitDefEqProofs [-getElem?_pos, go_sem], by simp -dsimp -implicitDefEqProofs [-getElem?_pos, go_sem]⟩
  intro m s hs'
  rw [hI] at hs'
  obtain ⟨k, hk, hm, hi, t1, t7, t8, t9⟩ := hs'
  simp -dsimp -implicitDefEqProofs [-getElem?_pos, go_sem, hP, t8, t9]
  refine condP (fun h => ?_) (fun h => ?_)
  · have hk : k < l.length := by simpa using h
    obtain ⟨a, ha⟩ : ∃ a, l[k]? = some a := ⟨_, List.getElem?_eq_getElem hk⟩
    have wk := wrap_in ((k : Int) + 1) (by omega)
    have hd : l.drop k = a :: l.drop (k + 1) := by
      rw [List.getElem?_eq_getElem hk] at ha
      rw [List.drop_eq_getElem_cons hk, Option.some.inj ha]
    rw [hd] at hi
    simp only [idxFrom] at hi
    simp -dsimp -implicitDefEqProofs [-getElem?_pos, go_sem, hP, t9, t7, t1, ha, TSub.cells]
    refine condP (fun hp => ?_) (fun hp => ?_)
    · rw [if_pos hp] at hi
      simp -dsimp -implicitDefEqProofs [-getElem?_pos, go_sem, hP]
      exact hi.symm
    · rw [if_neg (by simpa using hp)] at hi
      simp -dsimp -implicitDefEqProofs [-getElem?_pos, go_sem, hP, t9, wk]
      refine ⟨l.length - (k + 1), by omega, ?_⟩
      rw [hI]
      exact ⟨k + 1, by omega, rfl, hi, by simp -dsimp -implicitDefEqProofs [-getElem?_pos, go_sem, t1], by simp -dsimp -implicitDefEqProofs [-getElem?_pos, go_sem, t7], by simp -dsimp -implicitDefEqProofs [-getElem?_pos, go_sem, t8], by simp -dsimp -implicitDefEqProofs [-getElem?_pos, go_sem]⟩
  · have hk : k = l.length := by simp at h; omega
    subst hk
    rw [List.drop_length] at hi
    simp -dsimp -implicitDefEqProofs [-getElem?_pos, go_sem, hP]
    exact hi.symm

theorem empty_pf (l : List TSub) (hl : l.length ≤ 100000) : PFun Try.prog none none 123 [subsL l] (· = subsL (zeroS l)) := by
  refine pfun_intro Try.func123 rfl (by simp [Try.f123]) (by kernel_rfl) ?_
  intro E hP hr hs hW hN
  simp -dsimp -implicitDefEqProofs [-getElem?_pos, go_sem, hP]
  refine aloop_own 3 96 2 (by simp -dsimp -implicitDefEqProofs [-getElem?_pos, go_sem]) ?_
  obtain ⟨I, hI⟩ : ∃ I : Nat → St → Prop, I = fun m s => ∃ k id : Nat, k ≤ l.length ∧ m = l.length - k ∧ s.t 6 = subsL l ∧ s.t 7 = iv l.length ∧ s.t 8 = iv k ∧ s.t 3 = .sref id 0 k ∧ s.H[id]? = some (some ⟨96, 2, encL TSub.cells (zeroS (l.take k))⟩) := ⟨_, rfl⟩
  refine aloopF 3 hW I (l.length) (by rw [hN]; rfl) ?_ ?_
  · rw [hI]
    exact ⟨0, 0, by omega, by omega, by simp -dsimp -implicitDefEqProofs [-getElem?_pos, go_sem], by simp -dsimp -implicitDefEqProofs [-getElem?_pos, go_sem], by simp -dsimp -implicitDefEqProofs [-getElem?_pos, go_sem], by simp -dsimp -implicitDefEqProofs [-getElem?_pos, go_sem], by simp -dsimp -implicitDefEqProofs [-getElem?_pos, go_sem, zeroS]⟩
  intro m s hs'
  rw [hI] at hs'
  obtain ⟨k, id, hk, hm, t6, t7, t8, t3, hH⟩ := hs'
  have hlt := (List.getElem?_eq_some_iff.1 hH).1
  simp -dsimp -implicitDefEqProofs [-getElem?_pos, go_sem, hP, t7, t8]
  refine condP (fun h => ?_) (fun h => ?_)
  · have hk : k < l.length := by simpa using h
    obtain ⟨a, ha⟩ : ∃ a, l[k]? = some a := ⟨_, List.getElem?_eq_getElem hk⟩
    have wk := wrap_in ((k : Int) + 1) (by omega)
    have e1 : l.take (k + 1) = l.take k ++ [a] := by rw [List.take_add_one, ha]; rfl
    have hz : (zeroS (l.take k)).length = k := by rw [zeroS_len]; simp; omega
    have e2 := encL_take TSub.cells (zeroS (l.take k)) k hz.symm
    simp -dsimp -implicitDefEqProofs [-getElem?_pos, go_sem, hP, t8, t6, ha, TSub.cells, t3, hH, hlt, e2, hz, wk]
    refine ⟨by omega, by omega, l.length - (k + 1), by omega, ?_⟩
    rw [hI]
    refine ⟨k + 1, s.H.length + 1, by omega, rfl, by simp -dsimp -implicitDefEqProofs [-getElem?_pos, go_sem, t6], by simp -dsimp -implicitDefEqProofs [-getElem?_pos, go_sem, t7], by simp -dsimp -implicitDefEqProofs [-getElem?_pos, go_sem], by simp -dsimp -implicitDefEqProofs [-getElem?_pos, go_sem], ?_⟩
    simp -dsimp -implicitDefEqProofs [-getElem?_pos, go_sem, e1, zeroS, encL, TSub.cells]
  · have hk : k = l.length := by simp at h; omega
    subst hk
    rw [List.take_length] at hH
    simp -dsimp -implicitDefEqProofs [-getElem?_pos, go_sem, hP]
    refine frz id l.length 96 2 (encL TSub.cells (zeroS l)) (by simp -dsimp -implicitDefEqProofs [-getElem?_pos, go_sem, t3]) (by simp -dsimp -implicitDefEqProofs [-getElem?_pos, go_sem, hH]) (by simp [encL, zeroS]) (imm_subs _) ?_
    simp -dsimp -implicitDefEqProofs [-getElem?_pos, go_sem, hP]
    exact done_imm (imm_subs _) rfl

/-- What the reference's add hands back. -/
def addR (credit : Int) (l : List TSub) (last e : TEntry) : List TSub × Int := if (postS credit last.Number last.Day l e).1 = 0 then ((postS credit last.Number last.Day l e).2, 0) else ([], (postS credit last.Number last.Day l e).1)

theorem okSub_iff (credit : Int) (s : TSub) : okSub credit s = true ↔ (if s.ID = 1 then -credit else 0) ≤ s.Balance ∧ s.Balance ≤ 1000000000000000 := by simp [okSub]

theorem placeI_of {l : List TSub} (hn : (ids l).Nodup) {i : Nat} {a : TSub} (hi : l[i]? = some a) : placeI l a.ID = (i : Int) := by
  rcases placeI_spec l a.ID with ⟨_, h2⟩ | ⟨j, b, h1, h2, h3, _⟩
  · exact absurd (List.mem_map.2 ⟨a, List.mem_of_getElem? hi, rfl⟩) h2
  · rw [h3, nodup_get hn hi h1 h2.symm]

set_option maxHeartbeats 1000000 in
theorem add_pf (credit : Int) (l : List TSub) (last e : TEntry) (hl : l.length ≤ 100000) (hc : 0 ≤ credit ∧ credit ≤ 1000000000000) (hn : (ids l).Nodup) (h0 : 0 ∉ ids l) (hok : okAll credit l = true) (hln : -1000000000 ≤ last.Number ∧ last.Number ≤ 1000000000) (hld : 0 ≤ last.Day) :
    PFun Try.prog none none 113 [iv credit, subsL l, .agg last.cells, .agg e.cells] (· = .tup [subsL (addR credit l last e).1, iv (addR credit l last e).2]) := by
  refine pfun_intro Try.func113 rfl (by simp [Try.f113]) (by kernel_rfl) ?_
  intro E hP hr hs hW hN
  have w1 := wrap_in (last.Number + 1) (by omega)
  have fin : ∀ (n : Int) (H : Heap) (b), ¬ n = 0 → (postS credit last.Number last.Day l e).1 = n → Done H (.tup [.nil, iv n]) (· = .tup [subsL (addR credit l last e).1, iv (addR credit l last e).2]) b := fun n H b hn0 hp => by
    refine done_nil2 2 ?_
    unfold addR
    rw [if_neg (by rw [hp]; exact hn0), hp]
    simp [encL]
  by_cases h1 : e.Number = last.Number + 1
  rotate_left
  · have h1' : badNum last.Number e = true := by simpa [badNum] using h1
    simp -dsimp -implicitDefEqProofs [-getElem?_pos, go_sem, hP, TEntry.cells, w1, h1]
    exact fin 65 _ _ (by omega) (by rw [postS, if_pos h1'])
  have h1' : ¬ badNum last.Number e = true := by simpa [badNum] using h1
  by_cases h2 : e.Day < last.Day
  · have h2' : badDay last.Day e = true := by simp [badDay, amongB]; omega
    simp -dsimp -implicitDefEqProofs [-getElem?_pos, go_sem, hP, TEntry.cells, w1, h1, h2]
    exact fin 8 _ _ (by omega) (by rw [postS, if_neg h1', if_pos h2'])
  simp -dsimp -implicitDefEqProofs [-getElem?_pos, go_sem, hP, TEntry.cells, w1, h1, h2]
  refine callB_pure (day23_pf e.Day) hP en_122 (args_same (by simp -dsimp -implicitDefEqProofs [-getElem?_pos, go_sem])) .sc ?_
  by_cases h3 : amongB e.Day 0 36000 = true
  rotate_left
  · have h2' : badDay last.Day e = true := by simp [amongB] at h3; simp [badDay, amongB]; omega
    simp -dsimp -implicitDefEqProofs [-getElem?_pos, go_sem, hP, h3]
    exact fin 8 _ _ (by omega) (by rw [postS, if_neg h1', if_pos h2'])
  have h2' : ¬ badDay last.Day e = true := by simp [amongB] at h3; simp [badDay, amongB]; omega
  simp -dsimp -implicitDefEqProofs [-getElem?_pos, go_sem, hP, h3]
  refine callB_pure (valid01_pf e.Amount) hP en_111 (args_same (by simp -dsimp -implicitDefEqProofs [-getElem?_pos, go_sem])) .sc ?_
  have b3 : badAmt e = true ↔ ¬ (vB e.Amount = true ∧ ¬ e.Amount = 0 ∧ ¬ e.Ref < 0 ∧ ¬ 1000000 < e.Ref) := by
    simp [badAmt, vB, amongB]
    omega
  by_cases h4 : badAmt e = true
  · have f4 : ∀ (H : Heap) (b), Done H (.tup [.nil, iv 2]) (· = .tup [subsL (addR credit l last e).1, iv (addR credit l last e).2]) b := fun H b => fin 2 _ _ (by omega) (by rw [postS, if_neg h1', if_neg h2', if_pos h4])
    by_cases a1 : vB e.Amount = true
    rotate_left
    · simp -dsimp -implicitDefEqProofs [-getElem?_pos, go_sem, hP, a1]
      exact f4 _ _
    by_cases a2 : e.Amount = 0
    · have d2 : decide (e.Amount = 0) = true := by simpa using a2
      simp -dsimp -implicitDefEqProofs [-getElem?_pos, go_sem, hP, a1, d2]
      exact f4 _ _
    by_cases a3 : e.Ref < 0
    · simp -dsimp -implicitDefEqProofs [-getElem?_pos, go_sem, hP, a1, a2, a3]
      exact f4 _ _
    by_cases a4 : 1000000 < e.Ref
    · simp -dsimp -implicitDefEqProofs [-getElem?_pos, go_sem, hP, a1, a2, a3, a4]
      exact f4 _ _
    · exact absurd ⟨a1, a2, a3, a4⟩ (b3.1 h4)
  have h4' := h4
  rw [b3, Classical.not_not] at h4'
  have a1 := h4'.1
  have a2 := h4'.2.1
  have a3 := h4'.2.2.1
  have a4 := h4'.2.2.2
  clear h4'
  simp -dsimp -implicitDefEqProofs [-getElem?_pos, go_sem, hP, a1, a2, a3, a4]
  have b5 : badSub l e = true ↔ ¬ (¬ e.From = e.To ∧ (e.From = 0 ∨ 0 ≤ placeI l e.From) ∧ (e.To = 0 ∨ 0 ≤ placeI l e.To)) := by
    simp [badSub, knownB]
    grind
  by_cases a5 : e.From = e.To
  · have h5 : badSub l e = true := b5.2 fun h => h.1 a5
    have d5 : decide (e.From = e.To) = true := by simpa using a5
    simp -dsimp -implicitDefEqProofs [-getElem?_pos, go_sem, hP, d5]
    exact fin 60 _ _ (by omega) (by rw [postS, if_neg h1', if_neg h2', if_neg h4, if_pos h5])
  have f5 : ∀ (H : Heap) (b), badSub l e = true → Done H (.tup [.nil, iv 60]) (· = .tup [subsL (addR credit l last e).1, iv (addR credit l last e).2]) b := fun H b h5 => fin 60 _ _ (by omega) (by rw [postS, if_neg h1', if_neg h2', if_neg h4, if_pos h5])
  have iS := imm_subs l
  -- the two sub-accounts
  have two : ∀ (From : Int), From = 0 ∧ placeI l From = -1 ∨ ¬ From = 0 ∧ placeI l From = -1 ∨ ∃ (i : Nat) (a : TSub), ¬ From = 0 ∧ l[i]? = some a ∧ a.ID = From ∧ placeI l From = (i : Int) := fun From => by
    rcases placeI_spec l From with ⟨p1, p2⟩ | ⟨i, a, p1, p2, p3, p4⟩
    · by_cases hz : From = 0
      · exact .inl ⟨hz, p1⟩
      · exact .inr (.inl ⟨hz, p1⟩)
    · exact .inr (.inr ⟨i, a, fun hz => h0 (hz ▸ p4), p1, p2, p3⟩)
  have e0 := encL_take TSub.cells l l.length rfl
  have pS : postS credit last.Number last.Day l e = if badSub l e = true then (60, l) else if okAt credit (adj l e.From (-e.Amount)) e.From = false then (61, adj l e.From (-e.Amount)) else
      if okAt credit (adj (adj l e.From (-e.Amount)) e.To e.Amount) e.To = false then (61, adj (adj l e.From (-e.Amount)) e.To e.Amount) else (0, adj (adj l e.From (-e.Amount)) e.To e.Amount) := by
    rw [postS, if_neg h1', if_neg h2', if_neg h4]
  have okR : ∀ L, postS credit last.Number last.Day l e = (0, L) → addR credit l last e = (L, 0) := fun L h => by unfold addR; rw [h]; rfl
  have hamt : 0 ≤ e.Amount ∧ e.Amount ≤ 1000000000000 := by simpa [vB, amongB] using a1
  have okg : ∀ (i : Nat) (a : TSub), l[i]? = some a → okSub credit a = true := fun i a hi => List.all_eq_true.1 hok a (List.mem_of_getElem? hi)
  have bnd : ∀ (i : Nat) (a : TSub), l[i]? = some a → -1000000000000 ≤ a.Balance ∧ a.Balance ≤ 1000000000000000 := fun i a hi => by
    have := (okSub_iff _ _).1 (okg i a hi)
    split at this <;> omega
  have wneg := wrap_in (0 - credit) (by omega)
  rw [Int.zero_sub] at wneg
  rcases two e.From with ⟨z1, p1⟩ | ⟨z1, p1⟩ | ⟨i, a, z1, i1, ea, p1⟩
  · have d1 : decide (e.From = 0) = true := by simpa using z1
    have nf : adj l e.From (-e.Amount) = l := adj_none (z1 ▸ h0)
    have of : okAt credit l e.From = true := okAt_none (z1 ▸ h0)
    rcases two e.To with ⟨z2, p2⟩ | ⟨z2, p2⟩ | ⟨j, b, z2, jL, eb, p2⟩
    · exact absurd (z1.trans z2.symm) a5
    · have h5 : badSub l e = true := b5.2 fun h => by have := h.2.2; omega
      simp -dsimp -implicitDefEqProofs [-getElem?_pos, go_sem, hP, a5, d1, z2]
      refine callB_pure (at_pf l e.To hl) hP en_126 (args_imm iS (args_imm .sc (args_nil.2 trivial))) .sc ?_
      simp -dsimp -implicitDefEqProofs [-getElem?_pos, go_sem, hP, a5, d1, z2, p2]
      exact f5 _ _ h5
    · have h5 : badSub l e = false := by simpa using fun h => b5.1 h ⟨a5, .inl z1, .inr (by omega)⟩
      have ok1 : (if badSub l e = true then ((60 : Int), l) else if okAt credit (adj l e.From (-e.Amount)) e.From = false then (61, adj l e.From (-e.Amount)) else
          if okAt credit (adj (adj l e.From (-e.Amount)) e.To e.Amount) e.To = false then (61, adj (adj l e.From (-e.Amount)) e.To e.Amount) else (0, adj (adj l e.From (-e.Amount)) e.To e.Amount)) =
          if okAt credit (adj l e.To e.Amount) e.To = false then (61, adj l e.To e.Amount) else (0, adj l e.To e.Amount) := by
        rw [nf, of, h5]; simp
      have okb := okg j b jL
      have hb := bnd j b jL
      have wb := wrap_in (b.Balance + e.Amount) (by omega)
      have nL := hn
      have q2 := p2
      simp -dsimp -implicitDefEqProofs [-getElem?_pos, go_sem, hP, a5, d1, z2]
      refine callB_pure (at_pf l e.To hl) hP en_126 (args_imm iS (args_imm .sc (args_nil.2 trivial))) .sc ?_
      have d2 : decide ((j : Int) < 0) = false := by simp
      simp -dsimp -implicitDefEqProofs [-getElem?_pos, go_sem, hP, a5, d1, z2, p2, d2]
      refine ⟨by omega, by omega, ?_⟩
      refine callB_pure (at_pf l e.From (by (try simp only [adj_len]); omega)) hP en_126 (args_sref rfl (by simp [encL, adj]) (imm_subs _) (args_imm .sc (args_nil.2 trivial))) .sc ?_
      simp -dsimp -implicitDefEqProofs [-getElem?_pos, go_sem, hP, p1]
      have hj : j < l.length := (List.getElem?_eq_some_iff.1 jL).1
      have hjl : j < l.length := by (try simp only [adj_len] at hj); omega
      refine callB_pure (at_pf l e.To (by (try simp only [adj_len]); omega)) hP en_126 (args_sref rfl (by simp [encL, adj]) (imm_subs _) (args_imm .sc (args_nil.2 trivial))) .sc ?_
      simp -dsimp -implicitDefEqProofs [-getElem?_pos, go_sem, hP, q2]
      refine adrawB (fun _ => true) [10] hP (by kernel_rfl) (by kernel_rfl) ?_
      have set2 : (encL TSub.cells l).set j [iv b.ID, iv (b.Balance + e.Amount)] = encL TSub.cells (adj l e.To e.Amount) := by
        rw [← eb, ← set_adj nL jL, ← encL_set]
        rfl
      have g2 : (adj l e.To e.Amount)[j]? = some ⟨b.ID, b.Balance + e.Amount⟩ := by rw [adj_get, jL, ← eb]; simp
      have len2 : (adj l e.To e.Amount).length = l.length := by simp [adj_len]
      have o2 : okAt credit (adj l e.To e.Amount) e.To = okSub credit ⟨b.ID, b.Balance + e.Amount⟩ := by
        rw [← eb] at g2 ⊢
        exact okAt_get (by rw [adj_ids]; exact nL) g2
      have lt2 : (j : Int) < (l.length : Int) := by omega
      simp -dsimp -implicitDefEqProofs [-getElem?_pos, go_sem, hP, adj_len, jL, TSub.cells, hjl, lt2, wb, set2, g2]
      by_cases c4 : 1000000000000000 < b.Balance + e.Amount
      · have o2' : okAt credit (adj l e.To e.Amount) e.To = false := by rw [o2]; simp [okSub]; omega
        simp -dsimp -implicitDefEqProofs [-getElem?_pos, go_sem, hP, adj_len, g2, TSub.cells, hjl, lt2, c4]
        exact fin 61 _ _ (by omega) (by rw [pS, ok1]; simp [nf, z1, o2'])
      · have o2' : okAt credit (adj l e.To e.Amount) e.To = true := by
          rw [o2]
          have := (okSub_iff _ _).1 okb
          rw [okSub_iff]
          dsimp only
          omega
        simp -dsimp -implicitDefEqProofs [-getElem?_pos, go_sem, hP, adj_len, g2, TSub.cells, hjl, lt2, c4]
        have e2 := encL_take TSub.cells (adj l e.To e.Amount) l.length (by simp [adj_len])
        refine done (x := .tup [subsL (adj l e.To e.Amount), iv 0]) ?_ ?_ ?_
        · simp -dsimp -implicitDefEqProofs [-getElem?_pos, go_sem, e2]
          exact imm_list.1 (imm_subs _)
        · rw [okR (adj l e.To e.Amount) (by rw [pS, ok1]; simp [nf, z1, o2'])]
        · simp -dsimp -implicitDefEqProofs [-getElem?_pos, go_sem, e2]
  · have h5 : badSub l e = true := b5.2 fun h => by have := h.2.1; omega
    simp -dsimp -implicitDefEqProofs [-getElem?_pos, go_sem, hP, a5, z1]
    refine callB_pure (at_pf l e.From hl) hP en_126 (args_imm iS (args_imm .sc (args_nil.2 trivial))) .sc ?_
    simp -dsimp -implicitDefEqProofs [-getElem?_pos, go_sem, hP, a5, z1, p1]
    exact f5 _ _ h5
  · have d2 : decide ((i : Int) < 0) = false := by simp
    simp -dsimp -implicitDefEqProofs [-getElem?_pos, go_sem, hP, a5, z1]
    refine callB_pure (at_pf l e.From hl) hP en_126 (args_imm iS (args_imm .sc (args_nil.2 trivial))) .sc ?_
    simp -dsimp -implicitDefEqProofs [-getElem?_pos, go_sem, hP, a5, z1, p1, d2]
    have hi : i < l.length := (List.getElem?_eq_some_iff.1 i1).1
    have hia := bnd i a i1
    have oka := (okSub_iff _ _).1 (okg i a i1)
    have wa := wrap_in (a.Balance - e.Amount) (by omega)
    have set1 : (encL TSub.cells l).set i [iv a.ID, iv (a.Balance - e.Amount)] = encL TSub.cells (adj l e.From (-e.Amount)) := by
      rw [← ea, ← set_adj hn i1, ← encL_set]
      rfl
    have g1 : (adj l e.From (-e.Amount))[i]? = some ⟨a.ID, a.Balance - e.Amount⟩ := by rw [adj_get, i1, ← ea]; simp; omega
    have nL1 : (ids (adj l e.From (-e.Amount))).Nodup := by rw [adj_ids]; exact hn
    have o1 : okAt credit (adj l e.From (-e.Amount)) e.From = okSub credit ⟨a.ID, a.Balance - e.Amount⟩ := by
      rw [← ea] at g1 nL1 ⊢
      exact okAt_get nL1 g1
    have e1 := encL_take TSub.cells (adj l e.From (-e.Amount)) l.length (by simp [adj_len])
    have len1 : (adj l e.From (-e.Amount)).length = l.length := by simp [adj_len]
    have lt1 : (i : Int) < (l.length : Int) := by omega
    have stepF : badSub l e = false → ∀ (P : Prop), (okSub credit ⟨a.ID, a.Balance - e.Amount⟩ = false → P) → (okSub credit ⟨a.ID, a.Balance - e.Amount⟩ = true → P) → P := fun _ P h k => by
      cases hh : okSub credit ⟨a.ID, a.Balance - e.Amount⟩
      · exact h hh
      · exact k hh
    rcases two e.To with ⟨z2, p2⟩ | ⟨z2, p2⟩ | ⟨j, b, z2, j1, eb, p2⟩
    rotate_left
    · have h5 : badSub l e = true := b5.2 fun h => by have := h.2.2; omega
      simp -dsimp -implicitDefEqProofs [-getElem?_pos, go_sem, hP, a5, z1, z2, p1, d2]
      refine callB_pure (at_pf l e.To hl) hP en_126 (args_imm iS (args_imm .sc (args_nil.2 trivial))) .sc ?_
      simp -dsimp -implicitDefEqProofs [-getElem?_pos, go_sem, hP, a5, z1, z2, p1, p2, d2]
      exact f5 _ _ h5
    · have h5 : badSub l e = false := by simpa using fun h => b5.1 h ⟨a5, .inr (by omega), .inr (by omega)⟩
      have d4 : decide ((j : Int) < 0) = false := by simp
      have okb := okg j b j1
      have hb := bnd j b j1
      have wb := wrap_in (b.Balance + e.Amount) (by omega)
      have q2 : placeI (adj l e.From (-e.Amount)) e.To = (j : Int) := by
        have hne : ¬ b.ID = e.From := fun h => a5 (h.symm.trans eb)
        have : (adj l e.From (-e.Amount))[j]? = some b := by rw [adj_get, j1]; simp [hne]
        rw [← eb]
        exact placeI_of nL1 this
      simp -dsimp -implicitDefEqProofs [-getElem?_pos, go_sem, hP, a5, z1, z2, p1, d2]
      refine callB_pure (at_pf l e.To hl) hP en_126 (args_imm iS (args_imm .sc (args_nil.2 trivial))) .sc ?_
      simp -dsimp -implicitDefEqProofs [-getElem?_pos, go_sem, hP, a5, z1, z2, p1, p2, d2, d4]
      refine ⟨by omega, by omega, ?_⟩
      refine callB_pure (at_pf l e.From (by (try simp only [adj_len]); omega)) hP en_126 (args_sref rfl (by simp [encL, adj]) (imm_subs _) (args_imm .sc (args_nil.2 trivial))) .sc ?_
      simp -dsimp -implicitDefEqProofs [-getElem?_pos, go_sem, hP, p1]
      refine adrawB (fun _ => true) [10] hP (by kernel_rfl) (by kernel_rfl) ?_
      simp -dsimp -implicitDefEqProofs [-getElem?_pos, go_sem, hP, adj_len, i1, TSub.cells, hi, lt1, wa, set1, g1]
      have nok : okSub credit ⟨a.ID, a.Balance - e.Amount⟩ = false ↔ (a.Balance - e.Amount < 0 ∧ (¬ a.ID = 1 ∨ a.Balance - e.Amount < -credit)) := by
        rw [← Bool.not_eq_true, okSub_iff]
        dsimp only
        by_cases hid : a.ID = 1
        · rw [if_pos hid]; omega
        · rw [if_neg hid]; simp [hid]; omega
      by_cases hno : okSub credit ⟨a.ID, a.Balance - e.Amount⟩ = false
      · have r61 : ∀ (H : Heap) (b), Done H (.tup [.nil, iv 61]) (· = .tup [subsL (addR credit l last e).1, iv (addR credit l last e).2]) b := fun H b => fin 61 _ _ (by omega) (by rw [pS, h5, o1, hno]; simp)
        obtain ⟨c1, c2⟩ := nok.1 hno
        by_cases c3 : a.ID = 1
        · have c4 : a.Balance - e.Amount < -credit := c2.resolve_left (fun h => h c3)
          have d3 : decide (a.ID = 1) = true := by simpa using c3
          simp -dsimp -implicitDefEqProofs [-getElem?_pos, go_sem, hP, adj_len, g1, TSub.cells, hi, lt1, c1, d3, c4, wneg]
          exact r61 _ _
        · simp -dsimp -implicitDefEqProofs [-getElem?_pos, go_sem, hP, adj_len, g1, TSub.cells, hi, lt1, c1, c3]
          exact r61 _ _
      have hyes : okSub credit ⟨a.ID, a.Balance - e.Amount⟩ = true := by simpa using hno
      have f1 : okAt credit (adj l e.From (-e.Amount)) e.From = true := by rw [o1, hyes]
      have ok1 : (if badSub l e = true then ((60 : Int), l) else if okAt credit (adj l e.From (-e.Amount)) e.From = false then (61, adj l e.From (-e.Amount)) else
          if okAt credit (adj (adj l e.From (-e.Amount)) e.To e.Amount) e.To = false then (61, adj (adj l e.From (-e.Amount)) e.To e.Amount) else (0, adj (adj l e.From (-e.Amount)) e.To e.Amount)) =
          if okAt credit (adj (adj l e.From (-e.Amount)) e.To e.Amount) e.To = false then (61, adj (adj l e.From (-e.Amount)) e.To e.Amount) else (0, adj (adj l e.From (-e.Amount)) e.To e.Amount) := by
        rw [f1, h5]; simp
      have go : ∀ {p : Prop}, (a.Balance - e.Amount < 0 → a.ID = 1 → ¬ a.Balance - e.Amount < -credit → p) → (¬ a.Balance - e.Amount < 0 → p) → p := fun h k => by
        by_cases c1 : a.Balance - e.Amount < 0
        · have c3 : a.ID = 1 := Classical.byContradiction fun h3 => hno (nok.2 ⟨c1, .inl h3⟩)
          exact h c1 c3 fun h4 => hno (nok.2 ⟨c1, .inr h4⟩)
        · exact k c1
      refine go (fun c1 c3 c4 => ?_) (fun c1 => ?_)
      · have d3 : decide (a.ID = 1) = true := by simpa using c3
        simp -dsimp -implicitDefEqProofs [-getElem?_pos, go_sem, hP, adj_len, g1, TSub.cells, hi, lt1, c1, d3, c4, wneg]
        have hj : j < l.length := (List.getElem?_eq_some_iff.1 j1).1
        have hne : ¬ b.ID = e.From := fun h => a5 (h.symm.trans eb)
        have jL : (adj l e.From (-e.Amount))[j]? = some b := by rw [adj_get, j1]; simp [hne]
        refine callB_pure (at_pf (adj l e.From (-e.Amount)) e.To (by (try simp only [adj_len]); omega)) hP en_126 (args_sref rfl (by simp [encL, adj]) (imm_subs _) (args_imm .sc (args_nil.2 trivial))) .sc ?_
        simp -dsimp -implicitDefEqProofs [-getElem?_pos, go_sem, hP, q2]
        refine adrawB (fun _ => true) [10] hP (by kernel_rfl) (by kernel_rfl) ?_
        have set2 : (encL TSub.cells (adj l e.From (-e.Amount))).set j [iv b.ID, iv (b.Balance + e.Amount)] = encL TSub.cells (adj (adj l e.From (-e.Amount)) e.To e.Amount) := by
          rw [← eb, ← set_adj nL1 jL, ← encL_set]
          rfl
        have g2 : (adj (adj l e.From (-e.Amount)) e.To e.Amount)[j]? = some ⟨b.ID, b.Balance + e.Amount⟩ := by rw [adj_get, jL, ← eb]; simp
        have o2 : okAt credit (adj (adj l e.From (-e.Amount)) e.To e.Amount) e.To = okSub credit ⟨b.ID, b.Balance + e.Amount⟩ := by
          rw [← eb] at g2 ⊢
          exact okAt_get (by rw [adj_ids]; exact nL1) g2
        have lt2 : (j : Int) < (l.length : Int) := by omega
        simp -dsimp -implicitDefEqProofs [-getElem?_pos, go_sem, hP, adj_len, jL, TSub.cells, hj, lt2, wb, set2, g2]
        by_cases c4 : 1000000000000000 < b.Balance + e.Amount
        · have o2' : okAt credit (adj (adj l e.From (-e.Amount)) e.To e.Amount) e.To = false := by rw [o2]; simp [okSub]; omega
          simp -dsimp -implicitDefEqProofs [-getElem?_pos, go_sem, hP, adj_len, g2, TSub.cells, hj, lt2, c4]
          exact fin 61 _ _ (by omega) (by rw [pS, ok1]; simp [o2'])
        · have o2' : okAt credit (adj (adj l e.From (-e.Amount)) e.To e.Amount) e.To = true := by
            rw [o2]
            have := (okSub_iff _ _).1 okb
            rw [okSub_iff]
            dsimp only
            omega
          simp -dsimp -implicitDefEqProofs [-getElem?_pos, go_sem, hP, adj_len, g2, TSub.cells, hj, lt2, c4]
          have e2 := encL_take TSub.cells (adj (adj l e.From (-e.Amount)) e.To e.Amount) l.length (by simp [adj_len])
          refine done (x := .tup [subsL (adj (adj l e.From (-e.Amount)) e.To e.Amount), iv 0]) ?_ ?_ ?_
          · simp -dsimp -implicitDefEqProofs [-getElem?_pos, go_sem, e2]
            exact imm_list.1 (imm_subs _)
          · rw [okR (adj (adj l e.From (-e.Amount)) e.To e.Amount) (by rw [pS, ok1]; simp [o2'])]
          · simp -dsimp -implicitDefEqProofs [-getElem?_pos, go_sem, e2]
      · simp -dsimp -implicitDefEqProofs [-getElem?_pos, go_sem, hP, adj_len, g1, TSub.cells, hi, lt1, c1]
        have hj : j < l.length := (List.getElem?_eq_some_iff.1 j1).1
        have hne : ¬ b.ID = e.From := fun h => a5 (h.symm.trans eb)
        have jL : (adj l e.From (-e.Amount))[j]? = some b := by rw [adj_get, j1]; simp [hne]
        refine callB_pure (at_pf (adj l e.From (-e.Amount)) e.To (by (try simp only [adj_len]); omega)) hP en_126 (args_sref rfl (by simp [encL, adj]) (imm_subs _) (args_imm .sc (args_nil.2 trivial))) .sc ?_
        simp -dsimp -implicitDefEqProofs [-getElem?_pos, go_sem, hP, q2]
        refine adrawB (fun _ => true) [10] hP (by kernel_rfl) (by kernel_rfl) ?_
        have set2 : (encL TSub.cells (adj l e.From (-e.Amount))).set j [iv b.ID, iv (b.Balance + e.Amount)] = encL TSub.cells (adj (adj l e.From (-e.Amount)) e.To e.Amount) := by
          rw [← eb, ← set_adj nL1 jL, ← encL_set]
          rfl
        have g2 : (adj (adj l e.From (-e.Amount)) e.To e.Amount)[j]? = some ⟨b.ID, b.Balance + e.Amount⟩ := by rw [adj_get, jL, ← eb]; simp
        have o2 : okAt credit (adj (adj l e.From (-e.Amount)) e.To e.Amount) e.To = okSub credit ⟨b.ID, b.Balance + e.Amount⟩ := by
          rw [← eb] at g2 ⊢
          exact okAt_get (by rw [adj_ids]; exact nL1) g2
        have lt2 : (j : Int) < (l.length : Int) := by omega
        simp -dsimp -implicitDefEqProofs [-getElem?_pos, go_sem, hP, adj_len, jL, TSub.cells, hj, lt2, wb, set2, g2]
        by_cases c4 : 1000000000000000 < b.Balance + e.Amount
        · have o2' : okAt credit (adj (adj l e.From (-e.Amount)) e.To e.Amount) e.To = false := by rw [o2]; simp [okSub]; omega
          simp -dsimp -implicitDefEqProofs [-getElem?_pos, go_sem, hP, adj_len, g2, TSub.cells, hj, lt2, c4]
          exact fin 61 _ _ (by omega) (by rw [pS, ok1]; simp [o2'])
        · have o2' : okAt credit (adj (adj l e.From (-e.Amount)) e.To e.Amount) e.To = true := by
            rw [o2]
            have := (okSub_iff _ _).1 okb
            rw [okSub_iff]
            dsimp only
            omega
          simp -dsimp -implicitDefEqProofs [-getElem?_pos, go_sem, hP, adj_len, g2, TSub.cells, hj, lt2, c4]
          have e2 := encL_take TSub.cells (adj (adj l e.From (-e.Amount)) e.To e.Amount) l.length (by simp [adj_len])
          refine done (x := .tup [subsL (adj (adj l e.From (-e.Amount)) e.To e.Amount), iv 0]) ?_ ?_ ?_
          · simp -dsimp -implicitDefEqProofs [-getElem?_pos, go_sem, e2]
            exact imm_list.1 (imm_subs _)
          · rw [okR (adj (adj l e.From (-e.Amount)) e.To e.Amount) (by rw [pS, ok1]; simp [o2'])]
          · simp -dsimp -implicitDefEqProofs [-getElem?_pos, go_sem, e2]
    · have h5 : badSub l e = false := by simpa using fun h => b5.1 h ⟨a5, .inr (by omega), .inl z2⟩
      have d5 : decide (e.To = 0) = true := by simpa using z2
      have q2 : placeI (adj l e.From (-e.Amount)) e.To = -1 := by
        rcases placeI_spec (adj l e.From (-e.Amount)) e.To with ⟨h, _⟩ | ⟨_, _, _, _, _, h⟩
        · exact h
        · rw [adj_ids, z2] at h; exact absurd h h0
      simp -dsimp -implicitDefEqProofs [-getElem?_pos, go_sem, hP, a5, z1, p1, d2, d5]
      refine ⟨by omega, by omega, ?_⟩
      refine callB_pure (at_pf l e.From (by (try simp only [adj_len]); omega)) hP en_126 (args_sref rfl (by simp [encL, adj]) (imm_subs _) (args_imm .sc (args_nil.2 trivial))) .sc ?_
      simp -dsimp -implicitDefEqProofs [-getElem?_pos, go_sem, hP, p1]
      refine adrawB (fun _ => true) [10] hP (by kernel_rfl) (by kernel_rfl) ?_
      simp -dsimp -implicitDefEqProofs [-getElem?_pos, go_sem, hP, adj_len, i1, TSub.cells, hi, lt1, wa, set1, g1]
      have nok : okSub credit ⟨a.ID, a.Balance - e.Amount⟩ = false ↔ (a.Balance - e.Amount < 0 ∧ (¬ a.ID = 1 ∨ a.Balance - e.Amount < -credit)) := by
        rw [← Bool.not_eq_true, okSub_iff]
        dsimp only
        by_cases hid : a.ID = 1
        · rw [if_pos hid]; omega
        · rw [if_neg hid]; simp [hid]; omega
      by_cases hno : okSub credit ⟨a.ID, a.Balance - e.Amount⟩ = false
      · have r61 : ∀ (H : Heap) (b), Done H (.tup [.nil, iv 61]) (· = .tup [subsL (addR credit l last e).1, iv (addR credit l last e).2]) b := fun H b => fin 61 _ _ (by omega) (by rw [pS, h5, o1, hno]; simp)
        obtain ⟨c1, c2⟩ := nok.1 hno
        by_cases c3 : a.ID = 1
        · have c4 : a.Balance - e.Amount < -credit := c2.resolve_left (fun h => h c3)
          have d3 : decide (a.ID = 1) = true := by simpa using c3
          simp -dsimp -implicitDefEqProofs [-getElem?_pos, go_sem, hP, adj_len, g1, TSub.cells, hi, lt1, c1, d3, c4, wneg]
          exact r61 _ _
        · simp -dsimp -implicitDefEqProofs [-getElem?_pos, go_sem, hP, adj_len, g1, TSub.cells, hi, lt1, c1, c3]
          exact r61 _ _
      have hyes : okSub credit ⟨a.ID, a.Balance - e.Amount⟩ = true := by simpa using hno
      have f1 : okAt credit (adj l e.From (-e.Amount)) e.From = true := by rw [o1, hyes]
      have ok1 : (if badSub l e = true then ((60 : Int), l) else if okAt credit (adj l e.From (-e.Amount)) e.From = false then (61, adj l e.From (-e.Amount)) else
          if okAt credit (adj (adj l e.From (-e.Amount)) e.To e.Amount) e.To = false then (61, adj (adj l e.From (-e.Amount)) e.To e.Amount) else (0, adj (adj l e.From (-e.Amount)) e.To e.Amount)) =
          if okAt credit (adj (adj l e.From (-e.Amount)) e.To e.Amount) e.To = false then (61, adj (adj l e.From (-e.Amount)) e.To e.Amount) else (0, adj (adj l e.From (-e.Amount)) e.To e.Amount) := by
        rw [f1, h5]; simp
      have go : ∀ {p : Prop}, (a.Balance - e.Amount < 0 → a.ID = 1 → ¬ a.Balance - e.Amount < -credit → p) → (¬ a.Balance - e.Amount < 0 → p) → p := fun h k => by
        by_cases c1 : a.Balance - e.Amount < 0
        · have c3 : a.ID = 1 := Classical.byContradiction fun h3 => hno (nok.2 ⟨c1, .inl h3⟩)
          exact h c1 c3 fun h4 => hno (nok.2 ⟨c1, .inr h4⟩)
        · exact k c1
      refine go (fun c1 c3 c4 => ?_) (fun c1 => ?_)
      · have d3 : decide (a.ID = 1) = true := by simpa using c3
        simp -dsimp -implicitDefEqProofs [-getElem?_pos, go_sem, hP, adj_len, g1, TSub.cells, hi, lt1, c1, d3, c4, wneg]
        refine callB_pure (at_pf (adj l e.From (-e.Amount)) e.To (by (try simp only [adj_len]); omega)) hP en_126 (args_sref rfl (by simp [encL, adj]) (imm_subs _) (args_imm .sc (args_nil.2 trivial))) .sc ?_
        simp -dsimp -implicitDefEqProofs [-getElem?_pos, go_sem, hP, q2]
        refine done (x := .tup [subsL (adj l e.From (-e.Amount)), iv 0]) ?_ ?_ ?_
        · simp -dsimp -implicitDefEqProofs [-getElem?_pos, go_sem, e1]
          exact imm_list.1 (imm_subs _)
        · have nt : adj (adj l e.From (-e.Amount)) e.To e.Amount = (adj l e.From (-e.Amount)) := adj_none (by rw [adj_ids, z2]; exact h0)
          have ot : okAt credit (adj l e.From (-e.Amount)) e.To = true := okAt_none (by rw [adj_ids, z2]; exact h0)
          rw [okR (adj l e.From (-e.Amount)) (by rw [pS, ok1, nt, ot]; simp)]
        · simp -dsimp -implicitDefEqProofs [-getElem?_pos, go_sem, e1]
      · simp -dsimp -implicitDefEqProofs [-getElem?_pos, go_sem, hP, adj_len, g1, TSub.cells, hi, lt1, c1]
        refine callB_pure (at_pf (adj l e.From (-e.Amount)) e.To (by (try simp only [adj_len]); omega)) hP en_126 (args_sref rfl (by simp [encL, adj]) (imm_subs _) (args_imm .sc (args_nil.2 trivial))) .sc ?_
        simp -dsimp -implicitDefEqProofs [-getElem?_pos, go_sem, hP, q2]
        refine done (x := .tup [subsL (adj l e.From (-e.Amount)), iv 0]) ?_ ?_ ?_
        · simp -dsimp -implicitDefEqProofs [-getElem?_pos, go_sem, e1]
          exact imm_list.1 (imm_subs _)
        · have nt : adj (adj l e.From (-e.Amount)) e.To e.Amount = (adj l e.From (-e.Amount)) := adj_none (by rw [adj_ids, z2]; exact h0)
          have ot : okAt credit (adj l e.From (-e.Amount)) e.To = true := okAt_none (by rw [adj_ids, z2]; exact h0)
          rw [okR (adj l e.From (-e.Amount)) (by rw [pS, ok1, nt, ot]; simp)]
        · simp -dsimp -implicitDefEqProofs [-getElem?_pos, go_sem, e1]
end Go.Proofs.Ytellcfkpfccgaaa
