/- Receipts: copies; the oldest open claim. -/
import Derived.Test.YtgapbmaehfdkoaaGreatDoorCash7
import Derived.Test.YtgapbmaehfdkoaaGreatDoorCash8
set_option linter.unusedSimpArgs false
set_option linter.unusedVariables false
namespace Go.Proofs.YtgapbmaehfdkoaaGreatDoor
open Go.PA
open Go.RowKit

theorem clone_m_clm {row src : Option Nat} (l : List TClaim) (H : Heap) (hl : l.length ≤ 1000000) : MFun Tryz.prog row src 53 [.list 6 (encL TClaim.cells l)] H (fun r H' => ∃ id, r = .sref id 0 l.length ∧ H.length ≤ id ∧ H'[id]? = some (some ⟨38, 6, encL TClaim.cells l⟩) ∧ Kept [] H H') := by
  have own : MFun Tryz.prog row src 53 [.list 6 (encL TClaim.cells l)] H (fun r H' => (r = .nil ∧ l = [] ∧ H' = H) ∨ ∃ id, r = .sref id 0 l.length ∧ H.length ≤ id ∧ H'[id]? = some (some ⟨38, 6, encL TClaim.cells l⟩) ∧ Kept [] H H') := by
    cases l with
    | nil =>
      refine mfun_list_nil fun A c => ?_
      refine mfun_intro Tryz.func53 rfl (by simp [Tryz.f53]) (by kernel_rfl) ⟨.nil, H, .inl ⟨rfl, rfl, rfl⟩⟩ ?_
      intro E hP hr hs hN
      cases A with
      | none => simp -dsimp -implicitDefEqProofs [-getElem?_pos, go_sem, hP]
      | some a =>
        simp -dsimp -implicitDefEqProofs [-getElem?_pos, go_sem, hP]
        exact kept_app _ _ _
    | cons a l =>
      refine mfun_intro Tryz.func53 rfl (by simp [Tryz.f53]) (by kernel_rfl) ⟨_, H ++ [some ⟨38, 6, encL TClaim.cells (a :: l)⟩], .inr ⟨H.length, rfl, Nat.le_refl _, by simp, kept_push _ (kept_refl _ _)⟩⟩ ?_
      intro E hP hr hs hN
      simp only [List.length_cons] at hl
      have e : encL TClaim.cells (a :: l) = TClaim.cells a :: encL TClaim.cells l := rfl
      simp -dsimp -implicitDefEqProofs [-getElem?_pos, go_sem, hP, e]
      refine ⟨by omega, by omega, ?_⟩
      exact kept_app _ _ _
  refine (own.ownNil 38 6).mono ?_
  rintro r H' (⟨H0, h0, rfl, rfl⟩ | ⟨hne, h⟩)
  · rcases h0 with ⟨_, rfl, rfl⟩ | ⟨id, h, _⟩
    · exact ⟨_, rfl, Nat.le_refl _, by simp [encL], kept_push _ (kept_refl _ _)⟩
    · cases h
  · rcases h with ⟨h, _⟩ | h
    · exact absurd h hne
    · exact h

theorem clone_m_inc {row src : Option Nat} (l : List TIncome) (H : Heap) (hl : l.length ≤ 1000000) : MFun Tryz.prog row src 69 [.list 5 (encL TIncome.cells l)] H (fun r H' => ∃ id, r = .sref id 0 l.length ∧ H.length ≤ id ∧ H'[id]? = some (some ⟨32, 5, encL TIncome.cells l⟩) ∧ Kept [] H H') := by
  have own : MFun Tryz.prog row src 69 [.list 5 (encL TIncome.cells l)] H (fun r H' => (r = .nil ∧ l = [] ∧ H' = H) ∨ ∃ id, r = .sref id 0 l.length ∧ H.length ≤ id ∧ H'[id]? = some (some ⟨32, 5, encL TIncome.cells l⟩) ∧ Kept [] H H') := by
    cases l with
    | nil =>
      refine mfun_list_nil fun A c => ?_
      refine mfun_intro Tryz.func69 rfl (by simp [Tryz.f69]) (by kernel_rfl) ⟨.nil, H, .inl ⟨rfl, rfl, rfl⟩⟩ ?_
      intro E hP hr hs hN
      cases A with
      | none => simp -dsimp -implicitDefEqProofs [-getElem?_pos, go_sem, hP]
      | some a =>
        simp -dsimp -implicitDefEqProofs [-getElem?_pos, go_sem, hP]
        exact kept_app _ _ _
    | cons a l =>
      refine mfun_intro Tryz.func69 rfl (by simp [Tryz.f69]) (by kernel_rfl) ⟨_, H ++ [some ⟨32, 5, encL TIncome.cells (a :: l)⟩], .inr ⟨H.length, rfl, Nat.le_refl _, by simp, kept_push _ (kept_refl _ _)⟩⟩ ?_
      intro E hP hr hs hN
      simp only [List.length_cons] at hl
      have e : encL TIncome.cells (a :: l) = TIncome.cells a :: encL TIncome.cells l := rfl
      simp -dsimp -implicitDefEqProofs [-getElem?_pos, go_sem, hP, e]
      refine ⟨by omega, by omega, ?_⟩
      exact kept_app _ _ _
  refine (own.ownNil 32 5).mono ?_
  rintro r H' (⟨H0, h0, rfl, rfl⟩ | ⟨hne, h⟩)
  · rcases h0 with ⟨_, rfl, rfl⟩ | ⟨id, h, _⟩
    · exact ⟨_, rfl, Nat.le_refl _, by simp [encL], kept_push _ (kept_refl _ _)⟩
    · cases h
  · rcases h with ⟨h, _⟩ | h
    · exact absurd h hne
    · exact h

theorem clone_m_mtc {row src : Option Nat} (l : List TMatch) (H : Heap) (hl : l.length ≤ 1000000) : MFun Tryz.prog row src 45 [.list 3 (encL TMatch.cells l)] H (fun r H' => ∃ id, r = .sref id 0 l.length ∧ H.length ≤ id ∧ H'[id]? = some (some ⟨40, 3, encL TMatch.cells l⟩) ∧ Kept [] H H') := by
  have own : MFun Tryz.prog row src 45 [.list 3 (encL TMatch.cells l)] H (fun r H' => (r = .nil ∧ l = [] ∧ H' = H) ∨ ∃ id, r = .sref id 0 l.length ∧ H.length ≤ id ∧ H'[id]? = some (some ⟨40, 3, encL TMatch.cells l⟩) ∧ Kept [] H H') := by
    cases l with
    | nil =>
      refine mfun_list_nil fun A c => ?_
      refine mfun_intro Tryz.func45 rfl (by simp [Tryz.f45]) (by kernel_rfl) ⟨.nil, H, .inl ⟨rfl, rfl, rfl⟩⟩ ?_
      intro E hP hr hs hN
      cases A with
      | none => simp -dsimp -implicitDefEqProofs [-getElem?_pos, go_sem, hP]
      | some a =>
        simp -dsimp -implicitDefEqProofs [-getElem?_pos, go_sem, hP]
        exact kept_app _ _ _
    | cons a l =>
      refine mfun_intro Tryz.func45 rfl (by simp [Tryz.f45]) (by kernel_rfl) ⟨_, H ++ [some ⟨40, 3, encL TMatch.cells (a :: l)⟩], .inr ⟨H.length, rfl, Nat.le_refl _, by simp, kept_push _ (kept_refl _ _)⟩⟩ ?_
      intro E hP hr hs hN
      simp only [List.length_cons] at hl
      have e : encL TMatch.cells (a :: l) = TMatch.cells a :: encL TMatch.cells l := rfl
      simp -dsimp -implicitDefEqProofs [-getElem?_pos, go_sem, hP, e]
      refine ⟨by omega, by omega, ?_⟩
      exact kept_app _ _ _
  refine (own.ownNil 40 3).mono ?_
  rintro r H' (⟨H0, h0, rfl, rfl⟩ | ⟨hne, h⟩)
  · rcases h0 with ⟨_, rfl, rfl⟩ | ⟨id, h, _⟩
    · exact ⟨_, rfl, Nat.le_refl _, by simp [encL], kept_push _ (kept_refl _ _)⟩
    · cases h
  · rcases h with ⟨h, _⟩ | h
    · exact absurd h hne
    · exact h

theorem clone_m_int {row src : Option Nat} (l : List Int) (H : Heap) (hl : l.length ≤ 1000000) : MFun Tryz.prog row src 70 [.list 1 (encL encI l)] H (fun r H' => ∃ id, r = .sref id 0 l.length ∧ H.length ≤ id ∧ H'[id]? = some (some ⟨3, 1, encL encI l⟩) ∧ Kept [] H H') := by
  have own : MFun Tryz.prog row src 70 [.list 1 (encL encI l)] H (fun r H' => (r = .nil ∧ l = [] ∧ H' = H) ∨ ∃ id, r = .sref id 0 l.length ∧ H.length ≤ id ∧ H'[id]? = some (some ⟨3, 1, encL encI l⟩) ∧ Kept [] H H') := by
    cases l with
    | nil =>
      refine mfun_list_nil fun A c => ?_
      refine mfun_intro Tryz.func70 rfl (by simp [Tryz.f70]) (by kernel_rfl) ⟨.nil, H, .inl ⟨rfl, rfl, rfl⟩⟩ ?_
      intro E hP hr hs hN
      cases A with
      | none => simp -dsimp -implicitDefEqProofs [-getElem?_pos, go_sem, hP]
      | some a =>
        simp -dsimp -implicitDefEqProofs [-getElem?_pos, go_sem, hP]
        exact kept_app _ _ _
    | cons a l =>
      refine mfun_intro Tryz.func70 rfl (by simp [Tryz.f70]) (by kernel_rfl) ⟨_, H ++ [some ⟨3, 1, encL encI (a :: l)⟩], .inr ⟨H.length, rfl, Nat.le_refl _, by simp, kept_push _ (kept_refl _ _)⟩⟩ ?_
      intro E hP hr hs hN
      simp only [List.length_cons] at hl
      have e : encL encI (a :: l) = encI a :: encL encI l := rfl
      simp -dsimp -implicitDefEqProofs [-getElem?_pos, go_sem, hP, e]
      refine ⟨by omega, by omega, ?_⟩
      exact kept_app _ _ _
  refine (own.ownNil 3 1).mono ?_
  rintro r H' (⟨H0, h0, rfl, rfl⟩ | ⟨hne, h⟩)
  · rcases h0 with ⟨_, rfl, rfl⟩ | ⟨id, h, _⟩
    · exact ⟨_, rfl, Nat.le_refl _, by simp [encL], kept_push _ (kept_refl _ _)⟩
    · cases h
  · rcases h with ⟨h, _⟩ | h
    · exact absurd h hne
    · exact h


/-- Where the copies lie. -/
def Four (H : Heap) (n0 : Nat) (c : TCash) (r : AV) : Prop := ∃ A B D F, r = .agg [A, B, D, F] ∧ Own n0 H A 38 6 (encL TClaim.cells c.Claims) ∧ Own n0 H B 32 5 (encL TIncome.cells c.Incomes) ∧ Own n0 H D 40 3 (encL TMatch.cells c.Matches) ∧ Own n0 H F 3 1 (rowsI c.Loose)
set_option maxHeartbeats 4000000 in
theorem copied_c {row src : Option Nat} (c : TCash) (H : Heap) (hf : FitC c) :
    MFun Tryz.prog row src 40 [.agg c.cells] H (fun r H' => ∃ p A B D F, r = .ref p 0 0 ∧ H.length ≤ p ∧ HC H.length H' p c A B D F ∧ Kept [] H H') := by
  obtain ⟨C, hC⟩ : ∃ C : AV → Heap → Prop, C = fun r H' => ∃ p A B D F, r = .ref p 0 0 ∧ H.length ≤ p ∧ HC H.length H' p c A B D F ∧ Kept [] H H' := ⟨_, rfl⟩
  rw [← hC]
  have ex : ∃ r H', C r H' := by
    obtain ⟨H1, hH1⟩ : ∃ H1 : Heap, H1 = H ++ [some ⟨29, 4, [[.sref (H.length + 1) 0 c.Claims.length, .sref (H.length + 2) 0 c.Incomes.length, .sref (H.length + 3) 0 c.Matches.length, .sref (H.length + 4) 0 c.Loose.length]]⟩, some ⟨38, 6, encL TClaim.cells c.Claims⟩, some ⟨32, 5, encL TIncome.cells c.Incomes⟩, some ⟨40, 3, encL TMatch.cells c.Matches⟩, some ⟨3, 1, rowsI c.Loose⟩] := ⟨_, rfl⟩
    rw [hC]
    refine ⟨_, H1, H.length, _, _, _, _, rfl, Nat.le_refl _, ⟨by rw [hH1]; simp, by rw [hH1]; simp; exact ⟨rfl, rfl, rfl, rfl⟩, ⟨H.length + 1, by omega, by rw [encL_len], ?_⟩, ⟨H.length + 2, by omega, by rw [encL_len], ?_⟩, ⟨H.length + 3, by omega, by rw [encL_len], ?_⟩, ⟨H.length + 4, by omega, by rw [rowsI_len], ?_⟩⟩, by rw [hH1]; exact kept_app _ _ _⟩
    all_goals
      rw [hH1, List.getElem?_append_right (by omega)]
      simp
  have i1 := imm_claims c.Claims
  have i2 := imm_incomes c.Incomes
  have i3 := imm_matches c.Matches
  have i4 : Imm (.list 1 (encL encI c.Loose)) := c.imm _ (by simp [cCsh])
  have f1 := hf.fc
  have f2 := hf.fi
  have f3 := hf.fm
  have f4 := hf.fl
  refine mfun_intro Tryz.func40 rfl (by simp [Tryz.f40]) (by kernel_rfl) (ex) ?_
  intro E hP hr hs hN
  simp -dsimp -implicitDefEqProofs [-getElem?_pos, go_sem, hP, cCsh]
  obtain ⟨O, hO⟩ : ∃ O : AObj, O = ⟨29, 4, [[claimsL c.Claims, incomesL c.Incomes, matchesL c.Matches, .list 1 (encL encI c.Loose)]]⟩ := ⟨_, rfl⟩
  obtain ⟨H0, hH0⟩ : ∃ H0 : Heap, H0 = H ++ [some O] := ⟨_, rfl⟩
  have l0 : H0.length = H.length + 1 := by rw [hH0]; simp
  have a0 : H0[H.length]? = some (some O) := by rw [hH0]; simp
  have k0 : Kept [] H H0 := by rw [hH0]; exact kept_app _ _ _
  simp only [← hO, ← hH0]
  have ag : ∀ {X X' : Heap}, Kept [] X X' → X[H.length]? = some (some O) → Agree (fun i => decide (i = H.length)) X X' := fun hk e0 => agree_live hk fun i hi => by
    simp only [decide_eq_true_eq] at hi
    subst hi
    exact ⟨by simp, _, e0⟩
  refine adrawB (fun i => decide (i = H.length)) [] hP (by kernel_rfl) (by kernel_rfl) ?_
  simp -dsimp -implicitDefEqProofs [-getElem?_pos, go_sem, hP, restr_get, a0, hO]
  refine callB_m (by rw [hr, hs]; exact clone_m_clm c.Claims H0 (by omega)) hP en_53 ?_
  rintro r H1 ⟨id1, rfl, hid1, ho1, hk1⟩
  have a1 := hk1 _ _ (by simp) a0
  have lt1 := (List.getElem?_eq_some_iff.1 ho1).1
  simp -dsimp -implicitDefEqProofs [-getElem?_pos, go_sem, hP]
  refine ⟨ag hk1 a0, ?_⟩
  simp -dsimp -implicitDefEqProofs [-getElem?_pos, go_sem, hP, restr_get, a1, hO]
  refine callB_m (by rw [hr, hs]; exact clone_m_inc c.Incomes H1 (by omega)) hP en_69 ?_
  rintro r H2 ⟨id2, rfl, hid2, ho2, hk2⟩
  have a2 := hk2 _ _ (by simp) a1
  have b1 := hk2 _ _ (by simp) ho1
  have lt2 := (List.getElem?_eq_some_iff.1 ho2).1
  simp -dsimp -implicitDefEqProofs [-getElem?_pos, go_sem, hP]
  refine ⟨ag hk2 a1, ?_⟩
  simp -dsimp -implicitDefEqProofs [-getElem?_pos, go_sem, hP, restr_get, a2, hO]
  refine callB_m (by rw [hr, hs]; exact clone_m_mtc c.Matches H2 (by omega)) hP en_45 ?_
  rintro r H3 ⟨id3, rfl, hid3, ho3, hk3⟩
  have a3 := hk3 _ _ (by simp) a2
  have b2 := hk3 _ _ (by simp) b1
  have c2 := hk3 _ _ (by simp) ho2
  have lt3 := (List.getElem?_eq_some_iff.1 ho3).1
  simp -dsimp -implicitDefEqProofs [-getElem?_pos, go_sem, hP]
  refine ⟨ag hk3 a2, ?_⟩
  simp -dsimp -implicitDefEqProofs [-getElem?_pos, go_sem, hP, restr_get, a3, hO]
  refine callB_m (by rw [hr, hs]; exact clone_m_int c.Loose H3 (by omega)) hP en_70 ?_
  rintro r H4 ⟨id4, rfl, hid4, ho4, hk4⟩
  have a4 := hk4 _ _ (by simp) a3
  have b3 := hk4 _ _ (by simp) b2
  have c3 := hk4 _ _ (by simp) c2
  have d3 := hk4 _ _ (by simp) ho3
  have lt4 := (List.getElem?_eq_some_iff.1 ho4).1
  have la := (List.getElem?_eq_some_iff.1 a4).1
  simp -dsimp -implicitDefEqProofs [-getElem?_pos, go_sem, hP]
  refine ⟨ag hk4 a3, ag (kept_app _ _ _) a4, ?_⟩
  rw [hC]
  refine ⟨H4.length, _, _, _, _, rfl, by omega, ⟨by simp; omega, by simp; exact ⟨rfl, rfl, rfl, rfl⟩, ⟨id1, by omega, by rw [encL_len], ?_⟩, ⟨id2, ?_, by rw [encL_len], ?_⟩, ⟨id3, ?_, by rw [encL_len], ?_⟩, ⟨id4, ?_, by rw [rowsI_len], ?_⟩⟩, ?_⟩
  · rw [List.getElem?_append_left (List.getElem?_eq_some_iff.1 b3).1]; exact b3
  · have := (List.getElem?_eq_some_iff.1 a1).1; omega
  · rw [List.getElem?_append_left (List.getElem?_eq_some_iff.1 c3).1]; exact c3
  · have := (List.getElem?_eq_some_iff.1 a2).1; omega
  · rw [List.getElem?_append_left (List.getElem?_eq_some_iff.1 d3).1]; exact d3
  · have := (List.getElem?_eq_some_iff.1 a3).1; omega
  · rw [List.getElem?_append_left lt4]; exact ho4
  · exact (((k0.trans hk1).trans hk2).trans hk3).trans hk4 |>.trans (kept_app _ _ _)

theorem agree_at {H l l' : Heap} {x : Option AObj} : Agree (fun i => decide (i = H.length)) (H ++ x :: l) (H ++ x :: l') := fun i hi => by
  simp only [decide_eq_true_eq] at hi
  subst hi
  simp
theorem four_at {c : TCash} {H H' : Heap} {i1 i2 i3 i4 : Nat} {a b d f : Nat} (h1 : H.length ≤ i1) (h2 : H.length ≤ i2) (h3 : H.length ≤ i3) (h4 : H.length ≤ i4) (ea : a = c.Claims.length) (eb : b = c.Incomes.length) (ed : d = c.Matches.length) (ef : f = c.Loose.length)
    (g1 : H'[i1]? = some (some ⟨38, 6, encL TClaim.cells c.Claims⟩)) (g2 : H'[i2]? = some (some ⟨32, 5, encL TIncome.cells c.Incomes⟩)) (g3 : H'[i3]? = some (some ⟨40, 3, encL TMatch.cells c.Matches⟩)) (g4 : H'[i4]? = some (some ⟨3, 1, rowsI c.Loose⟩)) :
    Four H' H.length c (.agg [.sref i1 0 a, .sref i2 0 b, .sref i3 0 d, .sref i4 0 f]) :=
  ⟨_, _, _, _, rfl, ⟨i1, h1, by rw [encL_len, ea], g1⟩, ⟨i2, h2, by rw [encL_len, eb], g2⟩, ⟨i3, h3, by rw [encL_len, ed], g3⟩, ⟨i4, h4, by rw [rowsI_len, ef], g4⟩⟩
set_option maxHeartbeats 4000000 in
theorem rcopied_c {row src : Option Nat} (c : TCash) (H : Heap) (hf : FitC c) :
    MFun Tryz.prog row src 66 [.agg c.cells] H (fun r H' => Four H' H.length c r ∧ Kept [] H H') := by
  obtain ⟨C, hC⟩ : ∃ C : AV → Heap → Prop, C = fun r H' => Four H' H.length c r ∧ Kept [] H H' := ⟨_, rfl⟩
  rw [← hC]
  have i1 := imm_claims c.Claims
  have i2 := imm_incomes c.Incomes
  have i3 := imm_matches c.Matches
  have i4 : Imm (.list 1 (encL encI c.Loose)) := c.imm _ (by simp [cCsh])
  have f1 := hf.fc
  have f2 := hf.fi
  have f3 := hf.fm
  have f4 := hf.fl
  have ex : ∃ r H', C r H' := by
    obtain ⟨H1, hH1⟩ : ∃ H1 : Heap, H1 = H ++ [some ⟨38, 6, encL TClaim.cells c.Claims⟩, some ⟨32, 5, encL TIncome.cells c.Incomes⟩, some ⟨40, 3, encL TMatch.cells c.Matches⟩, some ⟨3, 1, rowsI c.Loose⟩] := ⟨_, rfl⟩
    rw [hC]
    refine ⟨_, H1, four_at (i1 := H.length) (i2 := H.length + 1) (i3 := H.length + 2) (i4 := H.length + 3) (by omega) (by omega) (by omega) (by omega) rfl rfl rfl rfl ?_ ?_ ?_ ?_, by rw [hH1]; exact kept_app _ _ _⟩
    all_goals
      rw [hH1, List.getElem?_append_right (by omega)]
      simp
  refine mfun_intro Tryz.func66 rfl (by simp [Tryz.f66]) (by kernel_rfl) (ex) ?_
  intro E hP hr hs hN
  simp -dsimp -implicitDefEqProofs [-getElem?_pos, go_sem, hP, cCsh]
  refine adrawB (fun i => decide (i = H.length)) [13] hP (by kernel_rfl) (by kernel_rfl) ?_
  simp -dsimp -implicitDefEqProofs [-getElem?_pos, go_sem, hP, restr_get]
  refine ⟨by omega, by omega, agree_at, by omega, by omega, agree_at, by omega, by omega, agree_at, by omega, by omega, agree_at, ?_⟩
  rw [hC]
  refine ⟨four_at (i1 := H.length + 2) (i2 := H.length + 3) (i3 := H.length + 4) (i4 := H.length + 5) (by omega) (by omega) (by omega) (by omega) rfl rfl rfl rfl ?_ ?_ ?_ ?_, ?_⟩
  · simp -dsimp -implicitDefEqProofs [-getElem?_pos, go_sem]
  · simp -dsimp -implicitDefEqProofs [-getElem?_pos, go_sem]
  · simp -dsimp -implicitDefEqProofs [-getElem?_pos, go_sem]
  · simp -dsimp -implicitDefEqProofs [-getElem?_pos, go_sem]
  · exact kept_app _ _ _

theorem oldStep_at {l : List TClaim} {k : Nat} {x : TClaim} (hx : l[k]? = some x) (p : Int) (best : Option Nat) : oldStep l p best k = if decide (x.Payer = p) && decide (0 < x.Open) then (match best with | none => some k | some b => if dayAt l k < dayAt l b then some k else some b) else best := by
  unfold oldStep
  rw [hx]
  rfl
set_option maxHeartbeats 4000000 in
theorem oldest_pf (c : TCash) (hf : FitC c) (p : Int) : PFun Tryz.prog none none 68 [.agg c.cells, iv p] (· = iv (idxO (oldestK c.Claims p))) := by
  refine pfun_intro Tryz.func68 rfl (by simp [Tryz.f68]) (by kernel_rfl) ?_
  intro E hP hr hs hW hN
  have hfc := hf.fc
  obtain ⟨O, hO⟩ : ∃ O : AObj, O = ⟨29, 4, [[claimsL c.Claims, incomesL c.Incomes, matchesL c.Matches, .list 1 (encL encI c.Loose)]]⟩ := ⟨_, rfl⟩
  obtain ⟨l, hl⟩ : ∃ l, l = c.Claims := ⟨_, rfl⟩
  obtain ⟨R, hR⟩ : ∃ R, R = oldestK l p := ⟨_, rfl⟩
  rw [← hl] at hfc hO
  rw [← hl, ← hR]
  simp -dsimp -implicitDefEqProofs [-getElem?_pos, go_sem, hP, cCsh, ← hl]
  simp only [← hO]
  obtain ⟨I, hI⟩ : ∃ I : Nat → St → Prop, I = fun m s => ∃ (k : Nat) (best : Option Nat), k ≤ l.length ∧ m = l.length - k ∧ best = (List.range k).foldl (oldStep l p) none ∧ (∀ b, best = some b → b < l.length) ∧ s.t 1 = iv p ∧ s.t 2 = .ref 0 0 0 ∧ s.t 5 = iv (idxO best) ∧ s.t 9 = claimsL l ∧ s.t 10 = iv l.length ∧ s.t 11 = iv k ∧ s.H[0]? = some (some O) := ⟨_, rfl⟩
  refine aloop0 I (l.length) (by rw [hN]; rfl) ?_ ?_
  · rw [hI]
    exact ⟨0, none, by omega, by omega, rfl, (fun b h => by cases h), by simp -dsimp -implicitDefEqProofs [-getElem?_pos, go_sem], by simp -dsimp -implicitDefEqProofs [-getElem?_pos, go_sem], by simp -dsimp -implicitDefEqProofs [-getElem?_pos, go_sem, idxO], by simp -dsimp -implicitDefEqProofs [-getElem?_pos, go_sem], by simp -dsimp -implicitDefEqProofs [-getElem?_pos, go_sem], by simp -dsimp -implicitDefEqProofs [-getElem?_pos, go_sem], by simp -dsimp -implicitDefEqProofs [-getElem?_pos, go_sem]⟩
  intro m s hs'
  rw [hI] at hs'
  obtain ⟨k, best, hk, hm, hbest, hb, t1, t2, t5, t9, t10, t11, h0⟩ := hs'
  have lt0 := (List.getElem?_eq_some_iff.1 h0).1
  simp -dsimp -implicitDefEqProofs [-getElem?_pos, go_sem, hP, t10, t11]
  refine condP (fun h => ?_) (fun h => ?_)
  · have hk : k < l.length := by simpa using h
    obtain ⟨x, hx⟩ : ∃ x, l[k]? = some x := ⟨_, List.getElem?_eq_getElem hk⟩
    have wk := wrap_in ((k : Int) + 1) (by omega)
    have e1 : (List.range (k + 1)).foldl (oldStep l p) none = oldStep l p best k := by rw [List.range_succ, List.foldl_append, ← hbest]; rfl
    rw [oldStep_at hx] at e1
    have fin : ∀ (s' : St) (b' : Option Nat), (List.range (k + 1)).foldl (oldStep l p) none = b' → (∀ b, b' = some b → b < l.length) → s'.t 1 = iv p → s'.t 2 = .ref 0 0 0 → s'.t 5 = iv (idxO b') → s'.t 9 = claimsL l → s'.t 10 = iv l.length → s'.t 11 = iv ((k : Int) + 1) → s'.H[0]? = some (some O) → ∃ m', m' < m ∧ I m' s' := fun s' b' a1 a2 a3 a4 a5 a6 a7 a8 a9 => by
      refine ⟨l.length - (k + 1), by omega, ?_⟩
      rw [hI]
      exact ⟨k + 1, b', by omega, rfl, a1.symm, a2, a3, a4, a5, a6, a7, by rw [a8]; simp, a9⟩
    by_cases c1 : x.Payer = p
    rotate_left
    · rw [if_neg (by simp [c1])] at e1
      simp -dsimp -implicitDefEqProofs [-getElem?_pos, go_sem, hP, t9, t11, hx, cClm]
      refine adrawB (fun _ => true) [] hP (by kernel_rfl) (by kernel_rfl) ?_
      simp -dsimp -implicitDefEqProofs [-getElem?_pos, go_sem, hP, t1, c1, t11, wk]
      exact fin _ best e1 hb (by simp -dsimp -implicitDefEqProofs [-getElem?_pos, go_sem, t1]) (by simp -dsimp -implicitDefEqProofs [-getElem?_pos, go_sem, t2]) (by simp -dsimp -implicitDefEqProofs [-getElem?_pos, go_sem, t5]) (by simp -dsimp -implicitDefEqProofs [-getElem?_pos, go_sem, t9]) (by simp -dsimp -implicitDefEqProofs [-getElem?_pos, go_sem, t10]) (by simp -dsimp -implicitDefEqProofs [-getElem?_pos, go_sem]) (by simp -dsimp -implicitDefEqProofs [-getElem?_pos, go_sem, lt0, h0])
    by_cases c2 : 0 < x.Open
    rotate_left
    · rw [if_neg (by simp [c2])] at e1
      simp -dsimp -implicitDefEqProofs [-getElem?_pos, go_sem, hP, t9, t11, hx, cClm]
      refine adrawB (fun _ => true) [] hP (by kernel_rfl) (by kernel_rfl) ?_
      simp -dsimp -implicitDefEqProofs [-getElem?_pos, go_sem, hP, t1, c1, c2, t11, wk]
      exact fin _ best e1 hb (by simp -dsimp -implicitDefEqProofs [-getElem?_pos, go_sem, t1, c1]) (by simp -dsimp -implicitDefEqProofs [-getElem?_pos, go_sem, t2]) (by simp -dsimp -implicitDefEqProofs [-getElem?_pos, go_sem, t5]) (by simp -dsimp -implicitDefEqProofs [-getElem?_pos, go_sem, t9]) (by simp -dsimp -implicitDefEqProofs [-getElem?_pos, go_sem, t10]) (by simp -dsimp -implicitDefEqProofs [-getElem?_pos, go_sem]) (by simp -dsimp -implicitDefEqProofs [-getElem?_pos, go_sem, lt0, h0])
    rw [if_pos (by simp [c1, c2])] at e1
    cases hbst : best with
    | none =>
      rw [hbst] at e1 t5
      simp only [idxO] at t5
      simp -dsimp -implicitDefEqProofs [-getElem?_pos, go_sem, hP, t9, t11, hx, cClm]
      refine adrawB (fun _ => true) [] hP (by kernel_rfl) (by kernel_rfl) ?_
      simp -dsimp -implicitDefEqProofs [-getElem?_pos, go_sem, hP, t1, c1, c2, t5, t11, wk]
      exact fin _ (some k) e1 (fun b h => by cases h; exact hk) (by simp -dsimp -implicitDefEqProofs [-getElem?_pos, go_sem, t1, c1]) (by simp -dsimp -implicitDefEqProofs [-getElem?_pos, go_sem, t2]) (by simp -dsimp -implicitDefEqProofs [-getElem?_pos, go_sem, idxO]) (by simp -dsimp -implicitDefEqProofs [-getElem?_pos, go_sem, t9]) (by simp -dsimp -implicitDefEqProofs [-getElem?_pos, go_sem, t10]) (by simp -dsimp -implicitDefEqProofs [-getElem?_pos, go_sem]) (by simp -dsimp -implicitDefEqProofs [-getElem?_pos, go_sem, lt0, h0])
    | some b =>
      rw [hbst] at e1 t5
      simp only [idxO] at t5
      have hbl := hb b hbst
      obtain ⟨y, hy⟩ : ∃ y, l[b]? = some y := ⟨_, List.getElem?_eq_getElem hbl⟩
      have dk : dayAt l k = x.Day := by simp [dayAt, hx]
      have db : dayAt l b = y.Day := by simp [dayAt, hy]
      have d0 : decide ((b : Int) < 0) = false := decide_eq_false (by omega)
      simp only [dk, db] at e1
      by_cases c3 : x.Day < y.Day
      · rw [if_pos c3] at e1
        simp -dsimp -implicitDefEqProofs [-getElem?_pos, go_sem, hP, t9, t11, hx, cClm]
        refine adrawB (fun _ => true) [] hP (by kernel_rfl) (by kernel_rfl) ?_
        simp -dsimp -implicitDefEqProofs [-getElem?_pos, go_sem, hP, t1, c1, c2, t5, d0, t2, h0, lt0, hO, hy, cClm, c3, t11, wk]
        exact fin _ (some k) e1 (fun b h => by cases h; exact hk) (by simp -dsimp -implicitDefEqProofs [-getElem?_pos, go_sem, t1, c1]) (by simp -dsimp -implicitDefEqProofs [-getElem?_pos, go_sem, t2]) (by simp -dsimp -implicitDefEqProofs [-getElem?_pos, go_sem, idxO]) (by simp -dsimp -implicitDefEqProofs [-getElem?_pos, go_sem, t9]) (by simp -dsimp -implicitDefEqProofs [-getElem?_pos, go_sem, t10]) (by simp -dsimp -implicitDefEqProofs [-getElem?_pos, go_sem]) (by simp -dsimp -implicitDefEqProofs [-getElem?_pos, go_sem, lt0, h0])
      · rw [if_neg c3] at e1
        simp -dsimp -implicitDefEqProofs [-getElem?_pos, go_sem, hP, t9, t11, hx, cClm]
        refine adrawB (fun _ => true) [] hP (by kernel_rfl) (by kernel_rfl) ?_
        simp -dsimp -implicitDefEqProofs [-getElem?_pos, go_sem, hP, t1, c1, c2, t5, d0, t2, h0, lt0, hO, hy, cClm, c3, t11, wk]
        exact fin _ (some b) e1 (fun b' h => by cases h; exact hbl) (by simp -dsimp -implicitDefEqProofs [-getElem?_pos, go_sem, t1, c1]) (by simp -dsimp -implicitDefEqProofs [-getElem?_pos, go_sem, t2]) (by simp -dsimp -implicitDefEqProofs [-getElem?_pos, go_sem, t5, idxO]) (by simp -dsimp -implicitDefEqProofs [-getElem?_pos, go_sem, t9]) (by simp -dsimp -implicitDefEqProofs [-getElem?_pos, go_sem, t10]) (by simp -dsimp -implicitDefEqProofs [-getElem?_pos, go_sem]) (by simp -dsimp -implicitDefEqProofs [-getElem?_pos, go_sem, lt0, h0])
  · have hk : k = l.length := by simp at h; omega
    subst hk
    have e : best = R := by rw [hbest, hR]; rfl
    simp -dsimp -implicitDefEqProofs [-getElem?_pos, go_sem, hP, t5, e]
end Go.Proofs.YtgapbmaehfdkoaaGreatDoor
