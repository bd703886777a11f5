/- Queues: copies. -/
import Derived.Test.YtmpncdlhmknkoaaBat5
import Derived.Test.YtmpncdlhmknkoaaGrown
set_option linter.unusedSimpArgs false
set_option linter.unusedVariables false
namespace Go.Proofs.Ytmpncdlhmknkoaa
open Go.PA
open Go.RowKit

theorem clone_m_pay {row src : Option Nat} (l : List TPayment) (H : Heap) (hl : l.length ≤ 1000000) : MFun Try.prog row src 50 [.list 5 (encL TPayment.cells l)] H (fun r H' => ∃ id, r = .sref id 0 l.length ∧ H.length ≤ id ∧ H'[id]? = some (some ⟨34, 5, encL TPayment.cells l⟩) ∧ Kept [] H H') := by
  have own : MFun Try.prog row src 50 [.list 5 (encL TPayment.cells l)] H (fun r H' => (r = .nil ∧ l = [] ∧ H' = H) ∨ ∃ id, r = .sref id 0 l.length ∧ H.length ≤ id ∧ H'[id]? = some (some ⟨34, 5, encL TPayment.cells l⟩) ∧ Kept [] H H') := by
    cases l with
    | nil =>
      refine mfun_list_nil fun A c => ?_
      refine mfun_intro Try.func50 rfl (by simp [Try.f50]) (by kernel_rfl) ⟨.nil, H, .inl ⟨rfl, rfl, rfl⟩⟩ ?_
      intro E hP hr hs hN
      cases A with
      | none => simp -dsimp -implicitDefEqProofs [-getElem?_pos, go_sem, hP]
      | some a =>
        simp -dsimp -implicitDefEqProofs [-getElem?_pos, go_sem, hP]
        exact kept_app _ _ _
    | cons a l =>
      refine mfun_intro Try.func50 rfl (by simp [Try.f50]) (by kernel_rfl) ⟨_, H ++ [some ⟨34, 5, encL TPayment.cells (a :: l)⟩], .inr ⟨H.length, rfl, Nat.le_refl _, by simp, kept_push _ (kept_refl _ _)⟩⟩ ?_
      intro E hP hr hs hN
      simp only [List.length_cons] at hl
      have e : encL TPayment.cells (a :: l) = TPayment.cells a :: encL TPayment.cells l := rfl
      simp -dsimp -implicitDefEqProofs [-getElem?_pos, go_sem, hP, e]
      refine ⟨by omega, by omega, ?_⟩
      exact kept_app _ _ _
  refine (own.ownNil 34 5).mono ?_
  rintro r H' (⟨H0, h0, rfl, rfl⟩ | ⟨hne, h⟩)
  · rcases h0 with ⟨_, rfl, rfl⟩ | ⟨id, h, _⟩
    · exact ⟨_, rfl, Nat.le_refl _, by simp [encL], kept_push _ (kept_refl _ _)⟩
    · cases h
  · rcases h with ⟨h, _⟩ | h
    · exact absurd h hne
    · exact h

theorem clone_pf_pay (l : List TPayment) (hl : l.length ≤ 1000000) : PFun Try.prog none none 50 [.list 5 (encL TPayment.cells l)] (· = .list 5 (encL TPayment.cells l)) := by
  cases l with
  | nil =>
    refine pfun_list_nil fun A c => ?_
    refine pfun_intro Try.func50 rfl (by simp [Try.f50]) (by kernel_rfl) ?_
    intro E hP hr hs hW hN
    cases A with
    | none =>
      simp -dsimp -implicitDefEqProofs [-getElem?_pos, go_sem, hP]
      exact done_weak .nil (imm_list.2 (by simp)) (.nil _) rfl
    | some a =>
      simp -dsimp -implicitDefEqProofs [-getElem?_pos, go_sem, hP]
      refine done_weak (x := .list 5 []) ?_ (imm_list.2 (by simp)) ?_ rfl
      · simp -dsimp -implicitDefEqProofs [-getElem?_pos, go_sem]
      · simp -dsimp -implicitDefEqProofs [-getElem?_pos, go_sem]
        first | exact .refl _ | skip
  | cons a l =>
    refine pfun_intro Try.func50 rfl (by simp [Try.f50]) (by kernel_rfl) ?_
    intro E hP hr hs hW hN
    simp only [List.length_cons] at hl
    have e : encL TPayment.cells (a :: l) = TPayment.cells a :: encL TPayment.cells l := rfl
    have im : Imm (.list 5 (TPayment.cells a :: encL TPayment.cells l)) := by rw [← e]; exact imm_encL _ TPayment.imm _
    have et : (TPayment.cells a :: encL TPayment.cells l).take (l.length + 1) = TPayment.cells a :: encL TPayment.cells l := by
      rw [← e]
      exact encL_take TPayment.cells (a :: l) _ (by simp)
    simp -dsimp -implicitDefEqProofs [-getElem?_pos, go_sem, hP, e]
    refine ⟨by omega, by omega, ?_⟩
    refine done_weak (x := .list 5 (TPayment.cells a :: encL TPayment.cells l)) ?_ im ?_ rfl
    · simp -dsimp -implicitDefEqProofs [-getElem?_pos, go_sem]
      first | exact im | (have h := imm_list.1 im; simp only [List.mem_cons, forall_eq_or_imp] at h; exact h)
    · simp -dsimp -implicitDefEqProofs [-getElem?_pos, go_sem]
      first | exact .refl _ | skip

theorem clone_m_int {row src : Option Nat} (l : List Int) (H : Heap) (hl : l.length ≤ 1000000) : MFun Try.prog row src 71 [.list 1 (encL encI l)] H (fun r H' => ∃ id, r = .sref id 0 l.length ∧ H.length ≤ id ∧ H'[id]? = some (some ⟨3, 1, encL encI l⟩) ∧ Kept [] H H') := by
  have own : MFun Try.prog row src 71 [.list 1 (encL encI l)] H (fun r H' => (r = .nil ∧ l = [] ∧ H' = H) ∨ ∃ id, r = .sref id 0 l.length ∧ H.length ≤ id ∧ H'[id]? = some (some ⟨3, 1, encL encI l⟩) ∧ Kept [] H H') := by
    cases l with
    | nil =>
      refine mfun_list_nil fun A c => ?_
      refine mfun_intro Try.func71 rfl (by simp [Try.f71]) (by kernel_rfl) ⟨.nil, H, .inl ⟨rfl, rfl, rfl⟩⟩ ?_
      intro E hP hr hs hN
      cases A with
      | none => simp -dsimp -implicitDefEqProofs [-getElem?_pos, go_sem, hP]
      | some a =>
        simp -dsimp -implicitDefEqProofs [-getElem?_pos, go_sem, hP]
        exact kept_app _ _ _
    | cons a l =>
      refine mfun_intro Try.func71 rfl (by simp [Try.f71]) (by kernel_rfl) ⟨_, H ++ [some ⟨3, 1, encL encI (a :: l)⟩], .inr ⟨H.length, rfl, Nat.le_refl _, by simp, kept_push _ (kept_refl _ _)⟩⟩ ?_
      intro E hP hr hs hN
      simp only [List.length_cons] at hl
      have e : encL encI (a :: l) = encI a :: encL encI l := rfl
      simp -dsimp -implicitDefEqProofs [-getElem?_pos, go_sem, hP, e]
      refine ⟨by omega, by omega, ?_⟩
      exact kept_app _ _ _
  refine (own.ownNil 3 1).mono ?_
  rintro r H' (⟨H0, h0, rfl, rfl⟩ | ⟨hne, h⟩)
  · rcases h0 with ⟨_, rfl, rfl⟩ | ⟨id, h, _⟩
    · exact ⟨_, rfl, Nat.le_refl _, by simp [encL], kept_push _ (kept_refl _ _)⟩
    · cases h
  · rcases h with ⟨h, _⟩ | h
    · exact absurd h hne
    · exact h


abbrev intRows (l : List Int) : List (List AV) := l.map fun x => [iv x]
theorem intRows_len (l : List Int) : (intRows l).length = l.length := by simp [intRows]

set_option maxHeartbeats 2000000 in
theorem bcopy_m {row src : Option Nat} (q : TQueue) (H : Heap) (hf : FitQ q) :
    MFun Try.prog row src 47 [.agg q.cells] H (fun r H' => ∃ i1 i2 x, r = .agg [.sref i1 0 q.Waiting.length, .sref i2 0 q.Known.length, x] ∧ H.length ≤ i1 ∧ H.length ≤ i2 ∧ i1 ≠ i2 ∧ H'[i1]? = some (some ⟨34, 5, encL TPayment.cells q.Waiting⟩) ∧ H'[i2]? = some (some ⟨3, 1, intRows q.Known⟩) ∧ (∃ B, i1 < B ∧ i2 < B ∧ Grown B H' x 45 3 (encL TBatch.cells q.Batches)) ∧ Kept [] H H') := by
  obtain ⟨C, hC⟩ : ∃ C : AV → Heap → Prop, C = fun r H' => ∃ i1 i2 x, r = .agg [.sref i1 0 q.Waiting.length, .sref i2 0 q.Known.length, x] ∧ H.length ≤ i1 ∧ H.length ≤ i2 ∧ i1 ≠ i2 ∧ H'[i1]? = some (some ⟨34, 5, encL TPayment.cells q.Waiting⟩) ∧ H'[i2]? = some (some ⟨3, 1, intRows q.Known⟩) ∧ (∃ B, i1 < B ∧ i2 < B ∧ Grown B H' x 45 3 (encL TBatch.cells q.Batches)) ∧ Kept [] H H' := ⟨_, rfl⟩
  rw [← hC]
  have ex : ∃ r H', C r H' := ⟨.agg [.sref H.length 0 q.Waiting.length, .sref (H.length + 1) 0 q.Known.length, .sref (H.length + 2) 0 q.Batches.length], H ++ [some ⟨34, 5, encL TPayment.cells q.Waiting⟩, some ⟨3, 1, intRows q.Known⟩, some ⟨45, 3, encL TBatch.cells q.Batches⟩], by
    rw [hC]
    exact ⟨H.length, H.length + 1, _, rfl, Nat.le_refl _, by omega, by omega, by simp, by rw [List.getElem?_append_right (by omega)]; simp, ⟨H.length + 2, by omega, by omega, .inr ⟨H.length + 2, Nat.le_refl _, by rw [encL_len], by rw [List.getElem?_append_right (by omega)]; simp⟩⟩, kept_app _ _ _⟩⟩
  refine mfun_intro Try.func47 rfl (by simp [Try.f47]) (by kernel_rfl) (ex) ?_
  intro E hP hr hs hN
  have ip := imm_pays q.Waiting
  have i2 := imm_ints q.Known
  have i3 := imm_bats q.Batches
  simp only [intsL] at i2
  simp -dsimp -implicitDefEqProofs [-getElem?_pos, go_sem, hP, cQu, intsL]
  have lw := hf.w
  have lk := hf.k
  have lb := hf.b
  obtain ⟨Inv, hInv⟩ : ∃ Inv : St → Prop, Inv = fun s => ∃ (p j1 j2 : Nat), s.t 1 = .ref H.length 0 0 ∧ s.t 2 = .ref (H.length + 1) 0 0 ∧ s.t 3 = .ref p 0 0 ∧ H.length + 2 ≤ p ∧ H.length + 2 ≤ j1 ∧ H.length + 2 ≤ j2 ∧ p ≠ j1 ∧ p ≠ j2 ∧ j1 ≠ j2 ∧ s.H[H.length]? = some (some ⟨28, 3, [[paysL q.Waiting, .list 1 (intRows q.Known), batsL q.Batches]]⟩) ∧ s.H[H.length + 1]? = some (some ⟨28, 3, [[.nil, .nil, .nil]]⟩) ∧ s.H[p]? = some (some ⟨28, 3, [[.sref j1 0 q.Waiting.length, .sref j2 0 q.Known.length, .nil]]⟩) ∧ s.H[j1]? = some (some ⟨34, 5, encL TPayment.cells q.Waiting⟩) ∧ s.H[j2]? = some (some ⟨3, 1, intRows q.Known⟩) ∧ Kept [] H s.H := ⟨_, rfl⟩
  obtain ⟨H1, hH1⟩ : ∃ H1 : Heap, H1 = H ++ [some ⟨28, 3, [[paysL q.Waiting, .list 1 (intRows q.Known), batsL q.Batches]]⟩, some ⟨28, 3, [[.nil, .nil, .nil]]⟩] := ⟨_, rfl⟩
  have l1 : H1.length = H.length + 2 := by rw [hH1]; simp
  have a0 : H1[H.length]? = some (some ⟨28, 3, [[paysL q.Waiting, .list 1 (intRows q.Known), batsL q.Batches]]⟩) := by rw [hH1]; simp
  have a1 : H1[H.length + 1]? = some (some ⟨28, 3, [[.nil, .nil, .nil]]⟩) := by rw [hH1, List.getElem?_append_right (by omega)]; simp
  have k1 : Kept [] H H1 := by rw [hH1]; exact kept_app _ _ _
  simp only [← hH1]
  have aD : ∀ (X X' : Heap), Kept [] X X' → X[H.length]? = H1[H.length]? → X[H.length + 1]? = H1[H.length + 1]? → Agree (fun i => decide (i = H.length) || decide (i = H.length + 1)) X X' := fun X X' hk e0 e1 => agree_live hk fun i hi => by
    simp only [Bool.or_eq_true, decide_eq_true_eq] at hi
    rcases hi with rfl | rfl
    · exact ⟨by simp, _, e0.trans a0⟩
    · exact ⟨by simp, _, e1.trans a1⟩
  refine adraw_cut Inv ?_ ?_
  · refine adrawK (fun i => decide (i = H.length) || decide (i = H.length + 1)) [8] [] 2 hP (by kernel_rfl) (by kernel_rfl) (by simp) ?_
    simp -dsimp -implicitDefEqProofs [-getElem?_pos, go_sem, hP, List.take_succ_cons, List.take_zero, restr_get, a0, l1]
    refine xany_pick 3 rfl (by kernel_rfl) ?_
    simp -dsimp -implicitDefEqProofs [-getElem?_pos, go_sem, hP, a0, restr_get, l1]
    refine xany_pick 4 rfl (by kernel_rfl) ?_
    simp -dsimp -implicitDefEqProofs [-getElem?_pos, go_sem, hP, a0, restr_get, l1]
    refine xany_two (i := 2) (j := 7) (by kernel_rfl) rfl rfl ?_ ?_
    · simp -dsimp -implicitDefEqProofs [-getElem?_pos, go_sem, hP]
      refine callB_m (by rw [hr, hs]; exact clone_m_pay q.Waiting H1 (by omega)) hP en_50 ?_
      rintro r H2 ⟨j1, rfl, hj1, o1, hk⟩
      have b0 := hk _ _ (by simp) a0
      have b1 := hk _ _ (by simp) a1
      have ltn := (List.getElem?_eq_some_iff.1 b1).1
      have lt1 := (List.getElem?_eq_some_iff.1 o1).1
      simp -dsimp -implicitDefEqProofs [-getElem?_pos, go_sem, hP]
      refine ⟨aD _ _ hk rfl rfl, ?_⟩
      refine xany_two (i := 5) (j := 7) (by kernel_rfl) rfl rfl ?_ ?_
      · simp -dsimp -implicitDefEqProofs [-getElem?_pos, go_sem, hP]
        refine callB_m (by rw [hr, hs]; exact clone_m_int q.Known H2 (by omega)) hP en_71 ?_
        rintro r H3 ⟨j2, rfl, hj2, o2, hk2⟩
        have c0 := hk2 _ _ (by simp) b0
        have c1 := hk2 _ _ (by simp) b1
        have p1 := hk2 _ _ (by simp) o1
        have ltn2 := (List.getElem?_eq_some_iff.1 c1).1
        have lt2 := (List.getElem?_eq_some_iff.1 o2).1
        have lt3 := (List.getElem?_eq_some_iff.1 p1).1
        have eI : encL encI q.Known = intRows q.Known := rfl
        have fin : ∀ t, t 1 = AV.ref H.length 0 0 → t 2 = AV.ref (H.length + 1) 0 0 → t 3 = AV.ref H3.length 0 0 → Inv ⟨t, H3 ++ [some ⟨28, 3, [[.sref j1 0 q.Waiting.length, .sref j2 0 q.Known.length, .nil]]⟩]⟩ := fun t e1 e2 e3 => by
          rw [hInv]
          refine ⟨H3.length, j1, j2, e1, e2, e3, by omega, by omega, by omega, by omega, by omega, by omega, ?_, ?_, by simp, ?_, ?_, ((k1.trans hk).trans hk2).trans (kept_app _ _ _)⟩
          · rw [List.getElem?_append_left (by omega), c0]
          · rw [List.getElem?_append_left (by omega), c1]
          · rw [List.getElem?_append_left (by omega), p1]
          · rw [List.getElem?_append_left (by omega), o2, eI]
        simp -dsimp -implicitDefEqProofs [-getElem?_pos, go_sem, hP]
        refine ⟨aD _ _ hk2 (b0.trans a0.symm) (b1.trans a1.symm), ?_⟩
        refine xany_two (i := 6) (j := 7) (by kernel_rfl) rfl rfl ?_ ?_
        · simp -dsimp -implicitDefEqProofs [-getElem?_pos, go_sem, hP]
          refine xany_one (i := 7) (by kernel_rfl) rfl ?_
          simp -dsimp -implicitDefEqProofs [-getElem?_pos, go_sem, hP]
          refine ⟨aD _ _ (kept_app _ _ _) (c0.trans a0.symm) (c1.trans a1.symm), ?_⟩
          refine xany_one (i := 8) (by kernel_rfl) rfl ?_
          simp -dsimp -implicitDefEqProofs [-getElem?_pos, go_sem, hP]
          refine xany_nil (by kernel_rfl) ?_
          exact fin _ (by simp -dsimp -implicitDefEqProofs [-getElem?_pos, go_sem]) (by simp -dsimp -implicitDefEqProofs [-getElem?_pos, go_sem]) (by simp -dsimp -implicitDefEqProofs [-getElem?_pos, go_sem])
        · simp -dsimp -implicitDefEqProofs [-getElem?_pos, go_sem, hP]
          refine ⟨aD _ _ (kept_app _ _ _) (c0.trans a0.symm) (c1.trans a1.symm), ?_⟩
          refine xany_one (i := 6) (by kernel_rfl) rfl ?_
          simp -dsimp -implicitDefEqProofs [-getElem?_pos, go_sem, hP]
          refine xany_one (i := 8) (by kernel_rfl) rfl ?_
          simp -dsimp -implicitDefEqProofs [-getElem?_pos, go_sem, hP]
          refine xany_nil (by kernel_rfl) ?_
          exact fin _ (by simp -dsimp -implicitDefEqProofs [-getElem?_pos, go_sem]) (by simp -dsimp -implicitDefEqProofs [-getElem?_pos, go_sem]) (by simp -dsimp -implicitDefEqProofs [-getElem?_pos, go_sem])
      · simp -dsimp -implicitDefEqProofs [-getElem?_pos, go_sem, hP]
        refine ⟨aD _ _ (kept_app _ _ _) (b0.trans a0.symm) (b1.trans a1.symm), ?_⟩
        refine xany_one (i := 5) (by kernel_rfl) rfl ?_
        obtain ⟨H3, hH3⟩ : ∃ H3 : Heap, H3 = H2 ++ [some ⟨28, 3, [[.nil, .nil, .nil]]⟩] := ⟨_, rfl⟩
        have l3 : H3.length = H2.length + 1 := by rw [hH3]; simp
        have c0 : H3[H.length]? = H1[H.length]? := by rw [hH3, List.getElem?_append_left (by omega), b0, a0]
        have c1 : H3[H.length + 1]? = H1[H.length + 1]? := by rw [hH3, List.getElem?_append_left (by omega), b1, a1]
        have c2 : H3[H2.length]? = some (some ⟨28, 3, [[.nil, .nil, .nil]]⟩) := by rw [hH3]; simp
        have p1 : H3[j1]? = some (some ⟨34, 5, encL TPayment.cells q.Waiting⟩) := by rw [hH3, List.getElem?_append_left (by omega), o1]
        have k3 : Kept [] H2 H3 := by rw [hH3]; exact kept_app _ _ _
        simp only [← hH3]
        simp -dsimp -implicitDefEqProofs [-getElem?_pos, go_sem, hP, c0, a0, l3]
        refine callB_m (by rw [hr, hs]; exact clone_m_int q.Known H3 (by omega)) hP en_71 ?_
        rintro r H4 ⟨j2, rfl, hj2, o2, hk2⟩
        have d0 := hk2 _ _ (by simp) (c0.trans a0)
        have d1 := hk2 _ _ (by simp) (c1.trans a1)
        have d2 := hk2 _ _ (by simp) c2
        have p2 := hk2 _ _ (by simp) p1
        have ltn2 := (List.getElem?_eq_some_iff.1 d2).1
        have eI : encL encI q.Known = intRows q.Known := rfl
        simp -dsimp -implicitDefEqProofs [-getElem?_pos, go_sem, hP]
        refine ⟨aD _ _ hk2 c0 c1, ?_⟩
        refine xany_one (i := 6) (by kernel_rfl) rfl ?_
        simp -dsimp -implicitDefEqProofs [-getElem?_pos, go_sem, hP]
        refine xany_one (i := 8) (by kernel_rfl) rfl ?_
        simp -dsimp -implicitDefEqProofs [-getElem?_pos, go_sem, hP, d2, ltn2]
        refine xany_nil (by kernel_rfl) ?_
        rw [hInv]
        refine ⟨H2.length, j1, j2, by simp -dsimp -implicitDefEqProofs [-getElem?_pos, go_sem], by simp -dsimp -implicitDefEqProofs [-getElem?_pos, go_sem], by simp -dsimp -implicitDefEqProofs [-getElem?_pos, go_sem], by omega, by omega, by omega, by omega, by omega, by omega, ?_, ?_, ?_, ?_, ?_, ?_⟩
        · rw [List.getElem?_set_ne (by omega), d0]
        · rw [List.getElem?_set_ne (by omega), d1]
        · rw [List.getElem?_set_self ltn2]
        · rw [List.getElem?_set_ne (by omega), p2]
        · rw [List.getElem?_set_ne (by omega), o2, eI]
        · exact kept_new _ (by omega) (((k1.trans hk).trans k3).trans hk2)
    · simp -dsimp -implicitDefEqProofs [-getElem?_pos, go_sem, hP]
      refine ⟨aD _ _ (kept_app _ _ _) rfl rfl, ?_⟩
      refine xany_one (i := 2) (by kernel_rfl) rfl ?_
      obtain ⟨H2, hH2⟩ : ∃ H2 : Heap, H2 = H1 ++ [some ⟨28, 3, [[.nil, .nil, .nil]]⟩] := ⟨_, rfl⟩
      have l2 : H2.length = H1.length + 1 := by rw [hH2]; simp
      have b0 : H2[H.length]? = H1[H.length]? := by rw [hH2, List.getElem?_append_left (by omega)]
      have b1 : H2[H.length + 1]? = H1[H.length + 1]? := by rw [hH2, List.getElem?_append_left (by omega)]
      have b2 : H2[H.length + 2]? = some (some ⟨28, 3, [[.nil, .nil, .nil]]⟩) := by rw [hH2, ← l1]; simp
      have k2 : Kept [] H1 H2 := by rw [hH2]; exact kept_app _ _ _
      simp only [← hH2]
      simp -dsimp -implicitDefEqProofs [-getElem?_pos, go_sem, hP, b0, a0, l1, l2]
      refine callB_m (by rw [hr, hs]; exact clone_m_pay q.Waiting H2 (by omega)) hP en_50 ?_
      rintro r H3 ⟨j1, rfl, hj1, o1, hk⟩
      have c0 := hk _ _ (by simp) (b0.trans a0)
      have c1 := hk _ _ (by simp) (b1.trans a1)
      have c2 := hk _ _ (by simp) b2
      have ltn := (List.getElem?_eq_some_iff.1 c2).1
      have lto := (List.getElem?_eq_some_iff.1 o1).1
      simp -dsimp -implicitDefEqProofs [-getElem?_pos, go_sem, hP]
      refine ⟨aD _ _ hk b0 b1, ?_⟩
      refine xany_one (i := 5) (by kernel_rfl) rfl ?_
      simp -dsimp -implicitDefEqProofs [-getElem?_pos, go_sem, hP, c0, l1]
      refine callB_m (by rw [hr, hs]; exact clone_m_int q.Known H3 (by omega)) hP en_71 ?_
      rintro r H4 ⟨j2, rfl, hj2, o2, hk2⟩
      have d0 := hk2 _ _ (by simp) c0
      have d1 := hk2 _ _ (by simp) c1
      have d2 := hk2 _ _ (by simp) c2
      have p2 := hk2 _ _ (by simp) o1
      have ltn2 := (List.getElem?_eq_some_iff.1 d2).1
      have eI : encL encI q.Known = intRows q.Known := rfl
      simp -dsimp -implicitDefEqProofs [-getElem?_pos, go_sem, hP]
      refine ⟨aD _ _ hk2 (c0.trans a0.symm) (c1.trans a1.symm), ?_⟩
      refine xany_one (i := 6) (by kernel_rfl) rfl ?_
      simp -dsimp -implicitDefEqProofs [-getElem?_pos, go_sem, hP]
      refine xany_one (i := 8) (by kernel_rfl) rfl ?_
      simp -dsimp -implicitDefEqProofs [-getElem?_pos, go_sem, hP, d2, ltn2, l1]
      refine xany_nil (by kernel_rfl) ?_
      rw [hInv]
      refine ⟨H.length + 2, j1, j2, by simp -dsimp -implicitDefEqProofs [-getElem?_pos, go_sem], by simp -dsimp -implicitDefEqProofs [-getElem?_pos, go_sem], by simp -dsimp -implicitDefEqProofs [-getElem?_pos, go_sem], by omega, by omega, by omega, by omega, by omega, by omega, ?_, ?_, ?_, ?_, ?_, ?_⟩
      · rw [List.getElem?_set_ne (by omega), d0]
      · rw [List.getElem?_set_ne (by omega), d1]
      · rw [List.getElem?_set_self ltn2]
      · rw [List.getElem?_set_ne (by omega), p2]
      · rw [List.getElem?_set_ne (by omega), o2, eI]
      · exact kept_new _ (by omega) (((k1.trans k2).trans hk).trans hk2)
  · rw [hInv]
    rintro s ⟨p, j1, j2, t1, t2, t3, hp2, hj1, hj2, n1, n2, n3, h0, h1, hp, ho1, ho2, hK⟩
    have lt0 := (List.getElem?_eq_some_iff.1 h0).1
    have ltp := (List.getElem?_eq_some_iff.1 hp).1
    have lti := (List.getElem?_eq_some_iff.1 ho1).1
    have ltj := (List.getElem?_eq_some_iff.1 ho2).1
    obtain ⟨B, hB⟩ : ∃ B, B = s.H.length := ⟨_, rfl⟩
    rw [← hB] at ltp lti ltj
    have hBle : B ≤ s.H.length := by omega
    obtain ⟨l, hl⟩ : ∃ l, l = q.Batches := ⟨_, rfl⟩
    have each := hf.each
    rw [← hl] at lb h0 each i3
    simp -dsimp -implicitDefEqProofs [-getElem?_pos, go_sem, hP, t1, h0, lt0]
    rw [← hl] at hC
    obtain ⟨I, hI⟩ : ∃ I : Nat → St → Prop, I = fun m s => ∃ (k : Nat) (x : AV), k ≤ l.length ∧ m = l.length - k ∧ B ≤ s.H.length ∧ s.t 2 = .ref (H.length + 1) 0 0 ∧ s.t 3 = .ref p 0 0 ∧ s.t 14 = batsL l ∧ s.t 15 = iv l.length ∧ s.t 16 = iv k ∧ s.H[H.length + 1]? = some (some ⟨28, 3, [[.nil, .nil, .nil]]⟩) ∧ s.H[p]? = some (some ⟨28, 3, [[.sref j1 0 q.Waiting.length, .sref j2 0 q.Known.length, x]]⟩) ∧ s.H[j1]? = some (some ⟨34, 5, encL TPayment.cells q.Waiting⟩) ∧ s.H[j2]? = some (some ⟨3, 1, intRows q.Known⟩) ∧ Grown B s.H x 45 3 (encL TBatch.cells (l.take k)) ∧ Kept [] H s.H := ⟨_, rfl⟩
    refine aloop0 I (l.length) (by rw [hN]; rfl) ?_ ?_
    · rw [hI]
      exact ⟨0, .nil, by omega, by omega, by simp -dsimp -implicitDefEqProofs [-getElem?_pos, go_sem]; omega, by simp -dsimp -implicitDefEqProofs [-getElem?_pos, go_sem, t2], by simp -dsimp -implicitDefEqProofs [-getElem?_pos, go_sem, t3], by simp -dsimp -implicitDefEqProofs [-getElem?_pos, go_sem], by simp -dsimp -implicitDefEqProofs [-getElem?_pos, go_sem], by simp -dsimp -implicitDefEqProofs [-getElem?_pos, go_sem], by simp -dsimp -implicitDefEqProofs [-getElem?_pos, go_sem, h1], by simp -dsimp -implicitDefEqProofs [-getElem?_pos, go_sem, hp], by simp -dsimp -implicitDefEqProofs [-getElem?_pos, go_sem, ho1], by simp -dsimp -implicitDefEqProofs [-getElem?_pos, go_sem, ho2], .inl ⟨rfl, rfl⟩, by simp -dsimp -implicitDefEqProofs [-getElem?_pos, go_sem]; exact hK⟩
    clear t1 t2 t3 h0 h1 hp ho1 ho2 hK lt0 hB hBle
    intro m s hs'
    rw [hI] at hs'
    obtain ⟨k, x, hk, hm, hBle, t2, t3, t14, t15, t16, h1, hp, ho1, ho2, hg, hK⟩ := hs'
    have lt1 := (List.getElem?_eq_some_iff.1 h1).1
    simp -dsimp -implicitDefEqProofs [-getElem?_pos, go_sem, hP, t15, t16]
    refine condP (fun h => ?_) (fun h => ?_)
    · have hk : k < l.length := by simpa using h
      obtain ⟨c, hcc⟩ : ∃ c, l[k]? = some c := ⟨_, List.getElem?_eq_getElem hk⟩
      have wk := wrap_in ((k : Int) + 1) (by omega)
      have ec := each c (List.mem_of_getElem? hcc)
      have ic := imm_pays c.Payments
      have ltp' : p < s.H.length := by omega
      have lti' : j1 < s.H.length := by omega
      have ltj' : j2 < s.H.length := by omega
      have e1 : encL TBatch.cells (l.take (k + 1)) = encL TBatch.cells (l.take k) ++ [[iv c.Number, iv c.Day, paysL c.Payments]] := by
        rw [List.take_add_one, hcc]
        exact (encL_snoc TBatch.cells (l.take k) c).symm
      have nl : (encL TBatch.cells (l.take k)).length = k := by rw [encL_len, List.length_take]; omega
      have np1 : ¬ p = H.length + 1 := by omega
      simp -dsimp -implicitDefEqProofs [-getElem?_pos, go_sem, hP, t14, t16, hcc, cBt]
      refine callB_is ((clone_pf_pay c.Payments (by omega)).lift _ _) hP en_50 (by simpa using ic) ic ?_
      rcases hg with ⟨rfl, hg⟩ | ⟨jd, h2, rfl, hg⟩
      · simp -dsimp -implicitDefEqProofs [-getElem?_pos, go_sem, hP, t3, hp, ltp', t16, wk]
        refine ⟨l.length - (k + 1), by omega, ?_⟩
        rw [hI]
        refine ⟨k + 1, .sref (s.H.length + 1) 0 1, by omega, rfl, by simp -dsimp -implicitDefEqProofs [-getElem?_pos, go_sem]; omega, by simp -dsimp -implicitDefEqProofs [-getElem?_pos, go_sem, t2], by simp -dsimp -implicitDefEqProofs [-getElem?_pos, go_sem, t3], by simp -dsimp -implicitDefEqProofs [-getElem?_pos, go_sem, t14], by simp -dsimp -implicitDefEqProofs [-getElem?_pos, go_sem, t15], by simp -dsimp -implicitDefEqProofs [-getElem?_pos, go_sem], ?_, ?_, ?_, ?_, .inr ⟨s.H.length + 1, by omega, ?_, ?_⟩, ?_⟩
        · simp -dsimp -implicitDefEqProofs [-getElem?_pos, go_sem, lt1, h1, np1]
        · simp -dsimp -implicitDefEqProofs [-getElem?_pos, go_sem, ltp']
        · simp -dsimp -implicitDefEqProofs [-getElem?_pos, go_sem, lti', ho1, n1]
        · simp -dsimp -implicitDefEqProofs [-getElem?_pos, go_sem, ltj', ho2, n2]
        · rw [e1, hg]; rfl
        · rw [e1, hg]
          simp -dsimp -implicitDefEqProofs [-getElem?_pos, go_sem]
        · simp -dsimp -implicitDefEqProofs [-getElem?_pos, go_sem]
          exact (kept_new _ (by omega) hK).trans (kept_app _ _ _)
      · have lj := (List.getElem?_eq_some_iff.1 hg).1
        have m1 : ¬ jd = H.length + 1 := by omega
        have m2 : ¬ jd = p := by omega
        have m3 : ¬ jd = j1 := by omega
        have m4 : ¬ jd = j2 := by omega
        simp -dsimp -implicitDefEqProofs [-getElem?_pos, go_sem, hP, t3, hp, ltp', t16, wk, hg, lj, m1, m2, m3, m4, nl]
        refine ⟨by omega, by omega, ?_⟩
        refine ⟨l.length - (k + 1), by omega, ?_⟩
        rw [hI]
        refine ⟨k + 1, .sref (s.H.length + 1) 0 (k + 1), by omega, rfl, by simp -dsimp -implicitDefEqProofs [-getElem?_pos, go_sem]; omega, by simp -dsimp -implicitDefEqProofs [-getElem?_pos, go_sem, t2], by simp -dsimp -implicitDefEqProofs [-getElem?_pos, go_sem, t3], by simp -dsimp -implicitDefEqProofs [-getElem?_pos, go_sem, t14], by simp -dsimp -implicitDefEqProofs [-getElem?_pos, go_sem, t15], by simp -dsimp -implicitDefEqProofs [-getElem?_pos, go_sem], ?_, ?_, ?_, ?_, .inr ⟨s.H.length + 1, by omega, ?_, ?_⟩, ?_⟩
        · simp -dsimp -implicitDefEqProofs [-getElem?_pos, go_sem, lt1, h1, np1, m1]
        · simp -dsimp -implicitDefEqProofs [-getElem?_pos, go_sem, ltp', m2]
        · simp -dsimp -implicitDefEqProofs [-getElem?_pos, go_sem, lti', ho1, n1, m3]
        · simp -dsimp -implicitDefEqProofs [-getElem?_pos, go_sem, ltj', ho2, n2, m4]
        · rw [e1, List.length_append, nl]; rfl
        · rw [e1]
          simp -dsimp -implicitDefEqProofs [-getElem?_pos, go_sem]
        · simp -dsimp -implicitDefEqProofs [-getElem?_pos, go_sem]
          exact (kept_new _ (by omega) (kept_new _ (by omega) hK)).trans (kept_app _ _ _)
    · have hk : k = l.length := by simp at h; omega
      subst hk
      rw [List.take_length] at hg
      have hc := hg.cellish
      have ltp' : p < s.H.length := by omega
      simp -dsimp -implicitDefEqProofs [-getElem?_pos, go_sem, hP, t3, hp, ltp', t2, h1, lt1, hc]
      rw [hC]
      refine ⟨j1, j2, x, rfl, by omega, by omega, n3, ?_, ?_, ⟨B, by omega, by omega, hg.kept (X := [H.length + 1]) (kept_set _ (by simp) (kept_refl _ _)) (by simp; omega)⟩, kept_new _ (by omega) hK⟩
      · rw [List.getElem?_set_ne (by omega), ho1]
      · rw [List.getElem?_set_ne (by omega), ho2]
end Go.Proofs.Ytmpncdlhmknkoaa
