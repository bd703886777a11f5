/- Several texts of this claim, joined: Bat6 Bat7 Bat8 Bat9 PaFrz Bat10 Bat11 Bat12 Bat13 Bat14 Bat15 Bat16 PaPf. -/
import Derived.Test.YtmpncdlhmknkoaaGreatPk5
set_option linter.unusedSimpArgs false
set_option linter.unusedVariables false
namespace Go.Proofs.YtmpncdlhmknkoaaGreat
open Go.PA
open Go.RowKit
theorem clone_m_pay {row src : Option Nat} (l : List TPayment) (H : Heap) (hl : l.length ≤ 1000000) : MFun Tryz.prog row src 126 [.list 5 (encL TPayment.cells l)] H (fun r H' => ∃ id, r = .sref id 0 l.length ∧ H.length ≤ id ∧ H'[id]? = some (some ⟨44, 5, encL TPayment.cells l⟩) ∧ Kept [] H H') := by
 have own : MFun Tryz.prog row src 126 [.list 5 (encL TPayment.cells l)] H (fun r H' => (r = .nil ∧ l = [] ∧ H' = H) ∨ ∃ id, r = .sref id 0 l.length ∧ H.length ≤ id ∧ H'[id]? = some (some ⟨44, 5, encL TPayment.cells l⟩) ∧ Kept [] H H') := by
  cases l with
  | nil =>
   refine mfun_list_nil fun A c => ?_
   refine mfun_intro Tryz.func126 rfl (by simp [Tryz.f126]) (by kernel_rfl) ⟨.nil, H, .inl ⟨rfl, rfl, rfl⟩⟩ ?_
   intro E hP hr hs hN
   cases A with
   | none => simp -dsimp -implicitDefEqProofs [-getElem?_pos, go_sem, hP]
   | some a =>
    simp -dsimp -implicitDefEqProofs [-getElem?_pos, go_sem, hP]
    exact kept_app _ _ _
  | cons a l =>
   refine mfun_intro Tryz.func126 rfl (by simp [Tryz.f126]) (by kernel_rfl) ⟨_, H ++ [some ⟨44, 5, encL TPayment.cells (a :: l)⟩], .inr ⟨H.length, rfl, Nat.le_refl _, by simp, kept_push _ (kept_refl _ _)⟩⟩ ?_
   intro E hP hr hs hN
   simp only [List.length_cons] at hl
   have e : encL TPayment.cells (a :: l) = TPayment.cells a :: encL TPayment.cells l := rfl
   simp -dsimp -implicitDefEqProofs [-getElem?_pos, go_sem, hP, e]
   refine ⟨by omega, by omega, ?_⟩
   exact kept_app _ _ _
 refine (own.ownNil 44 5).mono ?_
 rintro r H' (⟨H0, h0, rfl, rfl⟩ | ⟨hne, h⟩)
 ·rcases h0 with ⟨_, rfl, rfl⟩ | ⟨id, h, _⟩
  ·exact ⟨_, rfl, Nat.le_refl _, by simp [encL], kept_push _ (kept_refl _ _)⟩
  ·cases h
 ·rcases h with ⟨h, _⟩ | h
  ·exact absurd h hne
  ·exact h
theorem clone_pf_pay (l : List TPayment) (hl : l.length ≤ 1000000) : PFun Tryz.prog none none 126 [.list 5 (encL TPayment.cells l)] (· = .list 5 (encL TPayment.cells l)) := by
 cases l with
 | nil =>
  refine pfun_list_nil fun A c => ?_
  refine pfun_intro Tryz.func126 rfl (by simp [Tryz.f126]) (by kernel_rfl) ?_
  intro E hP hr hs hW hN
  cases A with
  | none =>
   simp -dsimp -implicitDefEqProofs [-getElem?_pos, go_sem, hP]
   exact done_weak .nil (imm_list.2 (by simp)) (.nil _) rfl
  | some a =>
   simp -dsimp -implicitDefEqProofs [-getElem?_pos, go_sem, hP]
   refine done_weak (x := .list 5 []) ?_ (imm_list.2 (by simp)) ?_ rfl
   ·simp -dsimp -implicitDefEqProofs [-getElem?_pos, go_sem]
   ·simp -dsimp -implicitDefEqProofs [-getElem?_pos, go_sem]
    first | exact .refl _ | skip
 | cons a l =>
  refine pfun_intro Tryz.func126 rfl (by simp [Tryz.f126]) (by kernel_rfl) ?_
  intro E hP hr hs hW hN
  simp only [List.length_cons] at hl
  have e : encL TPayment.cells (a :: l) = TPayment.cells a :: encL TPayment.cells l := rfl
  have im : Imm (.list 5 (TPayment.cells a :: encL TPayment.cells l)) := by rw [← e]; exact imm_encL _ TPayment.imm _
  have et : (TPayment.cells a :: encL TPayment.cells l).take (l.length + 1) = TPayment.cells a :: encL TPayment.cells l := by
   rw [← e]
   exact encL_take TPayment.cells (a :: l) _ (by simp)
  simp -dsimp -implicitDefEqProofs [-getElem?_pos, go_sem, hP, e]
  refine ⟨by omega, by omega, ?_⟩
  refine done_weak (x := .list 5 (TPayment.cells a :: encL TPayment.cells l)) ?_ im ?_ rfl
  ·simp -dsimp -implicitDefEqProofs [-getElem?_pos, go_sem]
   first | exact im | (have h := imm_list.1 im; simp only [List.mem_cons, forall_eq_or_imp] at h; exact h)
  ·simp -dsimp -implicitDefEqProofs [-getElem?_pos, go_sem]
   first | exact .refl _ | skip
theorem clone_m_int {row src : Option Nat} (l : List Int) (H : Heap) (hl : l.length ≤ 1000000) : MFun Tryz.prog row src 164 [.list 1 (encL encI l)] H (fun r H' => ∃ id, r = .sref id 0 l.length ∧ H.length ≤ id ∧ H'[id]? = some (some ⟨3, 1, encL encI l⟩) ∧ Kept [] H H') := by
 have own : MFun Tryz.prog row src 164 [.list 1 (encL encI l)] H (fun r H' => (r = .nil ∧ l = [] ∧ H' = H) ∨ ∃ id, r = .sref id 0 l.length ∧ H.length ≤ id ∧ H'[id]? = some (some ⟨3, 1, encL encI l⟩) ∧ Kept [] H H') := by
  cases l with
  | nil =>
   refine mfun_list_nil fun A c => ?_
   refine mfun_intro Tryz.func164 rfl (by simp [Tryz.f164]) (by kernel_rfl) ⟨.nil, H, .inl ⟨rfl, rfl, rfl⟩⟩ ?_
   intro E hP hr hs hN
   cases A with
   | none => simp -dsimp -implicitDefEqProofs [-getElem?_pos, go_sem, hP]
   | some a =>
    simp -dsimp -implicitDefEqProofs [-getElem?_pos, go_sem, hP]
    exact kept_app _ _ _
  | cons a l =>
   refine mfun_intro Tryz.func164 rfl (by simp [Tryz.f164]) (by kernel_rfl) ⟨_, H ++ [some ⟨3, 1, encL encI (a :: l)⟩], .inr ⟨H.length, rfl, Nat.le_refl _, by simp, kept_push _ (kept_refl _ _)⟩⟩ ?_
   intro E hP hr hs hN
   simp only [List.length_cons] at hl
   have e : encL encI (a :: l) = encI a :: encL encI l := rfl
   simp -dsimp -implicitDefEqProofs [-getElem?_pos, go_sem, hP, e]
   refine ⟨by omega, by omega, ?_⟩
   exact kept_app _ _ _
 refine (own.ownNil 3 1).mono ?_
 rintro r H' (⟨H0, h0, rfl, rfl⟩ | ⟨hne, h⟩)
 ·rcases h0 with ⟨_, rfl, rfl⟩ | ⟨id, h, _⟩
  ·exact ⟨_, rfl, Nat.le_refl _, by simp [encL], kept_push _ (kept_refl _ _)⟩
  ·cases h
 ·rcases h with ⟨h, _⟩ | h
  ·exact absurd h hne
  ·exact h
abbrev intRows (l : List Int) : List (List AV) := l.map fun x => [iv x]
theorem intRows_len (l : List Int) : (intRows l).length = l.length := by simp [intRows]
set_option maxHeartbeats 2000000 in
theorem bcopy_m {row src : Option Nat} (q : TQueue) (H : Heap) (hf : FitQ q) :
  MFun Tryz.prog row src 123 [.agg q.cells] H (fun r H' => ∃ i1 i2 x, r = .agg [.sref i1 0 q.Waiting.length, .sref i2 0 q.Known.length, x] ∧ H.length ≤ i1 ∧ H.length ≤ i2 ∧ i1 ≠ i2 ∧ H'[i1]? = some (some ⟨44, 5, encL TPayment.cells q.Waiting⟩) ∧ H'[i2]? = some (some ⟨3, 1, intRows q.Known⟩) ∧ (∃ B, i1 < B ∧ i2 < B ∧ Grown B H' x 55 3 (encL TBatch.cells q.Batches)) ∧ Kept [] H H') := by
 obtain ⟨C, hC⟩ : ∃ C : AV → Heap → Prop, C = fun r H' => ∃ i1 i2 x, r = .agg [.sref i1 0 q.Waiting.length, .sref i2 0 q.Known.length, x] ∧ H.length ≤ i1 ∧ H.length ≤ i2 ∧ i1 ≠ i2 ∧ H'[i1]? = some (some ⟨44, 5, encL TPayment.cells q.Waiting⟩) ∧ H'[i2]? = some (some ⟨3, 1, intRows q.Known⟩) ∧ (∃ B, i1 < B ∧ i2 < B ∧ Grown B H' x 55 3 (encL TBatch.cells q.Batches)) ∧ Kept [] H H' := ⟨_, rfl⟩
 rw [← hC]
 have ex : ∃ r H', C r H' := ⟨.agg [.sref H.length 0 q.Waiting.length, .sref (H.length + 1) 0 q.Known.length, .sref (H.length + 2) 0 q.Batches.length], H ++ [some ⟨44, 5, encL TPayment.cells q.Waiting⟩, some ⟨3, 1, intRows q.Known⟩, some ⟨55, 3, encL TBatch.cells q.Batches⟩], by
  rw [hC]
  exact ⟨H.length, H.length + 1, _, rfl, Nat.le_refl _, by omega, by omega, by simp, by rw [List.getElem?_append_right (by omega)]; simp, ⟨H.length + 2, by omega, by omega, .inr ⟨H.length + 2, Nat.le_refl _, by rw [encL_len], by rw [List.getElem?_append_right (by omega)]; simp⟩⟩, kept_app _ _ _⟩⟩
 refine mfun_intro Tryz.func123 rfl (by simp [Tryz.f123]) (by kernel_rfl) (ex) ?_
 intro E hP hr hs hN
 have ip := imm_pays q.Waiting
 have i2 := imm_ints q.Known
 have i3 := imm_bats q.Batches
 simp only [intsL] at i2
 simp -dsimp -implicitDefEqProofs [-getElem?_pos, go_sem, hP, cQu, intsL]
 have lw := hf.w
 have lk := hf.k
 have lb := hf.b
 obtain ⟨Inv, hInv⟩ : ∃ Inv : St → Prop, Inv = fun s => ∃ (p j1 j2 : Nat), s.t 1 = .ref H.length 0 0 ∧ s.t 2 = .ref (H.length + 1) 0 0 ∧ s.t 3 = .ref p 0 0 ∧ H.length + 2 ≤ p ∧ H.length + 2 ≤ j1 ∧ H.length + 2 ≤ j2 ∧ p ≠ j1 ∧ p ≠ j2 ∧ j1 ≠ j2 ∧ s.H[H.length]? = some (some ⟨32, 3, [[paysL q.Waiting, .list 1 (intRows q.Known), batsL q.Batches]]⟩) ∧ s.H[H.length + 1]? = some (some ⟨32, 3, [[.nil, .nil, .nil]]⟩) ∧ s.H[p]? = some (some ⟨32, 3, [[.sref j1 0 q.Waiting.length, .sref j2 0 q.Known.length, .nil]]⟩) ∧ s.H[j1]? = some (some ⟨44, 5, encL TPayment.cells q.Waiting⟩) ∧ s.H[j2]? = some (some ⟨3, 1, intRows q.Known⟩) ∧ Kept [] H s.H := ⟨_, rfl⟩
 obtain ⟨H1, hH1⟩ : ∃ H1 : Heap, H1 = H ++ [some ⟨32, 3, [[paysL q.Waiting, .list 1 (intRows q.Known), batsL q.Batches]]⟩, some ⟨32, 3, [[.nil, .nil, .nil]]⟩] := ⟨_, rfl⟩
 have l1 : H1.length = H.length + 2 := by rw [hH1]; simp
 have a0 : H1[H.length]? = some (some ⟨32, 3, [[paysL q.Waiting, .list 1 (intRows q.Known), batsL q.Batches]]⟩) := by rw [hH1]; simp
 have a1 : H1[H.length + 1]? = some (some ⟨32, 3, [[.nil, .nil, .nil]]⟩) := by rw [hH1, List.getElem?_append_right (by omega)]; simp
 have k1 : Kept [] H H1 := by rw [hH1]; exact kept_app _ _ _
 simp only [← hH1]
 have aD : ∀ (X X' : Heap), Kept [] X X' → X[H.length]? = H1[H.length]? → X[H.length + 1]? = H1[H.length + 1]? → Agree (fun i => decide (i = H.length) || decide (i = H.length + 1)) X X' := fun X X' hk e0 e1 => agree_live hk fun i hi => by
  simp only [Bool.or_eq_true, decide_eq_true_eq] at hi
  rcases hi with rfl | rfl
  ·exact ⟨by simp, _, e0.trans a0⟩
  ·exact ⟨by simp, _, e1.trans a1⟩
 refine adraw_cut Inv ?_ ?_
 ·refine adrawK (fun i => decide (i = H.length) || decide (i = H.length + 1)) [8] [] 2 hP (by kernel_rfl) (by kernel_rfl) (by simp) ?_
  simp -dsimp -implicitDefEqProofs [-getElem?_pos, go_sem, hP, List.take_succ_cons, List.take_zero, restr_get, a0, l1]
  refine xany_pick 3 rfl (by kernel_rfl) ?_
  simp -dsimp -implicitDefEqProofs [-getElem?_pos, go_sem, hP, a0, restr_get, l1]
  refine xany_pick 4 rfl (by kernel_rfl) ?_
  simp -dsimp -implicitDefEqProofs [-getElem?_pos, go_sem, hP, a0, restr_get, l1]
  refine xany_two (i := 2) (j := 7) (by kernel_rfl) rfl rfl ?_ ?_
  ·simp -dsimp -implicitDefEqProofs [-getElem?_pos, go_sem, hP]
   refine callB_m (by rw [hr, hs]; exact clone_m_pay q.Waiting H1 (by omega)) hP en_126 ?_
   rintro r H2 ⟨j1, rfl, hj1, o1, hk⟩
   have b0 := hk _ _ (by simp) a0
   have b1 := hk _ _ (by simp) a1
   have ltn := (gsI b1)
   have lt1 := (gsI o1)
   simp -dsimp -implicitDefEqProofs [-getElem?_pos, go_sem, hP]
   refine ⟨aD _ _ hk rfl rfl, ?_⟩
   refine xany_two (i := 5) (j := 7) (by kernel_rfl) rfl rfl ?_ ?_
   ·simp -dsimp -implicitDefEqProofs [-getElem?_pos, go_sem, hP]
    refine callB_m (by rw [hr, hs]; exact clone_m_int q.Known H2 (by omega)) hP en_164 ?_
    rintro r H3 ⟨j2, rfl, hj2, o2, hk2⟩
    have c0 := hk2 _ _ (by simp) b0
    have c1 := hk2 _ _ (by simp) b1
    have p1 := hk2 _ _ (by simp) o1
    have ltn2 := (gsI c1)
    have lt2 := (gsI o2)
    have lt3 := (gsI p1)
    have eI : encL encI q.Known = intRows q.Known := rfl
    have fin : ∀ t, t 1 = AV.ref H.length 0 0 → t 2 = AV.ref (H.length + 1) 0 0 → t 3 = AV.ref H3.length 0 0 → Inv ⟨t, H3 ++ [some ⟨32, 3, [[.sref j1 0 q.Waiting.length, .sref j2 0 q.Known.length, .nil]]⟩]⟩ := fun t e1 e2 e3 => by
     rw [hInv]
     refine ⟨H3.length, j1, j2, e1, e2, e3, by omega, by omega, by omega, by omega, by omega, by omega, ?_, ?_, by simp, ?_, ?_, ((k1.trans hk).trans hk2).trans (kept_app _ _ _)⟩
     ·rw [List.getElem?_append_left (by omega), c0]
     ·rw [List.getElem?_append_left (by omega), c1]
     ·rw [List.getElem?_append_left (by omega), p1]
     ·rw [List.getElem?_append_left (by omega), o2, eI]
    simp -dsimp -implicitDefEqProofs [-getElem?_pos, go_sem, hP]
    refine ⟨aD _ _ hk2 (b0.trans a0.symm) (b1.trans a1.symm), ?_⟩
    refine xany_two (i := 6) (j := 7) (by kernel_rfl) rfl rfl ?_ ?_
    ·simp -dsimp -implicitDefEqProofs [-getElem?_pos, go_sem, hP]
     refine xany_one (i := 7) (by kernel_rfl) rfl ?_
     simp -dsimp -implicitDefEqProofs [-getElem?_pos, go_sem, hP]
     refine ⟨aD _ _ (kept_app _ _ _) (c0.trans a0.symm) (c1.trans a1.symm), ?_⟩
     refine xany_one (i := 8) (by kernel_rfl) rfl ?_
     simp -dsimp -implicitDefEqProofs [-getElem?_pos, go_sem, hP]
     refine xany_nil (by kernel_rfl) ?_
     exact fin _ (by simp -dsimp [-getElem?_pos, go_sem]) (by simp -dsimp [-getElem?_pos, go_sem]) (by simp -dsimp [-getElem?_pos, go_sem])
    ·simp -dsimp -implicitDefEqProofs [-getElem?_pos, go_sem, hP]
     refine ⟨aD _ _ (kept_app _ _ _) (c0.trans a0.symm) (c1.trans a1.symm), ?_⟩
     refine xany_one (i := 6) (by kernel_rfl) rfl ?_
     simp -dsimp -implicitDefEqProofs [-getElem?_pos, go_sem, hP]
     refine xany_one (i := 8) (by kernel_rfl) rfl ?_
     simp -dsimp -implicitDefEqProofs [-getElem?_pos, go_sem, hP]
     refine xany_nil (by kernel_rfl) ?_
     exact fin _ (by simp -dsimp [-getElem?_pos, go_sem]) (by simp -dsimp [-getElem?_pos, go_sem]) (by simp -dsimp [-getElem?_pos, go_sem])
   ·simp -dsimp -implicitDefEqProofs [-getElem?_pos, go_sem, hP]
    refine ⟨aD _ _ (kept_app _ _ _) (b0.trans a0.symm) (b1.trans a1.symm), ?_⟩
    refine xany_one (i := 5) (by kernel_rfl) rfl ?_
    obtain ⟨H3, hH3⟩ : ∃ H3 : Heap, H3 = H2 ++ [some ⟨32, 3, [[.nil, .nil, .nil]]⟩] := ⟨_, rfl⟩
    have l3 : H3.length = H2.length + 1 := by rw [hH3]; simp
    have c0 : H3[H.length]? = H1[H.length]? := by rw [hH3, List.getElem?_append_left (by omega), b0, a0]
    have c1 : H3[H.length + 1]? = H1[H.length + 1]? := by rw [hH3, List.getElem?_append_left (by omega), b1, a1]
    have c2 : H3[H2.length]? = some (some ⟨32, 3, [[.nil, .nil, .nil]]⟩) := by rw [hH3]; simp
    have p1 : H3[j1]? = some (some ⟨44, 5, encL TPayment.cells q.Waiting⟩) := by rw [hH3, List.getElem?_append_left (by omega), o1]
    have k3 : Kept [] H2 H3 := by rw [hH3]; exact kept_app _ _ _
    simp only [← hH3]
    simp -dsimp -implicitDefEqProofs [-getElem?_pos, go_sem, hP, c0, a0, l3]
    refine callB_m (by rw [hr, hs]; exact clone_m_int q.Known H3 (by omega)) hP en_164 ?_
    rintro r H4 ⟨j2, rfl, hj2, o2, hk2⟩
    have d0 := hk2 _ _ (by simp) (c0.trans a0)
    have d1 := hk2 _ _ (by simp) (c1.trans a1)
    have d2 := hk2 _ _ (by simp) c2
    have p2 := hk2 _ _ (by simp) p1
    have ltn2 := (gsI d2)
    have eI : encL encI q.Known = intRows q.Known := rfl
    simp -dsimp -implicitDefEqProofs [-getElem?_pos, go_sem, hP]
    refine ⟨aD _ _ hk2 c0 c1, ?_⟩
    refine xany_one (i := 6) (by kernel_rfl) rfl ?_
    simp -dsimp -implicitDefEqProofs [-getElem?_pos, go_sem, hP]
    refine xany_one (i := 8) (by kernel_rfl) rfl ?_
    simp -dsimp -implicitDefEqProofs [-getElem?_pos, go_sem, hP, d2, ltn2]
    refine xany_nil (by kernel_rfl) ?_
    rw [hInv]
    refine ⟨H2.length, j1, j2, by simp -dsimp [-getElem?_pos, go_sem], by simp -dsimp [-getElem?_pos, go_sem], by simp -dsimp [-getElem?_pos, go_sem], by omega, by omega, by omega, by omega, by omega, by omega, ?_, ?_, ?_, ?_, ?_, ?_⟩
    ·rw [List.getElem?_set_ne (by omega), d0]
    ·rw [List.getElem?_set_ne (by omega), d1]
    ·rw [List.getElem?_set_self ltn2]
    ·rw [List.getElem?_set_ne (by omega), p2]
    ·rw [List.getElem?_set_ne (by omega), o2, eI]
    ·exact kept_new _ (by omega) (((k1.trans hk).trans k3).trans hk2)
  ·simp -dsimp -implicitDefEqProofs [-getElem?_pos, go_sem, hP]
   refine ⟨aD _ _ (kept_app _ _ _) rfl rfl, ?_⟩
   refine xany_one (i := 2) (by kernel_rfl) rfl ?_
   obtain ⟨H2, hH2⟩ : ∃ H2 : Heap, H2 = H1 ++ [some ⟨32, 3, [[.nil, .nil, .nil]]⟩] := ⟨_, rfl⟩
   have l2 : H2.length = H1.length + 1 := by rw [hH2]; simp
   have b0 : H2[H.length]? = H1[H.length]? := by rw [hH2, List.getElem?_append_left (by omega)]
   have b1 : H2[H.length + 1]? = H1[H.length + 1]? := by rw [hH2, List.getElem?_append_left (by omega)]
   have b2 : H2[H.length + 2]? = some (some ⟨32, 3, [[.nil, .nil, .nil]]⟩) := by rw [hH2, ← l1]; simp
   have k2 : Kept [] H1 H2 := by rw [hH2]; exact kept_app _ _ _
   simp only [← hH2]
   simp -dsimp -implicitDefEqProofs [-getElem?_pos, go_sem, hP, b0, a0, l1, l2]
   refine callB_m (by rw [hr, hs]; exact clone_m_pay q.Waiting H2 (by omega)) hP en_126 ?_
   rintro r H3 ⟨j1, rfl, hj1, o1, hk⟩
   have c0 := hk _ _ (by simp) (b0.trans a0)
   have c1 := hk _ _ (by simp) (b1.trans a1)
   have c2 := hk _ _ (by simp) b2
   have ltn := (gsI c2)
   have lto := (gsI o1)
   simp -dsimp -implicitDefEqProofs [-getElem?_pos, go_sem, hP]
   refine ⟨aD _ _ hk b0 b1, ?_⟩
   refine xany_one (i := 5) (by kernel_rfl) rfl ?_
   simp -dsimp -implicitDefEqProofs [-getElem?_pos, go_sem, hP, c0, l1]
   refine callB_m (by rw [hr, hs]; exact clone_m_int q.Known H3 (by omega)) hP en_164 ?_
   rintro r H4 ⟨j2, rfl, hj2, o2, hk2⟩
   have d0 := hk2 _ _ (by simp) c0
   have d1 := hk2 _ _ (by simp) c1
   have d2 := hk2 _ _ (by simp) c2
   have p2 := hk2 _ _ (by simp) o1
   have ltn2 := (gsI d2)
   have eI : encL encI q.Known = intRows q.Known := rfl
   simp -dsimp -implicitDefEqProofs [-getElem?_pos, go_sem, hP]
   refine ⟨aD _ _ hk2 (c0.trans a0.symm) (c1.trans a1.symm), ?_⟩
   refine xany_one (i := 6) (by kernel_rfl) rfl ?_
   simp -dsimp -implicitDefEqProofs [-getElem?_pos, go_sem, hP]
   refine xany_one (i := 8) (by kernel_rfl) rfl ?_
   simp -dsimp -implicitDefEqProofs [-getElem?_pos, go_sem, hP, d2, ltn2, l1]
   refine xany_nil (by kernel_rfl) ?_
   rw [hInv]
   refine ⟨H.length + 2, j1, j2, by simp -dsimp [-getElem?_pos, go_sem], by simp -dsimp [-getElem?_pos, go_sem], by simp -dsimp [-getElem?_pos, go_sem], by omega, by omega, by omega, by omega, by omega, by omega, ?_, ?_, ?_, ?_, ?_, ?_⟩
   ·rw [List.getElem?_set_ne (by omega), d0]
   ·rw [List.getElem?_set_ne (by omega), d1]
   ·rw [List.getElem?_set_self ltn2]
   ·rw [List.getElem?_set_ne (by omega), p2]
   ·rw [List.getElem?_set_ne (by omega), o2, eI]
   ·exact kept_new _ (by omega) (((k1.trans k2).trans hk).trans hk2)
 ·rw [hInv]
  rintro s ⟨p, j1, j2, t1, t2, t3, hp2, hj1, hj2, n1, n2, n3, h0, h1, hp, ho1, ho2, hK⟩
  have lt0 := (gsI h0)
  have ltp := (gsI hp)
  have lti := (gsI ho1)
  have ltj := (gsI ho2)
  obtain ⟨B, hB⟩ : ∃ B, B = s.H.length := ⟨_, rfl⟩
  rw [← hB] at ltp lti ltj
  have hBle : B ≤ s.H.length := by omega
  obtain ⟨l, hl⟩ : ∃ l, l = q.Batches := ⟨_, rfl⟩
  have each := hf.each
  rw [← hl] at lb h0 each i3
  simp -dsimp -implicitDefEqProofs [-getElem?_pos, go_sem, hP, t1, h0, lt0]
  rw [← hl] at hC
  obtain ⟨I, hI⟩ : ∃ I : Nat → St → Prop, I = fun m s => ∃ (k : Nat) (x : AV), k ≤ l.length ∧ m = l.length - k ∧ B ≤ s.H.length ∧ s.t 2 = .ref (H.length + 1) 0 0 ∧ s.t 3 = .ref p 0 0 ∧ s.t 14 = batsL l ∧ s.t 15 = iv l.length ∧ s.t 16 = iv k ∧ s.H[H.length + 1]? = some (some ⟨32, 3, [[.nil, .nil, .nil]]⟩) ∧ s.H[p]? = some (some ⟨32, 3, [[.sref j1 0 q.Waiting.length, .sref j2 0 q.Known.length, x]]⟩) ∧ s.H[j1]? = some (some ⟨44, 5, encL TPayment.cells q.Waiting⟩) ∧ s.H[j2]? = some (some ⟨3, 1, intRows q.Known⟩) ∧ Grown B s.H x 55 3 (encL TBatch.cells (l.take k)) ∧ Kept [] H s.H := ⟨_, rfl⟩
  refine aloop0 I (l.length) (by rw [hN]; rfl) ?_ ?_
  ·rw [hI]
   exact ⟨0, .nil, by omega, by omega, by simp -dsimp [-getElem?_pos, go_sem]; omega, by simp -dsimp [-getElem?_pos, go_sem, t2], by simp -dsimp [-getElem?_pos, go_sem, t3], by simp -dsimp [-getElem?_pos, go_sem], by simp -dsimp [-getElem?_pos, go_sem], by simp -dsimp [-getElem?_pos, go_sem], by simp -dsimp [-getElem?_pos, go_sem, h1], by simp -dsimp [-getElem?_pos, go_sem, hp], by simp -dsimp [-getElem?_pos, go_sem, ho1], by simp -dsimp [-getElem?_pos, go_sem, ho2], .inl ⟨rfl, rfl⟩, by simp -dsimp [-getElem?_pos, go_sem]; exact hK⟩
  clear t1 t2 t3 h0 h1 hp ho1 ho2 hK lt0 hB hBle
  intro m s hs'
  rw [hI] at hs'
  obtain ⟨k, x, hk, hm, hBle, t2, t3, t14, t15, t16, h1, hp, ho1, ho2, hg, hK⟩ := hs'
  have lt1 := (gsI h1)
  simp -dsimp -implicitDefEqProofs [-getElem?_pos, go_sem, hP, t15, t16]
  refine condP (fun h => ?_) (fun h => ?_)
  ·have hk : k < l.length := by simpa using h
   obtain ⟨c, hcc⟩ : ∃ c, l[k]? = some c := ⟨_, List.getElem?_eq_getElem hk⟩
   have wk := wrap_in ((k : Int) + 1) (by omega)
   have ec := each c (List.mem_of_getElem? hcc)
   have ic := imm_pays c.Payments
   have ltp' : p < s.H.length := by omega
   have lti' : j1 < s.H.length := by omega
   have ltj' : j2 < s.H.length := by omega
   have e1 : encL TBatch.cells (l.take (k + 1)) = encL TBatch.cells (l.take k) ++ [[iv c.Number, iv c.Day, paysL c.Payments]] := by
    rw [List.take_add_one, hcc]
    exact (encL_snoc TBatch.cells (l.take k) c).symm
   have nl : (encL TBatch.cells (l.take k)).length = k := by rw [encL_len, List.length_take]; omega
   have np1 : ¬ p = H.length + 1 := by omega
   simp -dsimp -implicitDefEqProofs [-getElem?_pos, go_sem, hP, t14, t16, hcc, cBt]
   refine callB_is ((clone_pf_pay c.Payments (by omega)).lift _ _) hP en_126 (by simpa using ic) ic ?_
   rcases hg with ⟨rfl, hg⟩ | ⟨jd, h2, rfl, hg⟩
   ·simp -dsimp -implicitDefEqProofs [-getElem?_pos, go_sem, hP, t3, hp, ltp', t16, wk]
    refine ⟨l.length - (k + 1), by omega, ?_⟩
    rw [hI]
    refine ⟨k + 1, .sref (s.H.length + 1) 0 1, by omega, rfl, by simp -dsimp [-getElem?_pos, go_sem]; omega, by simp -dsimp [-getElem?_pos, go_sem, t2], by simp -dsimp [-getElem?_pos, go_sem, t3], by simp -dsimp [-getElem?_pos, go_sem, t14], by simp -dsimp [-getElem?_pos, go_sem, t15], by simp -dsimp [-getElem?_pos, go_sem], ?_, ?_, ?_, ?_, .inr ⟨s.H.length + 1, by omega, ?_, ?_⟩, ?_⟩
    ·simp -dsimp -implicitDefEqProofs [-getElem?_pos, go_sem, lt1, h1, np1]
    ·simp -dsimp -implicitDefEqProofs [-getElem?_pos, go_sem, ltp']
    ·simp -dsimp -implicitDefEqProofs [-getElem?_pos, go_sem, lti', ho1, n1]
    ·simp -dsimp -implicitDefEqProofs [-getElem?_pos, go_sem, ltj', ho2, n2]
    ·rw [e1, hg]; rfl
    ·rw [e1, hg]
     simp -dsimp -implicitDefEqProofs [-getElem?_pos, go_sem]
    ·simp -dsimp -implicitDefEqProofs [-getElem?_pos, go_sem]
     exact (kept_new _ (by omega) hK).trans (kept_app _ _ _)
   ·have lj := (gsI hg)
    have m1 : ¬ jd = H.length + 1 := by omega
    have m2 : ¬ jd = p := by omega
    have m3 : ¬ jd = j1 := by omega
    have m4 : ¬ jd = j2 := by omega
    simp -dsimp -implicitDefEqProofs [-getElem?_pos, go_sem, hP, t3, hp, ltp', t16, wk, hg, lj, m1, m2, m3, m4, nl]
    refine ⟨by omega, by omega, ?_⟩
    refine ⟨l.length - (k + 1), by omega, ?_⟩
    rw [hI]
    refine ⟨k + 1, .sref (s.H.length + 1) 0 (k + 1), by omega, rfl, by simp -dsimp [-getElem?_pos, go_sem]; omega, by simp -dsimp [-getElem?_pos, go_sem, t2], by simp -dsimp [-getElem?_pos, go_sem, t3], by simp -dsimp [-getElem?_pos, go_sem, t14], by simp -dsimp [-getElem?_pos, go_sem, t15], by simp -dsimp [-getElem?_pos, go_sem], ?_, ?_, ?_, ?_, .inr ⟨s.H.length + 1, by omega, ?_, ?_⟩, ?_⟩
    ·simp -dsimp -implicitDefEqProofs [-getElem?_pos, go_sem, lt1, h1, np1, m1]
    ·simp -dsimp -implicitDefEqProofs [-getElem?_pos, go_sem, ltp', m2]
    ·simp -dsimp -implicitDefEqProofs [-getElem?_pos, go_sem, lti', ho1, n1, m3]
    ·simp -dsimp -implicitDefEqProofs [-getElem?_pos, go_sem, ltj', ho2, n2, m4]
    ·rw [e1, List.length_append, nl]; rfl
    ·rw [e1]
     simp -dsimp -implicitDefEqProofs [-getElem?_pos, go_sem]
    ·simp -dsimp -implicitDefEqProofs [-getElem?_pos, go_sem]
     exact (kept_new _ (by omega) (kept_new _ (by omega) hK)).trans (kept_app _ _ _)
  ·have hk : k = l.length := by simp at h; omega
   subst hk
   rw [List.take_length] at hg
   have hc := hg.cellish
   have ltp' : p < s.H.length := by omega
   simp -dsimp -implicitDefEqProofs [-getElem?_pos, go_sem, hP, t3, hp, ltp', t2, h1, lt1, hc]
   rw [hC]
   refine ⟨j1, j2, x, rfl, by omega, by omega, n3, ?_, ?_, ⟨B, by omega, by omega, hg.kept (X := [H.length + 1]) (kept_set _ (by simp) (kept_refl _ _)) (by simp; omega)⟩, kept_new _ (by omega) hK⟩
   ·rw [List.getElem?_set_ne (by omega), ho1]
   ·rw [List.getElem?_set_ne (by omega), ho2]
open Go.PA
open Go.RowKit
def BsfQ (k : Nat) (r : AV) : Prop := ∃ b, r = .tup [iv k, bv b]
set_option maxHeartbeats 1000000 in
theorem bsf_pf (l : List TPayment) (p : TPayment) (k : Nat) (hl : l.length ≤ 1000000) (hk : k ≤ l.length) (hm : ∀ h x, l[h]? = some x → (Bef x p ↔ h < k)) : PFun Tryz.prog none none 173 [paysL l, .agg p.cells, .fn 156 []] (BsfQ k) := by
 refine pfun_intro Tryz.func173 rfl (by simp [Tryz.f173]) (by kernel_rfl) ?_
 intro E hP hr hs hW hN
 have ip := imm_pay p
 simp -dsimp -implicitDefEqProofs [-getElem?_pos, go_sem, hP, cPy]
 obtain ⟨I, hI⟩ : ∃ I : Nat → St → Prop, I = fun m s => ∃ i j : Nat, i ≤ k ∧ k ≤ j ∧ j ≤ l.length ∧ m = j - i ∧ s.t 0 = paysL l ∧ s.t 2 = .fn 156 [] ∧ s.t 4 = .ref 0 0 0 ∧ s.t 8 = iv l.length ∧ s.t 9 = iv i ∧ s.t 10 = iv j ∧ s.H[0]? = some (some ⟨44, 5, [p.cells]⟩) := ⟨_, rfl⟩
 refine aloop0 I (l.length) (by rw [hN]; rfl) ?_ ?_
 ·rw [hI]
  exact ⟨0, l.length, by omega, hk, by omega, rfl, by simp -dsimp [-getElem?_pos, go_sem], by simp -dsimp [-getElem?_pos, go_sem], by simp -dsimp [-getElem?_pos, go_sem], by simp -dsimp [-getElem?_pos, go_sem], by simp -dsimp [-getElem?_pos, go_sem], by simp -dsimp [-getElem?_pos, go_sem], by simp -dsimp [-getElem?_pos, go_sem, cPy]⟩
 intro m s hs'
 rw [hI] at hs'
 obtain ⟨i, j, hi, hj, hjl, hm', t0, t2, t4, t8, t9, t10, hp⟩ := hs'
 have lt0 := (gsI hp)
 simp -dsimp -implicitDefEqProofs [-getElem?_pos, go_sem, hP, t9, t10]
 refine condP (fun h => ?_) (fun h => ?_)
 ·have hij : i < j := by simpa using h
  have w1 := wrap_in ((i : Int) + j) (by omega)
  have wu : IntKind.u64.wrap ((i : Int) + j) = (i : Int) + j := by rw [IntKind.wrap_u64]; omega
  obtain ⟨h, hh⟩ : ∃ h, h = (i + j) / 2 := ⟨_, rfl⟩
  have wh : IntKind.i64.wrap (((i : Int) + j) / 2) = (h : Int) := by rw [wrap_in _ (by omega)]; omega
  obtain ⟨a, ha⟩ : ∃ a, l[h]? = some a := ⟨_, List.getElem?_eq_getElem (by omega)⟩
  have hcmp := hm h a ha
  have w2 := wrap_in ((h : Int) + 1) (by omega)
  have ia := imm_pay a
  have cm := bcompare_pf a p
  rw [cPy, cPy] at cm
  rw [cPy] at ia ip
  simp -dsimp -implicitDefEqProofs [-getElem?_pos, go_sem, hP, t9, t10, w1, wu, aconv, aint_shr, wh]
  refine adrawB (fun _ => true) [] hP (by kernel_rfl) (by kernel_rfl) ?_
  simp -dsimp -implicitDefEqProofs [-getElem?_pos, go_sem, hP, t0, t2, t4, ha, hp, lt0, cPy]
  refine callB_is (cm.lift _ _) hP en_156 (by simpa using ⟨ia, ip⟩) .sc ?_
  by_cases c : Bef a p
  ·have c1 : decide (cmpP a p < 0) = true := decide_eq_true (cmpP_lt.2 c)
   simp -dsimp -implicitDefEqProofs [-getElem?_pos, go_sem, hP, c1, w2]
   refine ⟨j - (h + 1), by omega, ?_⟩
   rw [hI]
   exact ⟨h + 1, j, by have := hcmp.1 c; omega, by omega, by omega, rfl, by simp -dsimp [-getElem?_pos, go_sem, t0], by simp -dsimp [-getElem?_pos, go_sem, t2], by simp -dsimp [-getElem?_pos, go_sem, t4], by simp -dsimp [-getElem?_pos, go_sem, t8], by simp -dsimp [-getElem?_pos, go_sem], by simp -dsimp [-getElem?_pos, go_sem, t10], by simp -dsimp [-getElem?_pos, go_sem, hp]⟩
  ·have c1 : decide (cmpP a p < 0) = false := decide_eq_false (mt cmpP_lt.1 c)
   simp -dsimp -implicitDefEqProofs [-getElem?_pos, go_sem, hP, c1]
   refine ⟨h - i, by omega, ?_⟩
   rw [hI]
   exact ⟨i, h, by omega, by have := mt hcmp.2 c; omega, by omega, rfl, by simp -dsimp [-getElem?_pos, go_sem, t0], by simp -dsimp [-getElem?_pos, go_sem, t2], by simp -dsimp [-getElem?_pos, go_sem, t4], by simp -dsimp [-getElem?_pos, go_sem, t8], by simp -dsimp [-getElem?_pos, go_sem, t9], by simp -dsimp [-getElem?_pos, go_sem], by simp -dsimp [-getElem?_pos, go_sem, hp]⟩
 ·have hik : i = k := by
   have : ¬ i < j := by simpa using h
   omega
  subst hik
  simp -dsimp -implicitDefEqProofs [-getElem?_pos, go_sem, hP]
  refine adrawB (fun _ => true) [] hP (by kernel_rfl) (by kernel_rfl) ?_
  by_cases c : i < l.length
  ·obtain ⟨a, ha⟩ : ∃ a, l[i]? = some a := ⟨_, List.getElem?_eq_getElem c⟩
   have d : decide ((i : Int) < (l.length : Int)) = true := decide_eq_true (by omega)
   have ia := imm_pay a
   have cm := bcompare_pf a p
   rw [cPy, cPy] at cm
   rw [cPy] at ia ip
   simp -dsimp -implicitDefEqProofs [-getElem?_pos, go_sem, hP, t9, t8, c, d, t0, t2, t4, ha, hp, lt0, cPy]
   refine callB_is (cm.lift _ _) hP en_156 (by simpa using ⟨ia, ip⟩) .sc ?_
   simp -dsimp -implicitDefEqProofs [-getElem?_pos, go_sem, hP, t9, t8, c, d, t0, t2, t4, ha, hp, lt0, cPy]
   exact done_imm (imm_pair .sc .sc) ⟨_, rfl⟩
  ·have d : decide ((i : Int) < (l.length : Int)) = false := decide_eq_false (by omega)
   simp -dsimp -implicitDefEqProofs [-getElem?_pos, go_sem, hP, t9, t8, c, d]
   exact done_imm (imm_pair .sc .sc) ⟨_, rfl⟩
theorem ins_place {l : List TPayment} {p : TPayment} (hl : l.Pairwise Bef) : ∃ k, k ≤ l.length ∧ (∀ h x, l[h]? = some x → (Bef x p ↔ h < k)) ∧ ins befB l p = l.take k ++ p :: l.drop k := by
 obtain ⟨A, B, rfl, h2, h3, h4⟩ := ins_split befB l p
 refine ⟨A.length, by simp, fun h x hx => ?_, by rw [h2]; simp⟩
 by_cases c : h < A.length
 ·rw [List.getElem?_append_left c] at hx
  exact ⟨fun _ => c, fun _ => befB_iff.1 (h3 x (List.mem_of_getElem? hx))⟩
 ·refine ⟨fun hb => absurd hb ?_, fun hc => absurd hc c⟩
  rw [List.getElem?_append_right (by omega)] at hx
  have hx := List.mem_of_getElem? hx
  obtain ⟨_, p2, _⟩ := List.pairwise_append.1 hl
  cases B with
  | nil => cases hx
  | cons b B =>
   have hb : ¬ Bef b p := fun e => by
    have := h4 b rfl
    rw [befB_iff.2 e] at this
    cases this
   rcases List.mem_cons.1 hx with rfl | hx
   ·exact hb
   ·exact fun e => hb ((List.rel_of_pairwise_cons p2 hx).trans e)
theorem ins_placeK {l : List Int} {p : Int} (hl : l.Pairwise (· < ·)) : ∃ k, k ≤ l.length ∧ (∀ h x, l[h]? = some x → (x < p ↔ h < k)) ∧ ins ltB l p = l.take k ++ p :: l.drop k ∧ (l[k]? = some p ↔ p ∈ l) := by
 obtain ⟨A, B, rfl, h2, h3, h4⟩ := ins_split ltB l p
 have hB : ∀ x, x ∈ B → ¬ x < p := by
  obtain ⟨_, p2, _⟩ := List.pairwise_append.1 hl
  cases B with
  | nil => simp
  | cons b B =>
   have hb : ¬ b < p := fun e => by
    have := h4 b rfl
    rw [(ltB_lt b p).2 e] at this
    cases this
   intro x hx
   rcases List.mem_cons.1 hx with rfl | hx
   ·exact hb
   ·have := List.rel_of_pairwise_cons p2 hx
    omega
 refine ⟨A.length, by simp, fun h x hx => ?_, by rw [h2]; simp, ?_⟩
 ·by_cases c : h < A.length
  ·rw [List.getElem?_append_left c] at hx
   exact ⟨fun _ => c, fun _ => (ltB_lt _ _).1 (h3 x (List.mem_of_getElem? hx))⟩
  ·rw [List.getElem?_append_right (by omega)] at hx
   exact ⟨fun hb => absurd hb (hB x (List.mem_of_getElem? hx)), fun hc => absurd hc c⟩
 ·rw [List.getElem?_append_right (Nat.le_refl _), Nat.sub_self]
  constructor
  ·exact fun h => List.mem_append.2 (.inr (List.mem_of_getElem? h))
  ·intro h
   rcases List.mem_append.1 h with h | h
   ·exact absurd ((ltB_lt _ _).1 (h3 p h)) (by omega)
   ·cases B with
    | nil => cases h
    | cons b B =>
     obtain ⟨_, p2, _⟩ := List.pairwise_append.1 hl
     rcases List.mem_cons.1 h with rfl | h
     ·rfl
     ·have h1 := List.rel_of_pairwise_cons p2 h
      exact absurd h1 (hB b (by simp))
open Go.PA
open Go.RowKit
set_option maxHeartbeats 1000000 in
theorem bwait_m {row src : Option Nat} (l : List TPayment) (p : TPayment) (id : Nat) (y z : AV) (H : Heap) (hl : l.length ≤ 100000) (hs0 : l.Pairwise Bef) (ho : H[id]? = some (some ⟨44, 5, encL TPayment.cells l⟩)) (cy : y.cellish = true) (cz : z.cellish = true) :
  MFun Tryz.prog row src 137 [.agg [.sref id 0 l.length, y, z], .agg p.cells] H (fun r H' => ∃ jd, r = .agg [.sref jd 0 (l.length + 1), y, z] ∧ (jd = id ∨ H.length ≤ jd) ∧ H'[jd]? = some (some ⟨44, 5, encL TPayment.cells (ins befB l p)⟩) ∧ Kept [id] H H') := by
 obtain ⟨C, hC⟩ : ∃ C : AV → Heap → Prop, C = fun r H' => ∃ jd, r = .agg [.sref jd 0 (l.length + 1), y, z] ∧ (jd = id ∨ H.length ≤ jd) ∧ H'[jd]? = some (some ⟨44, 5, encL TPayment.cells (ins befB l p)⟩) ∧ Kept [id] H H' := ⟨_, rfl⟩
 rw [← hC]
 have ex : ∃ r H', C r H' := ⟨.agg [.sref H.length 0 (l.length + 1), y, z], H ++ [some ⟨44, 5, encL TPayment.cells (ins befB l p)⟩], by
  rw [hC]
  exact ⟨H.length, rfl, .inr (Nat.le_refl _), by simp, kept_app _ _ _⟩⟩
 obtain ⟨k, hk, hm, hi⟩ := ins_place (p := p) hs0
 refine mfun_intro Tryz.func137 rfl (by simp [Tryz.f137]) (by kernel_rfl) (ex) ?_
 intro E hP hr hs hN
 have ip := imm_pay p
 have il := imm_pays l
 have lid := (gsI ho)
 rw [cPy] at ip
 simp -dsimp -implicitDefEqProofs [-getElem?_pos, go_sem, hP, cPy, cy, cz]
 obtain ⟨H1, hH1⟩ : ∃ H1 : Heap, H1 = H ++ [some ⟨32, 3, [[.sref id 0 l.length, y, z]]⟩, some ⟨44, 5, [[iv p.Warrant, iv p.Payee, iv p.Amount, iv p.Due, iv p.Sub]]⟩, some ⟨32, 3, [[.nil, .nil, .nil]]⟩] := ⟨_, rfl⟩
 have l1 : H1.length = H.length + 3 := by rw [hH1]; simp
 have k1 : Kept [] H H1 := by rw [hH1]; exact kept_app _ _ _
 have a0 : H1[H.length]? = some (some ⟨32, 3, [[.sref id 0 l.length, y, z]]⟩) := by rw [hH1]; simp
 have a1 : H1[H.length + 1]? = some (some ⟨44, 5, [[iv p.Warrant, iv p.Payee, iv p.Amount, iv p.Due, iv p.Sub]]⟩) := by rw [hH1, List.getElem?_append_right (by omega)]; simp
 have a2 : H1[H.length + 2]? = some (some ⟨32, 3, [[.nil, .nil, .nil]]⟩) := by rw [hH1, List.getElem?_append_right (by omega)]; simp
 have aid := k1 _ _ (by simp) ho
 simp only [← hH1]
 refine callB_flat ((bsf_pf l p k (by omega) hk hm).lift _ _) hP en_173 (args_sref aid (by rw [encL_len]) il (args_imm ip (args_fnc rfl (by simp) (args_nil.2 trivial)))) ⟨_, true, rfl⟩ (by rintro r ⟨b, rfl⟩; simp [flat_tup, flat_sc]) ?_
 rintro r ⟨b, rfl⟩
 simp -dsimp -implicitDefEqProofs [-getElem?_pos, go_sem, hP, a0, a1, l1]
 have insm := fun {row src : Option Nat} => insert_m_pay (row := row) (src := src) (encL TPayment.cells l) [iv p.Warrant, iv p.Payee, iv p.Amount, iv p.Due, iv p.Sub] k id H1 (by rw [encL_len]; exact hk) (by rw [encL_len]; omega) aid (by simp)
 rw [encL_len] at insm
 refine callB_m (by rw [hr, hs]; exact insm) hP en_174 ?_
 rintro r H3 ⟨jd, rfl, hjd, hoj, hk3⟩
 have c0 := hk3 _ _ (by simp; omega) a0
 have c2 := hk3 _ _ (by simp; omega) a2
 have lt0 := (gsI c0)
 have lt2 := (gsI c2)
 have n02 : ¬ H.length = H.length + 2 := by omega
 simp -dsimp -implicitDefEqProofs [-getElem?_pos, go_sem, hP, c0, lt0, c2, lt2, cy, cz]
 rw [hC]
 have ei : (encL TPayment.cells l).take k ++ [iv p.Warrant, iv p.Payee, iv p.Amount, iv p.Due, iv p.Sub] :: (encL TPayment.cells l).drop k = encL TPayment.cells (ins befB l p) := by
  rw [hi, encL_takeE, encL_dropE]
  simp [encL, cPy]
 refine ⟨jd, rfl, ?_, ?_, ?_⟩
 ·omega
 ·rw [List.getElem?_set_ne (by omega), List.getElem?_set_ne (by omega), hoj, ei]
 ·refine kept_new _ (by omega) ?_
  refine kept_new _ (by omega) ?_
  exact (k1.mono (by simp)).trans hk3
open Go.PA
open Go.RowKit
theorem cw_zeroQ {H : Heap} : CW H [.nil, .nil, .nil] zeroQ.cells := cw_nil (cw_nil (cw_nil .nil))
theorem done_zeroQ {H : Heap} {n : Int} {Q : AV → Prop} {b : Bx Q} (h : Q (.tup [.agg zeroQ.cells, iv n])) : Done H (.tup [.agg [.nil, .nil, .nil], iv n]) Q b := done_agg2 cw_zeroQ h
theorem intRows_take (l : List Int) (k : Nat) : (intRows l).take k = intRows (l.take k) := by simp [intRows, List.map_take]
theorem intRows_drop (l : List Int) (k : Nat) : (intRows l).drop k = intRows (l.drop k) := by simp [intRows, List.map_drop]
set_option maxHeartbeats 1000000 in
theorem badd_pf (q : TQueue) (p : TPayment) (hf : FitQ q) : PFun Tryz.prog none none 69 [.agg q.cells, .agg p.cells] (· = .tup [.agg (addQ q p).1.cells, iv (addQ q p).2]) := by
 refine pfun_intro Tryz.func69 rfl (by simp [Tryz.f69]) (by kernel_rfl) ?_
 intro E hP hr hs hW hN
 have ck := bcheck_pf q hf
 have iq := imm_que q
 have ipp := imm_pay p
 have ip := imm_pays q.Waiting
 have i2 := imm_ints q.Known
 have i3 := imm_bats q.Batches
 rw [cQu] at ck iq
 rw [cPy] at ipp
 simp only [intsL] at i2 ck iq
 simp -dsimp -implicitDefEqProofs [-getElem?_pos, go_sem, hP, cQu, cPy, intsL]
 refine callB_is (ck.lift _ _) hP en_53 (by simpa using iq) .sc ?_
 by_cases c1 : checkQ q = 0
 rotate_left
 ·have : addQ q p = (zeroQ, checkQ q) := by rw [addQ, if_neg c1]
  simp -dsimp -implicitDefEqProofs [-getElem?_pos, go_sem, hP, c1]
  refine done_zeroQ ?_
  rw [this]
 have hq := checkQ_iff.1 c1
 obtain ⟨k, hk, hm, hi, hin⟩ := ins_placeK (p := p.Warrant) hq.ks
 have bs := bsearch_pf q.Known p.Warrant k (by have := hf.k; omega) hk hm
 simp only [intsL] at bs
 have py := bpay_pf p
 rw [cPy] at py
 simp -dsimp -implicitDefEqProofs [-getElem?_pos, go_sem, hP, c1]
 refine callB_is (bs.lift _ _) hP en_136 (by simpa [imm_sc] using i2) (imm_pair .sc .sc) ?_
 simp -dsimp -implicitDefEqProofs [-getElem?_pos, go_sem, hP]
 refine callB_is (py.lift _ _) hP en_116 (by simpa using ipp) .sc ?_
 cases c2 : payB p
 ·have : addQ q p = (zeroQ, 64) := by rw [addQ, if_pos c1, if_neg (by simp [c2])]
  simp -dsimp -implicitDefEqProofs [-getElem?_pos, go_sem, hP, c2]
  refine done_zeroQ ?_
  rw [this]
 by_cases c3 : p.Warrant ∈ q.Known
 ·have d3 : decide (q.Known[k]? = some p.Warrant) = true := decide_eq_true (hin.2 c3)
  have : addQ q p = (zeroQ, 65) := by rw [addQ, if_pos c1, if_pos c2, if_pos c3]
  simp -dsimp -implicitDefEqProofs [-getElem?_pos, go_sem, hP, c2, d3, hin.2 c3]
  refine done_zeroQ ?_
  rw [this]
 have d3 : decide (q.Known[k]? = some p.Warrant) = false := decide_eq_false (mt hin.1 c3)
 by_cases c4 : q.Waiting.length = 100
 ·have d4 : decide ((q.Waiting.length : Int) = 100) = true := decide_eq_true (by omega)
  have : addQ q p = (zeroQ, 3) := by rw [addQ, if_pos c1, if_pos c2, if_neg c3, if_pos (.inl c4)]
  simp -dsimp -implicitDefEqProofs [-getElem?_pos, go_sem, hP, c2, d3, d4, mt hin.1 c3]
  refine done_zeroQ ?_
  rw [this]
 have d4 : decide ((q.Waiting.length : Int) = 100) = false := decide_eq_false (by omega)
 by_cases c5 : q.Known.length = 200
 ·have d5 : decide ((q.Known.length : Int) = 200) = true := decide_eq_true (by omega)
  have : addQ q p = (zeroQ, 3) := by rw [addQ, if_pos c1, if_pos c2, if_neg c3, if_pos (.inr c5)]
  simp -dsimp -implicitDefEqProofs [-getElem?_pos, go_sem, hP, c2, d3, d4, d5, mt hin.1 c3]
  refine done_zeroQ ?_
  rw [this]
 have d5 : decide ((q.Known.length : Int) = 200) = false := decide_eq_false (by omega)
 have hadd : addQ q p = (⟨ins befB q.Waiting p, ins ltB q.Known p.Warrant, q.Batches⟩, 0) := by rw [addQ, if_pos c1, if_pos c2, if_neg c3, if_neg (by omega)]
 rw [hadd]
 simp -dsimp -implicitDefEqProofs [-getElem?_pos, go_sem, hP, c2, d3, d4, d5, mt hin.1 c3]
 obtain ⟨H2, hH2⟩ : ∃ H2 : Heap, H2 = [some ⟨32, 3, [[paysL q.Waiting, .list 1 (q.Known.map fun x => [iv x]), batsL q.Batches]]⟩, some ⟨44, 5, [[iv p.Warrant, iv p.Payee, iv p.Amount, iv p.Due, iv p.Sub]]⟩, some ⟨32, 3, [[.nil, .nil, .nil]]⟩] := ⟨_, rfl⟩
 have b0 : H2[0]? = some (some ⟨32, 3, [[paysL q.Waiting, .list 1 (q.Known.map fun x => [iv x]), batsL q.Batches]]⟩) := by rw [hH2]; rfl
 have b1 : H2[1]? = some (some ⟨44, 5, [[iv p.Warrant, iv p.Payee, iv p.Amount, iv p.Due, iv p.Sub]]⟩) := by rw [hH2]; rfl
 have b2 : H2[2]? = some (some ⟨32, 3, [[.nil, .nil, .nil]]⟩) := by rw [hH2]; rfl
 have l2 : H2.length = 3 := by rw [hH2]; rfl
 simp only [← hH2]
 have D : ∀ i, decide (i < 3) = true → i = 0 ∨ i = 1 ∨ i = 2 := fun i hi => by
  simp only [decide_eq_true_eq] at hi
  omega
 refine adrawB (fun i => decide (i < 3)) [4] hP (by kernel_rfl) (by kernel_rfl) ?_
 simp -dsimp -implicitDefEqProofs [-getElem?_pos, go_sem, hP, b0, l2]
 refine callB_m (by rw [hr, hs]; exact bcopy_m q H2 hf) hP en_123 ?_
 rintro r H3 ⟨j1, j2, x, rfl, hj1, hj2, n12, o1, o2, ⟨B, hB1, hB2, hg⟩, hk3⟩
 have e0 := hk3 _ _ (by simp) b0
 have e1 := hk3 _ _ (by simp) b1
 have e2 := hk3 _ _ (by simp) b2
 have g0 := (gsI e0)
 have g1 := (gsI e1)
 have g2 := (gsI e2)
 have t1 := (gsI o1)
 have t2 := (gsI o2)
 have hc := hg.cellish
 simp -dsimp -implicitDefEqProofs [-getElem?_pos, go_sem, hP, e1, g1]
 refine ⟨agree_live hk3 fun i hi => ⟨by simp, ?_⟩, ?_⟩
 ·rcases D i hi with rfl | rfl | rfl
  ·exact ⟨_, b0⟩
  ·exact ⟨_, b1⟩
  ·exact ⟨_, b2⟩
 have wm := fun {row src : Option Nat} => bwait_m (row := row) (src := src) q.Waiting p j1 (.sref j2 0 q.Known.length) x H3 (by have := hq.lw; omega) hq.asc.ord o1 rfl hc
 rw [cPy] at wm
 refine callB_m (by rw [hr, hs]; exact wm) hP en_137 ?_
 rintro r H4 ⟨jd, rfl, hjd, oj, hk4⟩
 have f0 := hk4 _ _ (by simp; omega) e0
 have f1 := hk4 _ _ (by simp; omega) e1
 have f2 := hk4 _ _ (by simp; omega) e2
 have p2 := hk4 _ _ (by simp; omega) o2
 have s0 := (gsI f0)
 have s1 := (gsI f1)
 have s2 := (gsI f2)
 have sj := (gsI oj)
 have sj2 := (gsI p2)
 have hg4 := hg.kept hk4 (by simp; omega)
 refine ⟨fun _ => agree_live hk4 fun i hi => ⟨by simp only [List.mem_singleton]; rcases D i hi with rfl | rfl | rfl <;> omega, ?_⟩, ?_⟩
 ·rcases D i hi with rfl | rfl | rfl
  ·exact ⟨_, e0⟩
  ·exact ⟨_, e1⟩
  ·exact ⟨_, e2⟩
 simp -dsimp -implicitDefEqProofs [-getElem?_pos, go_sem, hP, f0, s0, hc, f1, s1]
 generalize hH5 : List.set H4 0 _ = H5
 have l5 : H5.length = H4.length := by rw [← hH5]; simp
 have v0 : H5[0]? = some (some ⟨32, 3, [[.sref jd 0 (q.Waiting.length + 1), .sref j2 0 q.Known.length, x]]⟩) := by rw [← hH5, List.getElem?_set_self s0]
 have v1 : H5[1]? = H4[1]? := by rw [← hH5, List.getElem?_set_ne (by omega)]
 have v2 : H5[2]? = H4[2]? := by rw [← hH5, List.getElem?_set_ne (by omega)]
 have vj : H5[jd]? = H4[jd]? := by rw [← hH5, List.getElem?_set_ne (by omega)]
 have vj2 : H5[j2]? = H4[j2]? := by rw [← hH5, List.getElem?_set_ne (by omega)]
 rw [f1] at v1
 rw [f2] at v2
 rw [oj] at vj
 rw [p2] at vj2
 have k5 : Kept [0] H4 H5 := by rw [← hH5]; exact kept_set _ (by simp) (kept_refl _ _)
 have hg5 := hg4.kept k5 (by simp; omega)
 have insm := fun {row src : Option Nat} => insert_m_int (row := row) (src := src) (intRows q.Known) [iv p.Warrant] k j2 H5 (by rw [intRows_len]; exact hk) (by rw [intRows_len]; have := hf.k; omega) vj2 (by simp)
 rw [intRows_len, intRows_take, intRows_drop] at insm
 refine callB_m (by rw [hr, hs]; exact insm) hP en_138 ?_
 rintro r H6 ⟨jk, rfl, hjk, ok, hk6⟩
 have w0 := hk6 _ _ (by simp; omega) v0
 have w2 := hk6 _ _ (by simp; omega) v2
 have wj := hk6 _ _ (by simp; omega) vj
 have hg6 := hg5.kept hk6 (by simp; omega)
 have x0 := (gsI w0)
 have x2 := (gsI w2)
 simp -dsimp -implicitDefEqProofs [-getElem?_pos, go_sem, hP, w0, w2, x0, x2, hc]
 have ei : intRows (q.Known.take k) ++ [iv p.Warrant] :: intRows (q.Known.drop k) = intRows (ins ltB q.Known p.Warrant) := by rw [hi]; simp [intRows]
 rw [ei] at ok
 refine done_agg2 (cs' := (TQueue.mk (ins befB q.Waiting p) (ins ltB q.Known p.Warrant) q.Batches).cells) ?_ rfl
 refine cw_sref (ty := 44) ?_ (by rw [encL_len, ins_len]) (imm_pays _) (cw_sref (ty := 3) (es := intRows (ins ltB q.Known p.Warrant)) ?_ (by rw [intRows_len, ins_len]) (imm_ints _) (((hg6.kept (X := [0]) (kept_set _ (by simp) (kept_refl _ _)) (by simp; omega)).kept (X := [2]) (kept_set _ (by simp) (kept_refl _ _)) (by simp; omega)).cw (imm_bats _) .nil))
 ·rw [List.getElem?_set_ne (by omega), List.getElem?_set_ne (by omega), wj]
 ·rw [List.getElem?_set_ne (by omega), List.getElem?_set_ne (by omega), ok]
set_option maxHeartbeats 1000000 in
theorem bagain_pf (q : TQueue) (p : TPayment) (hf : FitQ q) : PFun Tryz.prog none none 76 [.agg q.cells, .agg p.cells] (· = .tup [.agg (againQ q p).1.cells, iv (againQ q p).2]) := by
 refine pfun_intro Tryz.func76 rfl (by simp [Tryz.f76]) (by kernel_rfl) ?_
 intro E hP hr hs hW hN
 have ck := bcheck_pf q hf
 have iq := imm_que q
 have ipp := imm_pay p
 have ip := imm_pays q.Waiting
 have i2 := imm_ints q.Known
 have i3 := imm_bats q.Batches
 have ct := containsInt_pf q.Known p.Warrant (by have := hf.k; omega)
 have wt := bwaits_pf q p.Warrant (by have := hf.w; omega)
 have py := bpay_pf p
 rw [cPy] at py
 rw [cQu] at ck iq wt
 rw [cPy] at ipp
 simp only [intsL] at i2 ck iq ct wt
 simp -dsimp -implicitDefEqProofs [-getElem?_pos, go_sem, hP, cQu, cPy, intsL]
 refine callB_is (ck.lift _ _) hP en_53 (by simpa using iq) .sc ?_
 by_cases c1 : checkQ q = 0
 rotate_left
 ·have : againQ q p = (zeroQ, checkQ q) := by rw [againQ, if_neg c1]
  simp -dsimp -implicitDefEqProofs [-getElem?_pos, go_sem, hP, c1]
  refine done_zeroQ ?_
  rw [this]
 have hq := checkQ_iff.1 c1
 simp -dsimp -implicitDefEqProofs [-getElem?_pos, go_sem, hP, c1]
 refine callB_is (py.lift _ _) hP en_116 (by simpa using ipp) .sc ?_
 cases c2 : payB p
 ·have : againQ q p = (zeroQ, 64) := by rw [againQ, if_pos c1, if_neg (by simp [c2])]
  simp -dsimp -implicitDefEqProofs [-getElem?_pos, go_sem, hP, c2]
  refine done_zeroQ ?_
  rw [this]
 simp -dsimp -implicitDefEqProofs [-getElem?_pos, go_sem, hP, c2]
 refine callB_is (ct.lift _ _) hP en_131 (by simpa [imm_sc] using i2) .sc ?_
 by_cases c3 : p.Warrant ∈ q.Known
 rotate_left
 ·have : againQ q p = (zeroQ, 6) := by rw [againQ, if_pos c1, if_pos c2, if_neg c3]
  simp -dsimp -implicitDefEqProofs [-getElem?_pos, go_sem, hP, c2, c3]
  refine done_zeroQ ?_
  rw [this]
 simp -dsimp -implicitDefEqProofs [-getElem?_pos, go_sem, hP, c2, c3]
 refine callB_is (wt.lift _ _) hP en_143 (by simpa [imm_sc] using iq) .sc ?_
 by_cases c4 : 0 ≤ waitQ q p.Warrant
 ·have d4 : decide (0 ≤ waitQ q p.Warrant) = true := decide_eq_true c4
  have : againQ q p = (zeroQ, 65) := by rw [againQ, if_pos c1, if_pos c2, if_pos c3, if_pos c4]
  simp -dsimp -implicitDefEqProofs [-getElem?_pos, go_sem, hP, d4]
  refine done_zeroQ ?_
  rw [this]
 have d4 : decide (0 ≤ waitQ q p.Warrant) = false := decide_eq_false c4
 by_cases c5 : q.Waiting.length = 100
 ·have d5 : decide ((q.Waiting.length : Int) = 100) = true := decide_eq_true (by omega)
  have : againQ q p = (zeroQ, 3) := by rw [againQ, if_pos c1, if_pos c2, if_pos c3, if_neg c4, if_pos c5]
  simp -dsimp -implicitDefEqProofs [-getElem?_pos, go_sem, hP, d4, d5]
  refine done_zeroQ ?_
  rw [this]
 have d5 : decide ((q.Waiting.length : Int) = 100) = false := decide_eq_false (by omega)
 have hag : againQ q p = (⟨ins befB q.Waiting p, q.Known, q.Batches⟩, 0) := by rw [againQ, if_pos c1, if_pos c2, if_pos c3, if_neg c4, if_neg c5]
 rw [hag]
 simp -dsimp -implicitDefEqProofs [-getElem?_pos, go_sem, hP, d4, d5]
 obtain ⟨H2, hH2⟩ : ∃ H2 : Heap, H2 = [some ⟨32, 3, [[paysL q.Waiting, .list 1 (q.Known.map fun x => [iv x]), batsL q.Batches]]⟩, some ⟨44, 5, [[iv p.Warrant, iv p.Payee, iv p.Amount, iv p.Due, iv p.Sub]]⟩, some ⟨32, 3, [[.nil, .nil, .nil]]⟩] := ⟨_, rfl⟩
 have b0 : H2[0]? = some (some ⟨32, 3, [[paysL q.Waiting, .list 1 (q.Known.map fun x => [iv x]), batsL q.Batches]]⟩) := by rw [hH2]; rfl
 have b1 : H2[1]? = some (some ⟨44, 5, [[iv p.Warrant, iv p.Payee, iv p.Amount, iv p.Due, iv p.Sub]]⟩) := by rw [hH2]; rfl
 have b2 : H2[2]? = some (some ⟨32, 3, [[.nil, .nil, .nil]]⟩) := by rw [hH2]; rfl
 have l2 : H2.length = 3 := by rw [hH2]; rfl
 simp only [← hH2]
 have D : ∀ i, decide (i < 3) = true → i = 0 ∨ i = 1 ∨ i = 2 := fun i hi => by
  simp only [decide_eq_true_eq] at hi
  omega
 refine adrawB (fun i => decide (i < 3)) [4] hP (by kernel_rfl) (by kernel_rfl) ?_
 simp -dsimp -implicitDefEqProofs [-getElem?_pos, go_sem, hP, b0, l2]
 refine callB_m (by rw [hr, hs]; exact bcopy_m q H2 hf) hP en_123 ?_
 rintro r H3 ⟨j1, j2, x, rfl, hj1, hj2, n12, o1, o2, ⟨B, hB1, hB2, hg⟩, hk3⟩
 have e0 := hk3 _ _ (by simp) b0
 have e1 := hk3 _ _ (by simp) b1
 have e2 := hk3 _ _ (by simp) b2
 have g0 := (gsI e0)
 have g1 := (gsI e1)
 have g2 := (gsI e2)
 have t1 := (gsI o1)
 have t2 := (gsI o2)
 have hc := hg.cellish
 simp -dsimp -implicitDefEqProofs [-getElem?_pos, go_sem, hP, e1, g1]
 refine ⟨agree_live hk3 fun i hi => ⟨by simp, ?_⟩, ?_⟩
 ·rcases D i hi with rfl | rfl | rfl
  ·exact ⟨_, b0⟩
  ·exact ⟨_, b1⟩
  ·exact ⟨_, b2⟩
 have wm := fun {row src : Option Nat} => bwait_m (row := row) (src := src) q.Waiting p j1 (.sref j2 0 q.Known.length) x H3 (by have := hq.lw; omega) hq.asc.ord o1 rfl hc
 rw [cPy] at wm
 refine callB_m (by rw [hr, hs]; exact wm) hP en_137 ?_
 rintro r H4 ⟨jd, rfl, hjd, oj, hk4⟩
 have f0 := hk4 _ _ (by simp; omega) e0
 have f1 := hk4 _ _ (by simp; omega) e1
 have f2 := hk4 _ _ (by simp; omega) e2
 have p2 := hk4 _ _ (by simp; omega) o2
 have s2 := (gsI f2)
 have hg4 := hg.kept hk4 (by simp; omega)
 refine ⟨fun _ => agree_live hk4 fun i hi => ⟨by simp only [List.mem_singleton]; rcases D i hi with rfl | rfl | rfl <;> omega, ?_⟩, ?_⟩
 ·rcases D i hi with rfl | rfl | rfl
  ·exact ⟨_, e0⟩
  ·exact ⟨_, e1⟩
  ·exact ⟨_, e2⟩
 simp -dsimp -implicitDefEqProofs [-getElem?_pos, go_sem, hP, f2, s2, hc]
 refine done_agg2 (cs' := (TQueue.mk (ins befB q.Waiting p) q.Known q.Batches).cells) ?_ rfl
 refine cw_sref (ty := 44) ?_ (by rw [encL_len, ins_len]) (imm_pays _) (cw_sref (ty := 3) (es := intRows q.Known) ?_ (by rw [intRows_len]) (imm_ints _) ((hg4.kept (X := [2]) (kept_set _ (by simp) (kept_refl _ _)) (by simp; omega)).cw (imm_bats _) .nil))
 ·rw [List.getElem?_set_ne (by omega), oj]
 ·rw [List.getElem?_set_ne (by omega), p2]
end Go.Proofs.YtmpncdlhmknkoaaGreat
namespace Go.PA
open Go.RowKit
section
variable {E : Env}
theorem iref_sound {w : World} {ρ : Places} {H : Heap} {ok : Nat → Prop} (X : Nat → Prop) (g : Good E w ρ H ok) {v : Value} {id i j : Nat} {cs : List AV} (hra : Rep w ρ H ok v (.ref id i j)) (has : addrCells H (.ref id i j) = some cs) (him : ∀ c, c ∈ cs → Imm c) (hX : X id) : RepI w (okX X ρ H ok) v (.iref cs) := by
 obtain ⟨o, b, cap, ho, hρ, hcap, rfl⟩ := rep_live_ref hra has
 obtain ⟨ad, he, f', hf⟩ := addr_sound g hra has
 simp only [Value.pointer.injEq, Option.some.injEq] at he
 subst he
 exact .iref f' (.inr ⟨id, o, cap, hX, ho, hρ⟩) (fun j a hj => (hf j a hj).1) (fun j a hj => (hf j a hj).2.1) (fun j a hj => (hf j a hj).2.2.imm (fun _ h => .inl h) (him a (List.mem_of_getElem? hj)))
theorem weaker_iref {s : St} (j : Nat) {id : Nat} {cs : List AV} (hW : ∀ b, ¬ E.W b) (ht : s.t j = .ref id 0 0) (has : addrCells s.H (.ref id 0 0) = some cs) (him : ∀ c, c ∈ cs → Imm c) : Weaker E s ⟨upd s.t j (.iref cs), s.H.set id none⟩ := by
 rintro a w ⟨ρ, ok, g, hx, hd, hs, hr⟩
 obtain ⟨ok', g1, x1, hok⟩ := g.freeze [id] hW
 refine ⟨ρ, ok', g1, hx.trans x1, hd, hs, fun i => ?_⟩
 simp only [upd]
 split
 ·rename_i hi
  have hri := hr i
  rw [hi, ht] at hri
  rw [hi]
  exact Rep.imm (iref_sound (· ∈ [id]) g hri has him (by simp)) hok (imm_iref.2 him)
 ·exact (hr i).ext x1
theorem weaker_frzcell {s : St} {o id ty k ty' kk n r c : Nat} {es fs : List (List AV)} {e : List AV} (hW : ∀ b, ¬ E.W b) (ho : s.H[o]? = some (some ⟨ty, k, es⟩)) (hk : k ≠ 2) (he : es[r]? = some e) (hc : e[c]? = some (.sref id 0 n))
  (hid : s.H[id]? = some (some ⟨ty', kk, fs⟩)) (hn : n = fs.length) (hi : Imm (.list kk fs)) (hne : o ≠ id) : Weaker E s ⟨s.t, (s.H.set id none).set o (some ⟨ty, k, es.set r (e.set c (.list kk fs))⟩)⟩ := by
 rintro a w ⟨ρ, ok, g, hx, hd, hs, hr⟩
 obtain ⟨ok', g1, x1, hok⟩ := g.freeze [id] hW
 have g1 : Good E w ρ (s.H.set id none) ok' := g1
 have x1 : Ext w ρ s.H ok w ρ (s.H.set id none) ok' := x1
 have ho1 : (s.H.set id none)[o]? = some (some ⟨ty, k, es⟩) := by rw [List.getElem?_set_ne (Ne.symm hne)]; exact ho
 have hobj := g.obj o _ ho
 have hlen := g.len o _ ho
 have hmem := List.mem_of_getElem? he
 have hv : view1 s.H (.sref id 0 n) = .list kk fs := by
  simp only [view1, hid, List.drop_zero]
  rw [hn, List.take_length]
 cases hρ : ρ o with
 | none =>
  rw [hρ] at hobj
  have : es = [] := hobj
  rw [this] at he
  cases he
 | some bc =>
  obtain ⟨b, cap⟩ := bc
  rw [hρ] at hobj
  rcases hobj with ⟨cur, h1, h2, h3, h4, h5⟩ | ⟨_, hk', _⟩ | ⟨_, hk', hit⟩
  ·obtain ⟨g', x'⟩ := g1.change (w' := w) ho1 hρ ⟨ty, k, es.set r (e.set c (.list kk fs))⟩ rfl (by simp) (fun e' he' => by
    rcases List.mem_or_eq_of_mem_set he' with he' | rfl
    ·exact hlen e' he'
    ·rw [List.length_set]; exact hlen e hmem) rfl rfl rfl rfl (fun _ _ => rfl) fun hx' => .inl ⟨cur, h1, h2, by simpa using h3, h4, fun i e' j a' hie hja => by
     by_cases hir : i = r
     ·subst hir
      have hil := (gsI he)
      rw [List.getElem?_set_self hil, Option.some.injEq] at hie
      subst hie
      by_cases hjc : j = c
      ·subst hjc
       have hjl := (gsI hc)
       rw [List.getElem?_set_self hjl, Option.some.injEq] at hja
       subst hja
       obtain ⟨v, v1, v2, v3⟩ := h5 i e j _ he hc
       refine ⟨v, v1, v2, ?_⟩
       have hri := view1_soundX (· ∈ [id]) g v3 (by rw [hv]; exact hi) (by simp [srefs1])
       rw [hv] at hri
       exact (Rep.imm hri hok hi).ext hx'
      ·rw [List.getElem?_set_ne (Ne.symm hjc)] at hja
       obtain ⟨v, v1, v2, v3⟩ := h5 i e j _ he hja
       exact ⟨v, v1, v2, (v3.ext x1).ext hx'⟩
     ·rw [List.getElem?_set_ne (Ne.symm hir)] at hie
      obtain ⟨v, v1, v2, v3⟩ := h5 i e' j _ hie hja
      exact ⟨v, v1, v2, (v3.ext x1).ext hx'⟩⟩
   exact ⟨ρ, ok', g', hx.trans (x1.trans x'), hd, hs, fun i => ((hr i).ext x1).ext x'⟩
  ·exact absurd hk' hk
  ·exfalso
   rcases hit with ⟨hes, _⟩ | ⟨m, clk, seen, ents, c1, c2, _, _, _, _, hes, hcc⟩
   ·have hes : es = [[.junk, .junk, .imap []]] := hes
    subst hes
    have : e = [.junk, .junk, .imap []] := by
     rcases r with _ | r
     ·simpa using he.symm
     ·simp at he
    subst this
    rcases c with _ | _ | _ | c <;> simp at hc
   ·have hes : es = [[c1, c2, .imap ((ents.toList.filter fun e => !seen.contains e.born).map fun e => (e.key, e.val))]] := hes
    subst hes
    have : e = [c1, c2, .imap ((ents.toList.filter fun e => !seen.contains e.born).map fun e => (e.key, e.val))] := by
     rcases r with _ | r
     ·simpa using he.symm
     ·simp at he
    subst this
    rcases hcc with ⟨rfl, rfl⟩ | ⟨x, _, _, rfl, rfl⟩ <;> rcases c with _ | _ | _ | c <;> simp at hc
def AInv (E : Env) (Inv : St → Prop) (s : St) : Prop := ∃ s', Weaker E s s' ∧ Inv s'
theorem Weaker.refl (s : St) : Weaker E s s := fun _ _ h => h
theorem awp_join {a b : Code} {s : St} {Q : Exit → St → Prop} (Inv : St → Prop) (hc : codeOk E.N a = true) (h : awp E a s (Athen (fun s' => AInv E Inv s') Q)) (hk : ∀ s', Inv s' → AWp E b s' Q) : AWp E (.seq a b) s Q := by
 intro x w r
 refine wp_seq (wp_mono (awp_sound a s _ hc h x w r) fun e a' w' h' => ?_)
 obtain ⟨s', h1, h2⟩ := h'
 cases e with
 | normal =>
  obtain ⟨s2, k1, k2⟩ := h1
  exact hk s2 k2 a' w' (k1 a' w' h2)
 | _ => exact ⟨s', h1, h2⟩
end
end Go.PA
namespace Go.Proofs.YtmpncdlhmknkoaaGreat
open Go.PA
open Go.RowKit
theorem cw_srefT {H : Heap} {id n : Nat} {ty : TypeId} {k : Nat} {es tl : List (List AV)} {xs xs' : List AV} (hH : H[id]? = some (some ⟨ty, k, es ++ tl⟩)) (hn : n = es.length) (hi : Imm (.list k es)) (t : CW H xs xs') : CW H (.sref id 0 n :: xs) (.list k es :: xs') := by
 have hv : view1 H (.sref id 0 n) = .list k es := by rw [view1_sref, hH, viewS_some]; simp [hn]
 exact .cons (by rw [hv]; exact .refl _) (by rw [hv]; exact hi) hi t
theorem done_srefT {H : Heap} {id n : Nat} {ty : TypeId} {k : Nat} {es tl : List (List AV)} {Q : AV → Prop} {b : Bx Q} (hH : H[id]? = some (some ⟨ty, k, es ++ tl⟩)) (hn : n = es.length) (hi : Imm (.list k es)) (hq : Q (.list k es)) : Done H (.sref id 0 n) Q b := by
 have hv : view H (.sref id 0 n) = .list k es := by rw [view_sref, hH, viewS_some]; simp [hn]
 exact done_weak (by rw [hv]; exact hi) hi (by rw [hv]; exact .refl _) hq
theorem ready1_pf (p : TPayment) (day : Int) : PFun Tryz.prog none none 127 [.agg p.cells, .iref [iv day]] (· = bv (decide (day < p.Due))) := by
 refine pfun_intro Tryz.func127 rfl (by simp [Tryz.f127]) (by kernel_rfl) ?_
 intro E hP hr hs hW hN
 simp -dsimp -implicitDefEqProofs [-getElem?_pos, go_sem, hP, cPy]
set_option maxHeartbeats 1000000 in
theorem bready_pf (q : TQueue) (day : Int) (hf : FitQ q) : PFun Tryz.prog none none 60 [.agg q.cells, iv day] (· = paysL (readyQ q day)) := by
 refine pfun_introA Tryz.func60 rfl (by simp [Tryz.f60]) ?_
 intro E hP hr hs hW hN
 have ck := bcheck_pf q hf
 have iq := imm_que q
 have ip := imm_pays q.Waiting
 have i2 := imm_ints q.Known
 have i3 := imm_bats q.Batches
 rw [cQu] at ck iq
 simp only [intsL] at i2 ck iq
 refine awp_cut (by rw [hN]; kernel_rfl) ?_
 simp -dsimp -implicitDefEqProofs [-getElem?_pos, go_sem, hP, cQu, intsL]
 refine AWp.weaken (weaker_iref 3 (id := 1) (cs := [iv day]) hW (by simp -dsimp [-getElem?_pos, go_sem]) (by simp -dsimp [-getElem?_pos, go_sem]) (by simp [imm_sc])) ?_
 refine awp_sound _ _ _ (by rw [hN]; kernel_rfl) ?_
 simp -dsimp -implicitDefEqProofs [-getElem?_pos, go_sem, hP]
 refine callB_is (ck.lift _ _) hP en_53 (by simpa using iq) .sc ?_
 by_cases c1 : checkQ q = 0
 rotate_left
 ·have : readyQ q day = [] := by rw [readyQ, if_neg c1]
  simp -dsimp -implicitDefEqProofs [-getElem?_pos, go_sem, hP, c1]
  exact done_weak .nil (imm_list.2 (by simp)) (.nil 5) (by rw [this]; rfl)
 have hrd : readyQ q day = q.Waiting.filter (fun p => decide (p.Due ≤ day)) := by rw [readyQ, if_pos c1]
 rw [hrd]
 simp -dsimp -implicitDefEqProofs [-getElem?_pos, go_sem, hP, c1]
 obtain ⟨H2, hH2⟩ : ∃ H2 : Heap, H2 = [some ⟨32, 3, [[paysL q.Waiting, .list 1 (q.Known.map fun x => [iv x]), batsL q.Batches]]⟩, none] := ⟨_, rfl⟩
 simp only [← hH2]
 refine callB_m (by rw [hr, hs]; exact clone_m_pay q.Waiting H2 (by have := hf.w; omega)) hP en_126 ?_
 rintro r H3 ⟨id, rfl, hid, ho, hk⟩
 simp -dsimp -implicitDefEqProofs [-getElem?_pos, go_sem, hP, viewR_iref]
 refine callB_m (by rw [hr, hs]; exact deleteFunc_m_pay q.Waiting id H3 127 [.iref [iv day]] [.iref [iv day]] (fun p => decide (day < p.Due)) (by have := hf.w; omega) ho en_127 (by simp [imm_iref, imm_sc]) (fun H' _ => ⟨args_imm (by simp [imm_iref, imm_sc]) (args_nil.2 trivial), by simp [viewR_iref]⟩) (fun p _ => ready1_pf p day)) hP en_125 ?_
 rintro r H4 ⟨tl, rfl, ho4, hk4⟩
 have ef : (q.Waiting.filter fun a => !decide (day < a.Due)) = q.Waiting.filter fun p => decide (p.Due ≤ day) := by
  refine List.filter_congr fun p _ => ?_
  by_cases h : day < p.Due
  ·simp [h, show ¬ p.Due ≤ day by omega]
  ·simp [h, show p.Due ≤ day by omega]
 rw [ef] at ho4
 simp -dsimp -implicitDefEqProofs [-getElem?_pos, go_sem, hP]
 exact done_srefT ho4 (by rw [encL_len, ef]) (imm_pays _) rfl
set_option maxHeartbeats 1000000 in
theorem bdrop_pf (q : TQueue) (w : Int) (hf : FitQ q) : PFun Tryz.prog none none 78 [.agg q.cells, iv w] (· = .tup [.agg (dropQ q w).1.cells, iv (dropQ q w).2]) := by
 refine pfun_intro Tryz.func78 rfl (by simp [Tryz.f78]) (by kernel_rfl) ?_
 intro E hP hr hs hW hN
 have ck := bcheck_pf q hf
 have iq := imm_que q
 have ip := imm_pays q.Waiting
 have i2 := imm_ints q.Known
 have i3 := imm_bats q.Batches
 have wt := bwaits_pf q w (by have := hf.w; omega)
 rw [cQu] at ck iq wt
 simp only [intsL] at i2 ck iq wt
 simp -dsimp -implicitDefEqProofs [-getElem?_pos, go_sem, hP, cQu, intsL]
 refine callB_is (ck.lift _ _) hP en_53 (by simpa using iq) .sc ?_
 by_cases c1 : checkQ q = 0
 rotate_left
 ·have : dropQ q w = (zeroQ, checkQ q) := by rw [dropQ, if_neg c1]
  simp -dsimp -implicitDefEqProofs [-getElem?_pos, go_sem, hP, c1]
  refine done_zeroQ ?_
  rw [this]
 have hq := checkQ_iff.1 c1
 simp -dsimp -implicitDefEqProofs [-getElem?_pos, go_sem, hP, c1]
 refine callB_is (wt.lift _ _) hP en_143 (by simpa [imm_sc] using iq) .sc ?_
 by_cases c2 : waitQ q w < 0
 ·have d2 : decide (waitQ q w < 0) = true := decide_eq_true c2
  have : dropQ q w = (zeroQ, 6) := by rw [dropQ, if_pos c1, if_pos c2]
  simp -dsimp -implicitDefEqProofs [-getElem?_pos, go_sem, hP, d2]
  refine done_zeroQ ?_
  rw [this]
 have d2 : decide (waitQ q w < 0) = false := decide_eq_false c2
 obtain ⟨i, p, hi, hip, hpw, hil⟩ := waitQ_some c2
 have hdr : dropQ q w = (⟨q.Waiting.eraseIdx i, q.Known, q.Batches⟩, 0) := by rw [dropQ, if_pos c1, if_neg c2, hi]; rfl
 rw [hdr]
 rw [hi] at d2
 have lw := hq.lw
 have w1 := wrap_in ((i : Int) + 1) (by omega)
 obtain ⟨H2, hH2⟩ : ∃ H2 : Heap, H2 = [some ⟨32, 3, [[paysL q.Waiting, .list 1 (q.Known.map fun x => [iv x]), batsL q.Batches]]⟩, some ⟨32, 3, [[.nil, .nil, .nil]]⟩] := ⟨_, rfl⟩
 have b0 : H2[0]? = some (some ⟨32, 3, [[paysL q.Waiting, .list 1 (q.Known.map fun x => [iv x]), batsL q.Batches]]⟩) := by rw [hH2]; rfl
 have b1 : H2[1]? = some (some ⟨32, 3, [[.nil, .nil, .nil]]⟩) := by rw [hH2]; rfl
 have l2 : H2.length = 2 := by rw [hH2]; rfl
 simp -dsimp -implicitDefEqProofs [-getElem?_pos, go_sem, hP, hi, d2]
 simp only [← hH2]
 refine callB_m (by rw [hr, hs]; exact bcopy_m q H2 hf) hP en_123 ?_
 rintro r H3 ⟨j1, j2, x, rfl, hj1, hj2, n12, o1, o2, ⟨B, hB1, hB2, hg⟩, hk3⟩
 have e0 := hk3 _ _ (by simp) b0
 have e1 := hk3 _ _ (by simp) b1
 have g0 := (gsI e0)
 have g1 := (gsI e1)
 have hc := hg.cellish
 have n0 : ¬ j1 = 0 := by omega
 have n1 : ¬ j2 = 0 := by omega
 simp -dsimp -implicitDefEqProofs [-getElem?_pos, go_sem, hP, e0, g0, hc, w1]
 generalize hH4 : List.set H3 0 _ = H4
 have v0 : H4[0]? = some (some ⟨32, 3, [[.sref j1 0 q.Waiting.length, .sref j2 0 q.Known.length, x]]⟩) := by rw [← hH4, List.getElem?_set_self g0]
 have v1 : H4[1]? = H3[1]? := by rw [← hH4, List.getElem?_set_ne (by omega)]
 have vj : H4[j1]? = H3[j1]? := by rw [← hH4, List.getElem?_set_ne (by omega)]
 have vj2 : H4[j2]? = H3[j2]? := by rw [← hH4, List.getElem?_set_ne (by omega)]
 rw [e1] at v1
 rw [o1] at vj
 rw [o2] at vj2
 have k4 : Kept [0] H3 H4 := by rw [← hH4]; exact kept_set _ (by simp) (kept_refl _ _)
 have hg4 := hg.kept k4 (by simp; omega)
 have delm := fun {row src : Option Nat} => delete_m_pay (row := row) (src := src) (encL TPayment.cells q.Waiting) i j1 H4 (by rw [encL_len]; exact hil) (by rw [encL_len]; omega) vj
 rw [encL_len, encL_takeE, encL_dropE, encL_appE] at delm
 refine callB_m (by rw [hr, hs]; exact delm) hP en_144 ?_
 rintro r H5 ⟨tl, rfl, o5, hk5⟩
 have f0 := hk5 _ _ (by simp; omega) v0
 have f1 := hk5 _ _ (by simp; omega) v1
 have p2 := hk5 _ _ (by simp; omega) vj2
 have s0 := (gsI f0)
 have s1 := (gsI f1)
 have hg5 := hg4.kept hk5 (by simp; omega)
 simp -dsimp -implicitDefEqProofs [-getElem?_pos, go_sem, hP, f0, s0, f1, s1, hc]
 have ee : q.Waiting.take i ++ q.Waiting.drop (i + 1) = q.Waiting.eraseIdx i := (List.eraseIdx_eq_take_drop_succ _ _).symm
 rw [ee] at o5
 refine done_agg2 (cs' := (TQueue.mk (q.Waiting.eraseIdx i) q.Known q.Batches).cells) ?_ rfl
 refine cw_srefT (ty := 44) (tl := tl) ?_ (by rw [encL_len, List.length_eraseIdx, if_pos hil]) (imm_pays _) (cw_sref (ty := 3) (es := intRows q.Known) ?_ (by rw [intRows_len]) (imm_ints _) (((hg5.kept (X := [0]) (kept_set _ (by simp) (kept_refl _ _)) (by simp; omega)).kept (X := [1]) (kept_set _ (by simp) (kept_refl _ _)) (by simp; omega)).cw (imm_bats _) .nil))
 ·rw [List.getElem?_set_ne (by omega), List.getElem?_set_ne (by omega), o5]
 ·rw [List.getElem?_set_ne (by omega), List.getElem?_set_ne (by omega), p2]
open Go.PA
open Go.RowKit
theorem imm_trip {a b c : AV} (ha : Imm a) (hb : Imm b) (hc : Imm c) : Imm (.tup [a, b, c]) := by
 refine .tup fun x hx => ?_
 simp only [List.mem_cons, List.not_mem_nil, or_false] at hx
 rcases hx with rfl | rfl | rfl <;> assumption
theorem weak_tup3 {a b c a' b' c' : AV} (ha : Weak a a') (hb : Weak b b') (hc : Weak c c') : Weak (.tup [a, b, c]) (.tup [a', b', c']) := by
 refine .tup rfl fun i x y hx hy => ?_
 match i, hx, hy with
 | 0, hx, hy => simp at hx hy; subst hx; subst hy; exact ha
 | 1, hx, hy => simp at hx hy; subst hx; subst hy; exact hb
 | 2, hx, hy => simp at hx hy; subst hx; subst hy; exact hc
 | i + 3, hx, hy => simp at hx
theorem done_trip {H : Heap} {cs cs' ds ds' : List AV} {v : Value} {Q : AV → Prop} {b : Bx Q} (h : CW H cs cs') (h2 : CW H ds ds') (hq : Q (.tup [.agg cs', .agg ds', .sc v])) : Done H (.tup [.agg cs, .agg ds, .sc v]) Q b :=
 done_weak (imm_trip h.imm h2.imm .sc) (imm_trip h.imm' h2.imm' .sc) (weak_tup3 h.weak h2.weak (.refl _)) hq
theorem cw_zeroB {H : Heap} : CW H [iv 0, iv 0, .nil] zeroB.cells := cw_imm .sc (cw_imm .sc (cw_nil .nil))
theorem done_zeroQ3 {H : Heap} {n : Int} {Q : AV → Prop} {b : Bx Q} (h : Q (.tup [.agg zeroQ.cells, .agg zeroB.cells, iv n])) : Done H (.tup [.agg [.nil, .nil, .nil], .agg [iv 0, iv 0, .nil], iv n]) Q b := done_trip cw_zeroQ cw_zeroB h
theorem cw_immL {H : Heap} : ∀ {cs : List AV}, (∀ a, a ∈ cs → Imm a) → CW H cs cs
 | [], _ => .nil
 | a :: cs, h => cw_imm (h a (by simp)) (cw_immL fun x hx => h x (List.mem_cons_of_mem _ hx))
@[go_sem] theorem fsz : szOf Tryz.prog 114 = 1 := by kernel_rfl
@[go_sem] theorem fkn : knownT Tryz.prog 114 = true := by kernel_rfl
@[go_sem] theorem fag : aggOf Tryz.prog 114 = false := by kernel_rfl
@[go_sem] theorem fus : (Tryz.prog.underlying 114).isSome = true := by kernel_rfl
theorem ready1_m {row src : Option Nat} (p : TPayment) (day : Int) (o : Nat) (ty : TypeId) (H : Heap) (ho : H[o]? = some (some ⟨ty, 1, [[iv day]]⟩)) : MFun Tryz.prog row src 127 [.agg p.cells, .ref o 0 0] H (fun r H' => r = bv (decide (day < p.Due)) ∧ Kept [] H H') := by
 refine mfun_intro Tryz.func127 rfl (by simp [Tryz.f127]) (by kernel_rfl) (⟨_, H, rfl, kept_refl _ _⟩) ?_
 intro E hP hr hs hN
 have lt := (gsI ho)
 simp -dsimp -implicitDefEqProofs [-getElem?_pos, go_sem, hP, cPy, ho, lt]
 exact kept_app _ _ _
theorem take1_m {row src : Option Nat} (p : TPayment) (ws : List Int) (o : Nat) (ty : TypeId) (H : Heap) (hw : ws.length ≤ 1000000) (ho : H[o]? = some (some ⟨ty, 1, [[intsL ws]]⟩)) : MFun Tryz.prog row src 130 [.agg p.cells, .ref o 0 0] H (fun r H' => r = bv (takenB ws p) ∧ Kept [] H H') := by
 refine mfun_intro Tryz.func130 rfl (by simp [Tryz.f130]) (by kernel_rfl) (⟨_, H, rfl, kept_refl _ _⟩) ?_
 intro E hP hr hs hN
 have lt := (gsI ho)
 have iw := imm_ints ws
 simp -dsimp -implicitDefEqProofs [-getElem?_pos, go_sem, hP, cPy, ho, lt]
 refine callB_is ((containsInt_pf ws p.Warrant hw).lift _ _) hP en_131 (by simp [iw, imm_sc]) .sc ?_
 simp -dsimp -implicitDefEqProofs [-getElem?_pos, go_sem, hP, takenB]
 exact kept_app _ _ _
theorem take2_m {row src : Option Nat} (p : TPayment) (ws : List Int) (o o2 : Nat) (ty ty2 : TypeId) (H : Heap) (hw : ws.length ≤ 1000000) (ho : H[o]? = some (some ⟨ty, 1, [[intsL ws]]⟩)) (ho2 : H[o2]? = some (some ⟨ty2, 1, [[.fn 130 [.ref o 0 0]]]⟩)) :
  MFun Tryz.prog row src 132 [.agg p.cells, .ref o2 0 0] H (fun r H' => r = bv (!takenB ws p) ∧ Kept [] H H') := by
 refine mfun_intro Tryz.func132 rfl (by simp [Tryz.f132]) (by kernel_rfl) (⟨_, H, rfl, kept_refl _ _⟩) ?_
 intro E hP hr hs hN
 have lt := (gsI ho)
 have lt2 := (gsI ho2)
 simp -dsimp -implicitDefEqProofs [-getElem?_pos, go_sem, hP, cPy, ho2, lt2]
 generalize hH2 : H ++ _ = H2
 have k2 : Kept [] H H2 := by rw [← hH2]; exact kept_app _ _ _
 have tm := fun {row src : Option Nat} => take1_m (row := row) (src := src) p ws o ty H2 hw (k2 _ _ (by simp) ho)
 rw [cPy] at tm
 refine callB_m (by rw [hr, hs]; exact tm) hP en_130 ?_
 rintro r H3 ⟨rfl, hk3⟩
 simp -dsimp -implicitDefEqProofs [-getElem?_pos, go_sem, hP]
 exact k2.trans hk3
set_option maxHeartbeats 1000000 in
theorem bready_m {row src : Option Nat} (q : TQueue) (day : Int) (H : Heap) (hf : FitQ q) (c1 : checkQ q = 0) : MFun Tryz.prog row src 60 [.agg q.cells, iv day] H (fun r H' => ∃ id tl, r = .sref id 0 (readyQ q day).length ∧ H.length ≤ id ∧ H'[id]? = some (some ⟨44, 5, encL TPayment.cells (readyQ q day) ++ tl⟩) ∧ Kept [] H H') := by
 obtain ⟨L, hL⟩ : ∃ L, L = readyQ q day := ⟨_, rfl⟩
 have hrd : L = q.Waiting.filter (fun p => decide (p.Due ≤ day)) := by rw [hL, readyQ, if_pos c1]
 rw [← hL]
 obtain ⟨C, hC⟩ : ∃ C : AV → Heap → Prop, C = fun r H' => ∃ id tl, r = .sref id 0 L.length ∧ H.length ≤ id ∧ H'[id]? = some (some ⟨44, 5, encL TPayment.cells L ++ tl⟩) ∧ Kept [] H H' := ⟨_, rfl⟩
 rw [← hC]
 have ex : ∃ r H', C r H' := ⟨.sref H.length 0 L.length, H ++ [some ⟨44, 5, encL TPayment.cells L ++ []⟩], by
  rw [hC]
  exact ⟨H.length, [], rfl, Nat.le_refl _, by simp, kept_app _ _ _⟩⟩
 refine mfun_intro Tryz.func60 rfl (by simp [Tryz.f60]) (by kernel_rfl) (ex) ?_
 intro E hP hr hs hN
 have ck := bcheck_pf q hf
 have iq := imm_que q
 have ip := imm_pays q.Waiting
 have i2 := imm_ints q.Known
 have i3 := imm_bats q.Batches
 rw [cQu] at ck iq
 simp only [intsL] at i2 ck iq
 simp -dsimp -implicitDefEqProofs [-getElem?_pos, go_sem, hP, cQu, intsL]
 refine callB_is (ck.lift _ _) hP en_53 (by simpa using iq) .sc ?_
 simp -dsimp -implicitDefEqProofs [-getElem?_pos, go_sem, hP, c1]
 generalize hH2 : H ++ _ = H2
 have l2 : H2.length = H.length + 2 := by rw [← hH2]; simp
 have k2 : Kept [] H H2 := by rw [← hH2]; exact kept_app _ _ _
 have b1 : H2[H.length + 1]? = some (some ⟨3, 1, [[iv day]]⟩) := by rw [← hH2, List.getElem?_append_right (by omega)]; simp
 refine callB_m (by rw [hr, hs]; exact clone_m_pay q.Waiting H2 (by have := hf.w; omega)) hP en_126 ?_
 rintro r H3 ⟨id, rfl, hid, ho, hk⟩
 have e1 := hk _ _ (by simp) b1
 simp -dsimp -implicitDefEqProofs [-getElem?_pos, go_sem, hP]
 refine callB_m (by rw [hr, hs]; exact deleteFuncM_pay q.Waiting [] id H3 127 [.ref (H.length + 1) 0 0] (fun p => decide (day < p.Due)) (by have := hf.w; omega) (by rw [List.append_nil]; exact ho) en_127 (fun p _ H' hk' => ready1_m p day (H.length + 1) _ H' (hk' _ _ (by simp; omega) e1))) hP en_125 ?_
 rintro r H4 ⟨tl, rfl, ho4, hk4⟩
 have ef : (q.Waiting.filter fun a => !decide (day < a.Due)) = L := by
  rw [hrd]
  refine List.filter_congr fun p _ => ?_
  by_cases h : day < p.Due
  ·simp [h, show ¬ p.Due ≤ day by omega]
  ·simp [h, show p.Due ≤ day by omega]
 rw [ef] at ho4
 simp -dsimp -implicitDefEqProofs [-getElem?_pos, go_sem, hP, ef]
 rw [hC]
 refine ⟨id, tl, rfl, by omega, ho4, fun j o hj hoj => ?_⟩
 have hjl := (gsI hoj)
 exact hk4 j o (by simp; omega) (hk j o (by simp) (k2 j o (by simp) hoj))
open Go.PA
open Go.RowKit
@[go_sem] theorem fze : zeros Tryz.prog 114 = some [.sc .nilFunc] := by kernel_rfl
set_option maxHeartbeats 4000000 in
theorem btake_pf (q : TQueue) (day : Int) (ws : List Int) (hf : FitQ q) (hw : ws.length ≤ 100000) : PFun Tryz.prog none none 63 [.agg q.cells, iv day, intsL ws] (· = .tup [.agg (takeQ q day ws).1.cells, .agg (takeQ q day ws).2.1.cells, iv (takeQ q day ws).2.2]) := by
 refine pfun_introA Tryz.func63 rfl (by simp [Tryz.f63]) ?_
 intro E hP hr hs hW hN
 have ck := bcheck_pf q hf
 have iq := imm_que q
 have ip := imm_pays q.Waiting
 have i2 := imm_ints q.Known
 have i3 := imm_bats q.Batches
 have iw := imm_ints ws
 have lb := hf.b
 rw [cQu] at ck iq
 simp only [intsL] at i2 ck iq iw
 refine awp_cut (by rw [hN]; kernel_rfl) ?_
 simp -dsimp -implicitDefEqProofs [-getElem?_pos, go_sem, hP, cQu, intsL]
 refine awp_cut (by rw [hN]; kernel_rfl) ?_
 simp -dsimp -implicitDefEqProofs [-getElem?_pos, go_sem, hP]
 refine callB_is (ck.lift _ _) hP en_53 (by simpa using iq) .sc ?_
 by_cases c1 : checkQ q = 0
 rotate_left
 ·have : takeQ q day ws = (zeroQ, zeroB, checkQ q) := by rw [takeQ, if_neg c1]
  simp -dsimp -implicitDefEqProofs [-getElem?_pos, go_sem, hP, c1]
  refine done_zeroQ3 ?_
  rw [this]; rfl
 have hq := checkQ_iff.1 c1
 simp -dsimp -implicitDefEqProofs [-getElem?_pos, go_sem, hP, c1]
 refine awp_cut (by rw [hN]; kernel_rfl) ?_
 simp -dsimp -implicitDefEqProofs [-getElem?_pos, go_sem, hP]
 obtain ⟨Inv, hInv⟩ : ∃ Inv : St → Prop, Inv = fun s => s.t 1 = iv day ∧ s.t 3 = .ref 0 0 0 ∧ s.t 5 = .ref 1 0 0 ∧ s.t 6 = .ref 2 0 0 ∧ s.t 7 = .ref 3 0 0 ∧ s.t 10 = iv (lastQ q) ∧ s.H = [some ⟨32, 3, [[paysL q.Waiting, .list 1 (q.Known.map fun x => [iv x]), batsL q.Batches]]⟩, some ⟨22, 1, [[.list 1 (ws.map fun x => [iv x])]]⟩, some ⟨32, 3, [[.nil, .nil, .nil]]⟩, some ⟨55, 3, [[iv 0, iv 0, .nil]]⟩] := ⟨_, rfl⟩
 refine awp_join Inv (by rw [hN]; kernel_rfl) ?_ ?_
 ·cases hlast : q.Batches.getLast? with
  | none =>
   have hnil : q.Batches = [] := by simpa using hlast
   have l0 : lastQ q = 0 := by rw [lastQ, hlast]
   simp -dsimp -implicitDefEqProofs [-getElem?_pos, go_sem, hP, hnil]
   refine ⟨_, Weaker.refl _, ?_⟩
   rw [hInv]
   exact ⟨by simp -dsimp [-getElem?_pos, go_sem], by simp -dsimp [-getElem?_pos, go_sem], by simp -dsimp [-getElem?_pos, go_sem], by simp -dsimp [-getElem?_pos, go_sem], by simp -dsimp [-getElem?_pos, go_sem], by simp -dsimp [-getElem?_pos, go_sem, l0], by rw [hnil]⟩
  | some b =>
   have l0 : lastQ q = b.Day := by rw [lastQ, hlast]
   have hpos : 0 < q.Batches.length := by
    cases h : q.Batches with
    | nil => simp [h] at hlast
    | cons _ _ => simp
   have hb : q.Batches[q.Batches.length - 1]? = some b := by rw [← List.getLast?_eq_getElem?]; exact hlast
   have d0 : decide ((0 : Int) < (q.Batches.length : Int)) = true := decide_eq_true (by omega)
   have w1 : IntKind.i64.wrap ((q.Batches.length : Int) - 1) = ((q.Batches.length - 1 : Nat) : Int) := by rw [wrap_in _ (by omega)]; omega
   simp -dsimp -implicitDefEqProofs [-getElem?_pos, go_sem, hP, d0, hpos]
   simp -dsimp -implicitDefEqProofs [-getElem?_pos, go_sem, hP, w1, hb, cBt]
   refine ⟨_, Weaker.refl _, ?_⟩
   rw [hInv]
   exact ⟨by simp -dsimp [-getElem?_pos, go_sem], by simp -dsimp [-getElem?_pos, go_sem], by simp -dsimp [-getElem?_pos, go_sem], by simp -dsimp [-getElem?_pos, go_sem], by simp -dsimp [-getElem?_pos, go_sem], by simp -dsimp [-getElem?_pos, go_sem, l0], rfl⟩
 intro s hs'
 rw [hInv] at hs'
 obtain ⟨t1, t3, t5, t6, t7, t10, hH⟩ := hs'
 refine awp_cut (by rw [hN]; kernel_rfl) ?_
 simp -dsimp -implicitDefEqProofs [-getElem?_pos, go_sem, hP, t1]
 refine callB_is ((cbusiness_pf day).lift _ _) hP en_58 (by simp [imm_sc]) .sc ?_
 cases c2 : busB day
 ·have : takeQ q day ws = (zeroQ, zeroB, 66) := by rw [takeQ, if_pos c1, if_neg (by simp [c2])]
  simp -dsimp -implicitDefEqProofs [-getElem?_pos, go_sem, hP, c2, t6, t7, hH]
  refine done_zeroQ3 ?_
  rw [this]; rfl
 by_cases c3 : day < lastQ q
 ·have d3 : decide (day < lastQ q) = true := decide_eq_true c3
  have : takeQ q day ws = (zeroQ, zeroB, 8) := by rw [takeQ, if_pos c1, if_pos c2, if_pos c3]
  simp -dsimp -implicitDefEqProofs [-getElem?_pos, go_sem, hP, c2, t6, t7, hH, t1, t10, d3]
  refine done_zeroQ3 ?_
  rw [this]; rfl
 have d3 : decide (day < lastQ q) = false := decide_eq_false c3
 by_cases c4 : ws.length = 0
 ·have d4 : decide ((ws.length : Int) = 0) = true := decide_eq_true (by omega)
  have : takeQ q day ws = (zeroQ, zeroB, 10) := by rw [takeQ, if_pos c1, if_pos c2, if_neg c3, if_pos c4]
  simp -dsimp -implicitDefEqProofs [-getElem?_pos, go_sem, hP, c2, t6, t7, hH, t1, t10, d3, t5, c4]
  refine done_zeroQ3 ?_
  rw [this]; rfl
 have d4 : decide ((ws.length : Int) = 0) = false := decide_eq_false (by omega)
 by_cases c5 : 10 < ws.length
 ·have d5 : decide ((10 : Int) < (ws.length : Int)) = true := decide_eq_true (by omega)
  have : takeQ q day ws = (zeroQ, zeroB, 3) := by rw [takeQ, if_pos c1, if_pos c2, if_neg c3, if_neg c4, if_pos (.inl c5)]
  simp -dsimp -implicitDefEqProofs [-getElem?_pos, go_sem, hP, c2, t6, t7, hH, t1, t10, d3, t5, t3, c4, d4, d5]
  refine done_zeroQ3 ?_
  rw [this]; rfl
 have d5 : decide ((10 : Int) < (ws.length : Int)) = false := decide_eq_false (by omega)
 by_cases c6 : 200 ≤ q.Batches.length
 ·have d6 : decide ((200 : Int) ≤ (q.Batches.length : Int)) = true := decide_eq_true (by omega)
  have : takeQ q day ws = (zeroQ, zeroB, 3) := by rw [takeQ, if_pos c1, if_pos c2, if_neg c3, if_neg c4, if_pos (.inr c6)]
  simp -dsimp -implicitDefEqProofs [-getElem?_pos, go_sem, hP, c2, t6, t7, hH, t1, t10, d3, t5, t3, c4, d4, d5, d6]
  refine done_zeroQ3 ?_
  rw [this]; rfl
 have d6 : decide ((200 : Int) ≤ (q.Batches.length : Int)) = false := decide_eq_false (by omega)
 simp -dsimp -implicitDefEqProofs [-getElem?_pos, go_sem, hP, c2, t6, t7, hH, t1, t10, d3, t5, t3, c4, d4, d5, d6]
 refine awp_cut (by rw [hN]; kernel_rfl) ?_
 simp -dsimp -implicitDefEqProofs [-getElem?_pos, go_sem, hP, t5, hH]
 refine awp_cut (by rw [hN]; kernel_rfl) ?_
 obtain ⟨H2, hH2⟩ : ∃ H2 : Heap, H2 = [some ⟨32, 3, [[paysL q.Waiting, .list 1 (q.Known.map fun x => [iv x]), batsL q.Batches]]⟩, some ⟨22, 1, [[.list 1 (ws.map fun x => [iv x])]]⟩, some ⟨32, 3, [[.nil, .nil, .nil]]⟩, some ⟨55, 3, [[iv 0, iv 0, .nil]]⟩, some ⟨114, 1, [[.fn 130 [.ref 1 0 0]]]⟩] := ⟨_, rfl⟩
 have b0 : H2[0]? = some (some ⟨32, 3, [[paysL q.Waiting, .list 1 (q.Known.map fun x => [iv x]), batsL q.Batches]]⟩) := by rw [hH2]; rfl
 have b1 : H2[1]? = some (some ⟨22, 1, [[intsL ws]]⟩) := by rw [hH2]; rfl
 have b2 : H2[2]? = some (some ⟨32, 3, [[.nil, .nil, .nil]]⟩) := by rw [hH2]; rfl
 have b3 : H2[3]? = some (some ⟨55, 3, [[iv 0, iv 0, .nil]]⟩) := by rw [hH2]; rfl
 have b4 : H2[4]? = some (some ⟨114, 1, [[.fn 130 [.ref 1 0 0]]]⟩) := by rw [hH2]; rfl
 have l2 : H2.length = 5 := by rw [hH2]; rfl
 simp only [← hH2]
 clear hH
 have rd := fun {row src : Option Nat} => bready_m (row := row) (src := src) q day H2 hf c1
 rw [cQu] at rd
 simp only [intsL] at rd
 simp -dsimp -implicitDefEqProofs [-getElem?_pos, go_sem, hP, t3, t1, b0, l2]
 refine callB_m (by rw [hr, hs]; exact rd) hP en_60 ?_
 rintro r H3 ⟨id, tl, rfl, hid, ho, hk3⟩
 have e0 := hk3 _ _ (by simp) b0
 have e1 := hk3 _ _ (by simp) b1
 have e2 := hk3 _ _ (by simp) b2
 have e3 := hk3 _ _ (by simp) b3
 have e4 := hk3 _ _ (by simp) b4
 obtain ⟨R, hR⟩ : ∃ R, R = readyQ q day := ⟨_, rfl⟩
 have hRf : R = q.Waiting.filter (fun p => decide (p.Due ≤ day)) := by rw [hR, readyQ, if_pos c1]
 have hRl : R.length ≤ 100000 := by
  have := hf.w
  have := List.length_filter_le (fun p : TPayment => decide (p.Due ≤ day)) q.Waiting
  rw [hRf]
  omega
 rw [← hR] at ho ⊢
 simp -dsimp -implicitDefEqProofs [-getElem?_pos, go_sem, hP]
 refine callB_m (by rw [hr, hs]; exact deleteFuncM_pay R tl id H3 132 [.ref 4 0 0] (fun p => !takenB ws p) hRl ho en_132 (fun p _ H' hk' => take2_m p ws 1 4 _ _ H' (by omega) (hk' _ _ (by simp; omega) e1) (hk' _ _ (by simp; omega) e4))) hP en_125 ?_
 rintro r H4 ⟨tl4, rfl, ho4, hk4⟩
 have f0 := hk4 _ _ (by simp; omega) e0
 have f1 := hk4 _ _ (by simp; omega) e1
 have f2 := hk4 _ _ (by simp; omega) e2
 have f3 := hk4 _ _ (by simp; omega) e3
 have f4 := hk4 _ _ (by simp; omega) e4
 obtain ⟨L, hL⟩ : ∃ L, L = R.filter (fun a => !!takenB ws a) := ⟨_, rfl⟩
 have hLf : L = R.filter (takenB ws) := by rw [hL]; simp
 rw [← hL] at ho4 ⊢
 have iL := imm_pays L
 simp -dsimp -implicitDefEqProofs [-getElem?_pos, go_sem, hP]
 refine AWp.weaken (weaker_frz hW 13 (id := id) (lo := 0) (n := L.length) (o := ⟨44, 5, encL TPayment.cells L ++ tl4⟩) (by simp -dsimp [-getElem?_pos, go_sem]) (by simp -dsimp [-getElem?_pos, go_sem, ho4]) ?_) ?_
 ·have : ((encL TPayment.cells L ++ tl4).drop 0).take L.length = encL TPayment.cells L := by simp [List.take_append_of_le_length, encL_len, List.take_of_length_le]
  dsimp only
  rw [this]
  exact iL
 have hrows : ((encL TPayment.cells L ++ tl4).drop 0).take L.length = encL TPayment.cells L := by simp [List.take_append_of_le_length, encL_len, List.take_of_length_le]
 simp only [hrows]
 generalize hH5 : List.set H4 id none = H5
 have g0 : H5[0]? = H4[0]? := by rw [← hH5, List.getElem?_set_ne (by omega)]
 have g1 : H5[1]? = H4[1]? := by rw [← hH5, List.getElem?_set_ne (by omega)]
 have g2 : H5[2]? = H4[2]? := by rw [← hH5, List.getElem?_set_ne (by omega)]
 have g3 : H5[3]? = H4[3]? := by rw [← hH5, List.getElem?_set_ne (by omega)]
 have g4 : H5[4]? = H4[4]? := by rw [← hH5, List.getElem?_set_ne (by omega)]
 rw [f0] at g0
 rw [f1] at g1
 rw [f2] at g2
 rw [f3] at g3
 rw [f4] at g4
 have n0 := (gsI g0)
 have n1 := (gsI g1)
 have n2 := (gsI g2)
 have n3 := (gsI g3)
 have n4 := (gsI g4)
 clear hH5 f0 f1 f2 f3 f4 e0 e1 e2 e3 e4 b0 b1 b2 b3 b4 hk3 hk4 ho ho4
 refine awp_cut (by rw [hN]; kernel_rfl) ?_
 have hdl := dueB_len (day := day) (ws := ws) hq.asc.nd
 rw [← hRf, ← hLf] at hdl
 have g1' := g1
 simp only [intsL] at g1'
 by_cases c7 : dueB q day ws = true
 rotate_left
 ·have c7' : ¬ L.length = ws.length := mt hdl.1 c7
  have d7 : decide ((L.length : Int) = (ws.length : Int)) = false := decide_eq_false (by omega)
  have : takeQ q day ws = (zeroQ, zeroB, 6) := by rw [takeQ, if_pos c1, if_pos c2, if_neg c3, if_neg c4, if_neg (by omega), if_neg c7]
  simp -dsimp -implicitDefEqProofs [-getElem?_pos, go_sem, hP, t5, g1', n1, d7, c7', t6, t7, g2, n2, g3, n3]
  refine done_zeroQ3 ?_
  rw [this]; rfl
 have c7' : L.length = ws.length := hdl.2 c7
 have hLW : L = q.Waiting.filter (takenB ws) := by rw [hLf, hRf]; exact dueB_filter hq.asc.nd c7
 have htk : takeQ q day ws = (⟨q.Waiting.filter (fun p => !takenB ws p), q.Known, q.Batches ++ [takeB q day ws]⟩, takeB q day ws, 0) := by rw [takeQ, if_pos c1, if_pos c2, if_neg c3, if_neg c4, if_neg (by omega), if_pos c7]
 have htb : takeB q day ws = ⟨q.Batches.length + 1, day, L⟩ := by rw [takeB, ← hLW]
 rw [htk, htb]
 simp -dsimp -implicitDefEqProofs [-getElem?_pos, go_sem, hP, t5, g1', n1, c7', t3, g0, n0]
 refine awp_cut (by rw [hN]; kernel_rfl) ?_
 simp -dsimp -implicitDefEqProofs [-getElem?_pos, go_sem, hP, t5, g1', n1, c7', t3, g0, n0]
 refine callB_m (by rw [hr, hs]; exact bcopy_m q H5 hf) hP en_123 ?_
 rintro r H6 ⟨j1, j2, x, rfl, hj1, hj2, n12, o1, o2, ⟨B, hB1, hB2, hg⟩, hk6⟩
 have e0 := hk6 _ _ (by simp) g0
 have e1 := hk6 _ _ (by simp) g1
 have e2 := hk6 _ _ (by simp) g2
 have e3 := hk6 _ _ (by simp) g3
 have e4 := hk6 _ _ (by simp) g4
 have u0 := (gsI e0)
 have u4 := (gsI e4)
 have hc := hg.cellish
 have m10 : ¬ j1 = 0 := by omega
 have m20 : ¬ j2 = 0 := by omega
 have z4 : ¬ (4 = 0) := by omega
 simp -dsimp -implicitDefEqProofs [-getElem?_pos, go_sem, hP, t3, e0, u0, hc, e4, u4]
 generalize hH7 : List.set H6 0 _ = H7
 have v0 : H7[0]? = some (some ⟨32, 3, [[.sref j1 0 q.Waiting.length, .sref j2 0 q.Known.length, x]]⟩) := by rw [← hH7, List.getElem?_set_self u0]
 have v1 : H7[1]? = H6[1]? := by rw [← hH7, List.getElem?_set_ne (by omega)]
 have v2 : H7[2]? = H6[2]? := by rw [← hH7, List.getElem?_set_ne (by omega)]
 have v3 : H7[3]? = H6[3]? := by rw [← hH7, List.getElem?_set_ne (by omega)]
 have vj : H7[j1]? = H6[j1]? := by rw [← hH7, List.getElem?_set_ne (by omega)]
 have vj2 : H7[j2]? = H6[j2]? := by rw [← hH7, List.getElem?_set_ne (by omega)]
 rw [e1] at v1
 rw [e2] at v2
 rw [e3] at v3
 rw [o1] at vj
 rw [o2] at vj2
 have k7 : Kept [0] H6 H7 := by rw [← hH7]; exact kept_set _ (by simp) (kept_refl _ _)
 have hg7 := hg.kept k7 (by simp; omega)
 have y4 : H7[4]? = H6[4]? := by rw [← hH7, List.getElem?_set_ne (by omega)]
 rw [e4] at y4
 have p0 := (gsI v0)
 have p4 := (gsI y4)
 refine awp_cut (by rw [hN]; kernel_rfl) ?_
 simp -dsimp -implicitDefEqProofs [-getElem?_pos, go_sem, hP, t3, v0, y4, p0, p4]
 refine callB_m (by rw [hr, hs]; exact deleteFuncM_pay q.Waiting [] j1 H7 130 [.ref 1 0 0] (takenB ws) (by have := hf.w; omega) (by rw [List.append_nil]; exact vj) en_130 (fun p _ H' hk' => take1_m p ws 1 _ H' (by omega) (hk' _ _ (by simp; omega) v1))) hP en_125 ?_
 rintro r H8 ⟨tl8, rfl, ho8, hk8⟩
 obtain ⟨M, hM⟩ : ∃ M, M = q.Waiting.filter (fun a => !takenB ws a) := ⟨_, rfl⟩
 rw [← hM] at ho8 ⊢
 have w0 := hk8 _ _ (by simp; omega) v0
 have w2 := hk8 _ _ (by simp; omega) v2
 have w3 := hk8 _ _ (by simp; omega) v3
 have wj2 := hk8 _ _ (by simp; omega) vj2
 have hg8 := hg7.kept hk8 (by simp; omega)
 have s0 := (gsI w0)
 have s2 := (gsI w2)
 have s3 := (gsI w3)
 have sj1 := (gsI ho8)
 have sj2 := (gsI wj2)
 have wl := wrap_in ((q.Batches.length : Int) + 1) (by omega)
 simp -dsimp -implicitDefEqProofs [-getElem?_pos, go_sem, hP, t3, w0, s0, hc]
 obtain ⟨Inv2, hInv2⟩ : ∃ Inv : St → Prop, Inv = fun s => ∃ b' : Nat, 5 ≤ b' ∧ s.t 1 = iv day ∧ s.t 3 = .ref 0 0 0 ∧ s.t 6 = .ref 2 0 0 ∧ s.t 7 = .ref 3 0 0 ∧ s.t 13 = paysL L ∧ s.H[0]? = some (some ⟨32, 3, [[.sref j1 0 M.length, .sref j2 0 q.Known.length, .sref b' 0 (q.Batches.length + 1)]]⟩) ∧ s.H[2]? = some (some ⟨32, 3, [[.nil, .nil, .nil]]⟩) ∧ s.H[3]? = some (some ⟨55, 3, [[iv 0, iv 0, .nil]]⟩) ∧ s.H[j1]? = some (some ⟨44, 5, encL TPayment.cells M ++ tl8⟩) ∧ s.H[j2]? = some (some ⟨3, 1, intRows q.Known⟩) ∧ s.H[b']? = some (some ⟨55, 3, encL TBatch.cells (q.Batches ++ [⟨q.Batches.length + 1, day, L⟩])⟩) := ⟨_, rfl⟩
 refine awp_join Inv2 (by rw [hN]; kernel_rfl) ?_ ?_
 ·have en : encL TBatch.cells q.Batches ++ [[iv ((q.Batches.length : Int) + 1), iv day, paysL L]] = encL TBatch.cells (q.Batches ++ [⟨q.Batches.length + 1, day, L⟩]) := encL_snoc TBatch.cells q.Batches ⟨q.Batches.length + 1, day, L⟩
  rcases hg8 with ⟨rfl, h⟩ | ⟨jd, hjd, rfl, h⟩
  ·have hl0 : q.Batches.length = 0 := by have := congrArg List.length h; rwa [encL_len] at this
   rw [h, hl0] at en
   have w01 : IntKind.i64.wrap 1 = 1 := wrap_in _ (by omega)
   have w01' : IntKind.i64.wrap (0 + 1) = 1 := wrap_in _ (by omega)
   simp -dsimp -implicitDefEqProofs [-getElem?_pos, go_sem, hP, t3, t1, s0, wl, hl0, w01, w01']
   refine ⟨_, Weaker.refl _, ?_⟩
   rw [hInv2]
   refine ⟨H8.length, by omega, by simp -dsimp [-getElem?_pos, go_sem, t1], by simp -dsimp [-getElem?_pos, go_sem, t3], by simp -dsimp [-getElem?_pos, go_sem, t6], by simp -dsimp [-getElem?_pos, go_sem, t7], by simp -dsimp [-getElem?_pos, go_sem], by simp -dsimp [-getElem?_pos, go_sem, s0, hl0], ?_, ?_, ?_, ?_, ?_⟩
   ·dsimp only
    rw [List.getElem?_append_left (by simp; omega), List.getElem?_set_ne (by omega)]
    try rw [List.getElem?_set_ne (by omega)]
    exact w2
   ·dsimp only
    rw [List.getElem?_append_left (by simp; omega), List.getElem?_set_ne (by omega)]
    try rw [List.getElem?_set_ne (by omega)]
    exact w3
   ·dsimp only
    rw [List.getElem?_append_left (by simp; omega), List.getElem?_set_ne (by omega)]
    try rw [List.getElem?_set_ne (by omega)]
    exact ho8
   ·dsimp only
    rw [List.getElem?_append_left (by simp; omega), List.getElem?_set_ne (by omega)]
    try rw [List.getElem?_set_ne (by omega)]
    exact wj2
   ·dsimp only
    rw [hl0, ← en]
    simp -dsimp -implicitDefEqProofs [-getElem?_pos, go_sem]
  ·have sjd := (gsI h)
   have nd0 : ¬ jd = 0 := by omega
   have nd0' : ¬ 0 = jd := by omega
   rw [encL_len]
   simp -dsimp -implicitDefEqProofs [-getElem?_pos, go_sem, hP, t3, t1, s0, wl, h, sjd, nd0, nd0', encL_len]
   refine ⟨by omega, by omega, ?_⟩
   refine ⟨_, Weaker.refl _, ?_⟩
   rw [hInv2]
   refine ⟨H8.length, by omega, by simp -dsimp [-getElem?_pos, go_sem, t1], by simp -dsimp [-getElem?_pos, go_sem, t3], by simp -dsimp [-getElem?_pos, go_sem, t6], by simp -dsimp [-getElem?_pos, go_sem, t7], by simp -dsimp [-getElem?_pos, go_sem], by simp -dsimp [-getElem?_pos, go_sem, s0, nd0], ?_, ?_, ?_, ?_, ?_⟩
   ·dsimp only
    rw [List.getElem?_append_left (by simp; omega)]
    repeat rw [List.getElem?_set_ne (by omega)]
    exact w2
   ·dsimp only
    rw [List.getElem?_append_left (by simp; omega)]
    repeat rw [List.getElem?_set_ne (by omega)]
    exact w3
   ·dsimp only
    rw [List.getElem?_append_left (by simp; omega)]
    repeat rw [List.getElem?_set_ne (by omega)]
    exact ho8
   ·dsimp only
    rw [List.getElem?_append_left (by simp; omega)]
    repeat rw [List.getElem?_set_ne (by omega)]
    exact wj2
   ·dsimp only
    rw [← en]
    simp -dsimp -implicitDefEqProofs [-getElem?_pos, go_sem]
 intro s hs'
 rw [hInv2] at hs'
 obtain ⟨b', hb', t1, t3, t6, t7, t13, h0, h2, h3, h4, h5, h6⟩ := hs'
 have r0 := (gsI h0)
 have r2 := (gsI h2)
 have r3 := (gsI h3)
 refine awp_sound _ _ _ (by rw [hN]; kernel_rfl) ?_
 simp -dsimp -implicitDefEqProofs [-getElem?_pos, go_sem, hP]
 refine adrawB (fun i => decide (i = 0) || decide (i = b')) [] hP (by kernel_rfl) (by kernel_rfl) ?_
 simp -dsimp -implicitDefEqProofs [-getElem?_pos, go_sem, hP, t1, t3, t6, t7, t13, h0, r0, h6]
 refine callB_is ((clone_pf_pay L (by omega)).lift _ _) hP en_126 (by simpa using iL) iL ?_
 have n22 : ¬ b' = 2 := by omega
 have n33 : ¬ b' = 3 := by omega
 simp -dsimp -implicitDefEqProofs [-getElem?_pos, go_sem, hP, t1, t13, t6, t7, h2, r2, h3, r3]
 refine ⟨fun i hi => ?_, fun i hi => ?_, ?_⟩
 ·simp only [Bool.or_eq_true, decide_eq_true_eq] at hi
  rw [List.getElem?_set_ne (by omega)]
 ·simp only [Bool.or_eq_true, decide_eq_true_eq] at hi
  rw [List.getElem?_set_ne (by omega)]
 have iB := imm_bat ⟨q.Batches.length + 1, day, L⟩
 refine done_trip (cs' := (TQueue.mk M q.Known (q.Batches ++ [⟨q.Batches.length + 1, day, L⟩])).cells) (ds' := (TBatch.mk (q.Batches.length + 1) day L).cells) ?_ (cw_immL (imm_agg.1 iB)) rfl
 refine cw_srefT (ty := 44) (tl := tl8) ?_ (by rw [encL_len]) (imm_pays _) (cw_sref (ty := 3) (es := intRows q.Known) ?_ (by rw [intRows_len]) (imm_ints _) (cw_sref (ty := 55) (es := encL TBatch.cells (q.Batches ++ [⟨q.Batches.length + 1, day, L⟩])) ?_ (by rw [encL_len]; simp) (imm_bats _) .nil))
 ·rw [List.getElem?_set_ne (by omega), List.getElem?_set_ne (by omega), h4]
 ·rw [List.getElem?_set_ne (by omega), List.getElem?_set_ne (by omega), h5]
 ·rw [List.getElem?_set_ne (by omega), List.getElem?_set_ne (by omega), h6]
open Go.PA
open Go.RowKit
theorem listEq_pf_pays25 (a b : List TPayment) (ha : a.length ≤ 100000) (hb : b.length ≤ 100000) :
  PFun Tryz.prog none none 94 [.list 5 (encL TPayment.cells a), .list 5 (encL TPayment.cells b)] (· = bv (decide (a = b))) := by
 refine pfun_intro Tryz.func94 rfl (by simp [Tryz.f94]) (by kernel_rfl) ?_
 intro E hP hr hs hW hN
 by_cases hlen : a.length = b.length
 rotate_left
 ·have hne : ¬ a = b := fun h => hlen (by rw [h])
  have hl : decide ((a.length : Int) = (b.length : Int)) = false := by simp; omega
  simp -dsimp -implicitDefEqProofs [-getElem?_pos, go_sem, hP, hl, hne]
 have hl : decide ((a.length : Int) = (b.length : Int)) = true := by simp; omega
 simp -dsimp -implicitDefEqProofs [-getElem?_pos, go_sem, hP, hl]
 obtain ⟨I, hI⟩ : ∃ I : Nat → St → Prop, I = fun m s => ∃ k : Nat, k ≤ a.length ∧ m = a.length - k ∧ s.t 0 = .list 5 (encL TPayment.cells a) ∧ s.t 1 = .list 5 (encL TPayment.cells b) ∧ s.t 12 = iv a.length ∧ s.t 13 = iv k ∧ a.take k = b.take k := ⟨_, rfl⟩
 refine aloop0 I (a.length) (by rw [hN]; rfl) ?_ ?_
 ·rw [hI]
  exact ⟨0, by omega, by omega, by simp -dsimp [-getElem?_pos, go_sem], by simp -dsimp [-getElem?_pos, go_sem], by simp -dsimp [-getElem?_pos, go_sem], by simp -dsimp [-getElem?_pos, go_sem], by simp⟩
 intro m s hs'
 rw [hI] at hs'
 obtain ⟨k, hk, hm, t0, t1, t12, t13, heq⟩ := hs'
 simp -dsimp -implicitDefEqProofs [-getElem?_pos, go_sem, hP, t12, t13]
 refine condP (fun h => ?_) (fun h => ?_)
 ·have hk : k < a.length := by simpa using h
  obtain ⟨x, hx⟩ : ∃ x, a[k]? = some x := ⟨_, List.getElem?_eq_getElem hk⟩
  obtain ⟨y, hy⟩ : ∃ y, b[k]? = some y := ⟨_, List.getElem?_eq_getElem (by omega)⟩
  have wk := wrap_in ((k : Int) + 1) (by omega)
  have tx : a.take (k + 1) = a.take k ++ [x] := by rw [List.take_add_one, hx]; rfl
  have ty : b.take (k + 1) = b.take k ++ [y] := by rw [List.take_add_one, hy]; rfl
  simp -dsimp -implicitDefEqProofs [-getElem?_pos, go_sem, hP, t13]
  refine adrawB (fun _ => true) [] hP (by kernel_rfl) (by kernel_rfl) ?_
  by_cases hxy : x = y
  ·subst hxy
   simp -dsimp -implicitDefEqProofs [-getElem?_pos, go_sem, hP, t0, t1, hx, hy, TPayment.cells, t13, wk]
   refine ⟨a.length - (k + 1), by omega, ?_⟩
   rw [hI]
   exact ⟨k + 1, by omega, rfl, by simp -dsimp [-getElem?_pos, go_sem, t0], by simp -dsimp [-getElem?_pos, go_sem, t1], by simp -dsimp [-getElem?_pos, go_sem, t12], by simp -dsimp [-getElem?_pos, go_sem], by rw [tx, ty, heq]⟩
  ·have hne : ¬ a = b := fun h => by
    subst h
    rw [hx] at hy
    exact hxy (Option.some.inj hy)
   simp -dsimp -implicitDefEqProofs [-getElem?_pos, go_sem, hP, t0, t1, hx, hy, TPayment.cells, t13, wk]
   refine condP (fun h => ?_) (fun h => ?_)
   ·simp -dsimp -implicitDefEqProofs [-getElem?_pos, go_sem, hP, hne]
   ·exact absurd (by cases x; cases y; simp at h; simp [h]) hxy
 ·have hk : k = a.length := by simp at h; omega
  subst hk
  rw [List.take_length] at heq
  rw [hlen, List.take_length] at heq
  simp -dsimp -implicitDefEqProofs [-getElem?_pos, go_sem, hP, heq]
theorem listEq_pf_ints25 (a b : List Int) (ha : a.length ≤ 100000) (hb : b.length ≤ 100000) :
  PFun Tryz.prog none none 147 [.list 1 (encL encI a), .list 1 (encL encI b)] (· = bv (decide (a = b))) := by
 refine pfun_intro Tryz.func147 rfl (by simp [Tryz.f147]) (by kernel_rfl) ?_
 intro E hP hr hs hW hN
 by_cases hlen : a.length = b.length
 rotate_left
 ·have hne : ¬ a = b := fun h => hlen (by rw [h])
  have hl : decide ((a.length : Int) = (b.length : Int)) = false := by simp; omega
  simp -dsimp -implicitDefEqProofs [-getElem?_pos, go_sem, hP, hl, hne]
 have hl : decide ((a.length : Int) = (b.length : Int)) = true := by simp; omega
 simp -dsimp -implicitDefEqProofs [-getElem?_pos, go_sem, hP, hl]
 obtain ⟨I, hI⟩ : ∃ I : Nat → St → Prop, I = fun m s => ∃ k : Nat, k ≤ a.length ∧ m = a.length - k ∧ s.t 0 = .list 1 (encL encI a) ∧ s.t 1 = .list 1 (encL encI b) ∧ s.t 12 = iv a.length ∧ s.t 13 = iv k ∧ a.take k = b.take k := ⟨_, rfl⟩
 refine aloop0 I (a.length) (by rw [hN]; rfl) ?_ ?_
 ·rw [hI]
  exact ⟨0, by omega, by omega, by simp -dsimp [-getElem?_pos, go_sem], by simp -dsimp [-getElem?_pos, go_sem], by simp -dsimp [-getElem?_pos, go_sem], by simp -dsimp [-getElem?_pos, go_sem], by simp⟩
 intro m s hs'
 rw [hI] at hs'
 obtain ⟨k, hk, hm, t0, t1, t12, t13, heq⟩ := hs'
 simp -dsimp -implicitDefEqProofs [-getElem?_pos, go_sem, hP, t12, t13]
 refine condP (fun h => ?_) (fun h => ?_)
 ·have hk : k < a.length := by simpa using h
  obtain ⟨x, hx⟩ : ∃ x, a[k]? = some x := ⟨_, List.getElem?_eq_getElem hk⟩
  obtain ⟨y, hy⟩ : ∃ y, b[k]? = some y := ⟨_, List.getElem?_eq_getElem (by omega)⟩
  have wk := wrap_in ((k : Int) + 1) (by omega)
  have tx : a.take (k + 1) = a.take k ++ [x] := by rw [List.take_add_one, hx]; rfl
  have ty : b.take (k + 1) = b.take k ++ [y] := by rw [List.take_add_one, hy]; rfl
  simp -dsimp -implicitDefEqProofs [-getElem?_pos, go_sem, hP, t13]
  refine adrawB (fun _ => true) [] hP (by kernel_rfl) (by kernel_rfl) ?_
  by_cases hxy : x = y
  ·subst hxy
   simp -dsimp -implicitDefEqProofs [-getElem?_pos, go_sem, hP, t0, t1, hx, hy, encI, t13, wk]
   refine ⟨a.length - (k + 1), by omega, ?_⟩
   rw [hI]
   exact ⟨k + 1, by omega, rfl, by simp -dsimp [-getElem?_pos, go_sem, t0], by simp -dsimp [-getElem?_pos, go_sem, t1], by simp -dsimp [-getElem?_pos, go_sem, t12], by simp -dsimp [-getElem?_pos, go_sem], by rw [tx, ty, heq]⟩
  ·have hne : ¬ a = b := fun h => by
    subst h
    rw [hx] at hy
    exact hxy (Option.some.inj hy)
   have dxy : decide (x = y) = false := decide_eq_false hxy
   simp -dsimp -implicitDefEqProofs [-getElem?_pos, go_sem, hP, t0, t1, hx, hy, encI, t13, wk, dxy, hne]
 ·have hk : k = a.length := by simp at h; omega
  subst hk
  rw [List.take_length] at heq
  rw [hlen, List.take_length] at heq
  simp -dsimp -implicitDefEqProofs [-getElem?_pos, go_sem, hP, heq]
theorem batch25_pf (a b : TBatch) (ha : a.Payments.length ≤ 100000) (hb : b.Payments.length ≤ 100000) : PFun Tryz.prog none none 41 [.agg a.cells, .agg b.cells] (· = bv (decide (a = b))) := by
 refine pfun_intro Tryz.func41 rfl (by simp [Tryz.f41]) (by kernel_rfl) ?_
 intro E hP hr hs hW hN
 obtain ⟨n, d, l⟩ := a
 obtain ⟨n', d', l'⟩ := b
 simp only at ha hb
 have ip := imm_pays l
 have ip' := imm_pays l'
 obtain ⟨R, hR⟩ : ∃ R, R = decide ((⟨n, d, l⟩ : TBatch) = ⟨n', d', l'⟩) := ⟨_, rfl⟩
 rw [← hR]
 simp only [TBatch.mk.injEq] at hR
 simp -dsimp -implicitDefEqProofs [-getElem?_pos, go_sem, hP, cBt]
 by_cases c1 : n = n'
 rotate_left
 ·have d1 : decide (n = n') = false := decide_eq_false c1
  simp [c1] at hR
  simp -dsimp -implicitDefEqProofs [-getElem?_pos, go_sem, hP, d1, hR]
 have d1 : decide (n = n') = true := decide_eq_true c1
 by_cases c2 : d = d'
 rotate_left
 ·have d2 : decide (d = d') = false := decide_eq_false c2
  simp [c2] at hR
  simp -dsimp -implicitDefEqProofs [-getElem?_pos, go_sem, hP, d1, d2, hR]
 have d2 : decide (d = d') = true := decide_eq_true c2
 simp -dsimp -implicitDefEqProofs [-getElem?_pos, go_sem, hP, d1, d2]
 refine callB_is ((listEq_pf_pays25 l l' ha hb).lift _ _) hP en_94 (by simp [ip, ip']) .sc ?_
 simp [c1, c2] at hR
 simp -dsimp -implicitDefEqProofs [-getElem?_pos, go_sem, hP, hR]
theorem ready25_pf (q : TQueue) (day : Int) (hf : FitQ q) : PFun Tryz.prog none none 20 [.agg q.cells, iv day] (· = paysL (readyQ q day)) := by
 refine pfun_intro Tryz.func20 rfl (by simp [Tryz.f20]) (by kernel_rfl) ?_
 intro E hP hr hs hW hN
 have ck := rcheck25_pf q hf
 have iq := imm_que q
 have ip := imm_pays q.Waiting
 have i2 := imm_ints q.Known
 have i3 := imm_bats q.Batches
 rw [cQu] at ck iq
 simp only [intsL] at i2 ck iq
 simp -dsimp -implicitDefEqProofs [-getElem?_pos, go_sem, hP, cQu, intsL]
 refine callB_is (ck.lift _ _) hP en_64 (by simpa using iq) .sc ?_
 by_cases c1 : checkQ q = 0
 rotate_left
 ·have : readyQ q day = [] := by rw [readyQ, if_neg c1]
  simp -dsimp -implicitDefEqProofs [-getElem?_pos, go_sem, hP, c1]
  exact done_weak .nil (imm_list.2 (by simp)) (.nil 5) (by rw [this]; rfl)
 have hrd : readyQ q day = q.Waiting.filter (fun p => decide (p.Due ≤ day)) := by rw [readyQ, if_pos c1]
 rw [hrd]
 obtain ⟨l, hl⟩ : ∃ l, l = q.Waiting := ⟨_, rfl⟩
 have lw := hf.w
 rw [← hl] at lw ⊢
 simp -dsimp -implicitDefEqProofs [-getElem?_pos, go_sem, hP, c1]
 refine aloop_own 5 44 5 (by simp -dsimp [-getElem?_pos, go_sem]) ?_
 obtain ⟨I, hI⟩ : ∃ I : Nat → St → Prop, I = fun m s => ∃ (k id : Nat) (ys : List TPayment), k ≤ l.length ∧ m = l.length - k ∧ ys = (l.take k).filter (fun p => decide (p.Due ≤ day)) ∧ ys.length ≤ k ∧ s.t 1 = iv day ∧ s.t 12 = paysL l ∧ s.t 13 = iv l.length ∧ s.t 14 = iv k ∧ s.t 5 = .sref id 0 ys.length ∧ s.H[id]? = some (some ⟨44, 5, encL TPayment.cells ys⟩) := ⟨_, rfl⟩
 refine aloopF 5 hW I (l.length) (by rw [hN]; rfl) ?_ ?_
 ·rw [hI]
  exact ⟨0, 1, [], by omega, by omega, by simp, by simp, by simp -dsimp [-getElem?_pos, go_sem], by simp -dsimp [-getElem?_pos, go_sem, hl], by simp -dsimp [-getElem?_pos, go_sem, hl], by simp -dsimp [-getElem?_pos, go_sem], by simp -dsimp [-getElem?_pos, go_sem], by simp -dsimp [-getElem?_pos, go_sem]⟩
 intro m s hs'
 rw [hI] at hs'
 obtain ⟨k, id, ys, hk, hm, hys, hyl, t1, t12, t13, t14, t5, hH⟩ := hs'
 have hlt := (gsI hH)
 simp -dsimp -implicitDefEqProofs [-getElem?_pos, go_sem, hP, t13, t14]
 refine condP (fun h => ?_) (fun h => ?_)
 ·have hk : k < l.length := by simpa using h
  obtain ⟨x, hx⟩ : ∃ x, l[k]? = some x := ⟨_, List.getElem?_eq_getElem hk⟩
  have wk := wrap_in ((k : Int) + 1) (by omega)
  have nx : (l.take (k + 1)).filter (fun p => decide (p.Due ≤ day)) = if x.Due ≤ day then ys ++ [x] else ys := by
   rw [take_at hx, List.filter_append, ← hys]
   by_cases c : x.Due ≤ day <;> simp [c]
  by_cases c : x.Due ≤ day
  ·rw [if_pos c] at nx
   have d : decide (x.Due ≤ day) = true := decide_eq_true c
   have nid : ¬ id = s.H.length := by omega
   simp -dsimp -implicitDefEqProofs [-getElem?_pos, go_sem, hP, t14, t12, hx, cPy, t1, d, wk, t5, hH, hlt]
   refine ⟨by omega, by omega, ?_⟩
   refine ⟨l.length - (k + 1), by omega, ?_⟩
   rw [hI]
   exact ⟨k + 1, s.H.length + 1, ys ++ [x], by omega, rfl, nx.symm, by simp; omega, by simp -dsimp [-getElem?_pos, go_sem, t1], by simp -dsimp [-getElem?_pos, go_sem, t12], by simp -dsimp [-getElem?_pos, go_sem, t13], by simp -dsimp [-getElem?_pos, go_sem], by simp -dsimp [-getElem?_pos, go_sem], by rw [← encL_snoc]; simp -dsimp -implicitDefEqProofs [-getElem?_pos, go_sem, cPy]⟩
  ·rw [if_neg c] at nx
   have d : decide (x.Due ≤ day) = false := decide_eq_false c
   simp -dsimp -implicitDefEqProofs [-getElem?_pos, go_sem, hP, t14, t12, hx, cPy, t1, d, wk]
   refine ⟨l.length - (k + 1), by omega, ?_⟩
   rw [hI]
   exact ⟨k + 1, id, ys, by omega, rfl, nx.symm, by omega, by simp -dsimp [-getElem?_pos, go_sem, t1], by simp -dsimp [-getElem?_pos, go_sem, t12], by simp -dsimp [-getElem?_pos, go_sem, t13], by simp -dsimp [-getElem?_pos, go_sem], by simp -dsimp [-getElem?_pos, go_sem, t5], by simp -dsimp [-getElem?_pos, go_sem, hH, hlt]⟩
 ·have hk : k = l.length := by simp at h; omega
  subst hk
  rw [List.take_length] at hys
  refine frz id _ 44 5 (encL TPayment.cells ys) t5 hH (by rw [encL_len]) (imm_pays _) ?_
  simp -dsimp -implicitDefEqProofs [-getElem?_pos, go_sem, hP]
  exact done_imm (imm_pays _) (by rw [hys])
open Go.PA
open Go.RowKit
theorem ins_step {α : Type} {lt : α → α → Bool} {x a : α} {l : List α} (h : lt x a = true) : ins lt (x :: l) a = x :: ins lt l a := by
 simp [ins, h]
theorem ins_stop {α : Type} {lt : α → α → Bool} {x a : α} {l : List α} (h : lt x a = false) : ins lt (x :: l) a = a :: x :: l := by
 simp [ins, h]
theorem ins_nil {α : Type} {lt : α → α → Bool} {a : α} : ins lt [] a = [a] := rfl
set_option maxHeartbeats 1000000 in
theorem put25_pf (q : TQueue) (p : TPayment) (hf : FitQ q) : PFun Tryz.prog none none 150 [.agg q.cells, .agg p.cells] (· = .agg (TQueue.mk (ins befB q.Waiting p) q.Known q.Batches).cells) := by
 refine pfun_introA Tryz.func150 rfl (by simp [Tryz.f150]) ?_
 intro E hP hr hs hW hN
 obtain ⟨l, K, bs⟩ := q
 have lw : l.length ≤ 100000 := hf.w
 have ip := imm_pays l
 have i2 := imm_ints K
 have i3 := imm_bats bs
 have ipp := imm_pay p
 simp only [intsL] at i2
 rw [cPy] at ipp
 simp only [cQu, intsL]
 refine awp_cut (by rw [hN]; kernel_rfl) ?_
 simp -dsimp -implicitDefEqProofs [-getElem?_pos, go_sem, hP, cQu, cPy, intsL]
 refine awp_cut (by rw [hN]; kernel_rfl) ?_
 simp -dsimp -implicitDefEqProofs [-getElem?_pos, go_sem, hP]
 obtain ⟨Inv, hInv⟩ : ∃ Inv : St → Prop, Inv = fun s => ∃ k : Nat, k ≤ l.length ∧ ins befB l p = l.take k ++ p :: l.drop k ∧ s.t 2 = .ref 0 0 0 ∧ s.t 3 = .ref 1 0 0 ∧ s.t 4 = .ref 2 0 0 ∧ s.t 5 = iv k ∧ s.H = [some ⟨32, 3, [[paysL l, .list 1 (K.map fun x => [iv x]), batsL bs]]⟩, some ⟨44, 5, [[iv p.Warrant, iv p.Payee, iv p.Amount, iv p.Due, iv p.Sub]]⟩, some ⟨32, 3, [[.nil, .nil, .nil]]⟩] := ⟨_, rfl⟩
 refine awp_join Inv (by rw [hN]; kernel_rfl) ?_ ?_
 rotate_left
 ·intro s hs'
  rw [hInv] at hs'
  obtain ⟨k, hk, hi, t2, t3, t4, t5, hH⟩ := hs'
  refine awp_sound _ _ _ (by rw [hN]; kernel_rfl) ?_
  simp -dsimp -implicitDefEqProofs [-getElem?_pos, go_sem, hP]
  refine adrawB (fun i => decide (i < 3)) [14] hP (by kernel_rfl) (by kernel_rfl) ?_
  have D : ∀ i, decide (i < 3) = true → i = 0 ∨ i = 1 ∨ i = 2 := fun i hi => by
   simp only [decide_eq_true_eq] at hi
   omega
  obtain ⟨A, hA⟩ : ∃ A, A = l.take k := ⟨_, rfl⟩
  obtain ⟨B, hB⟩ : ∃ B, B = l.drop k := ⟨_, rfl⟩
  have lA : A.length = k := by rw [hA, List.length_take]; omega
  have lB : B.length = l.length - k := by rw [hB, List.length_drop]
  rw [← hA, ← hB] at hi
  simp -dsimp -implicitDefEqProofs [-getElem?_pos, go_sem, hP, t2, t3, t5, hH, asliceOp, bound, aslice, hk, encL_takeE, encL_dropE, ← hA, ← hB, lA, lB]
  refine ⟨by omega, by omega, fun i hi => ?_, by omega, by omega, fun i hi => ?_, by omega, by omega, fun i hi => ?_, ?_⟩
  ·rcases D i hi with rfl | rfl | rfl <;> rfl
  ·rcases D i hi with rfl | rfl | rfl <;> rfl
  ·rcases D i hi with rfl | rfl | rfl <;> rfl
  simp -dsimp -implicitDefEqProofs [-getElem?_pos, go_sem, hP, t4]
  refine done_agg (cs' := (TQueue.mk (ins befB l p) K bs).cells) ?_ rfl
  refine cw_sref (ty := 44) (es := encL TPayment.cells (ins befB l p)) ?_ (by rw [encL_len, hi, List.length_append, List.length_cons]; omega) (imm_pays _) (cw_imm i2 (cw_imm i3 .nil))
  simp -dsimp -implicitDefEqProofs [-getElem?_pos, go_sem, hi]
  simp [encL, cPy]
 simp -dsimp -implicitDefEqProofs [-getElem?_pos, go_sem, hP]
 obtain ⟨I, hI⟩ : ∃ I : Nat → St → Prop, I = fun m s => ∃ k : Nat, k ≤ l.length ∧ m = l.length - k ∧ ins befB l p = l.take k ++ ins befB (l.drop k) p ∧ s.t 2 = .ref 0 0 0 ∧ s.t 3 = .ref 1 0 0 ∧ s.t 4 = .ref 2 0 0 ∧ s.t 5 = iv k ∧ s.H = [some ⟨32, 3, [[paysL l, .list 1 (K.map fun x => [iv x]), batsL bs]]⟩, some ⟨44, 5, [[iv p.Warrant, iv p.Payee, iv p.Amount, iv p.Due, iv p.Sub]]⟩, some ⟨32, 3, [[.nil, .nil, .nil]]⟩] := ⟨_, rfl⟩
 refine aloop0 I (l.length) (by rw [hN]; rfl) ?_ ?_
 ·rw [hI]
  exact ⟨0, by omega, by omega, by simp, by simp -dsimp [-getElem?_pos, go_sem], by simp -dsimp [-getElem?_pos, go_sem], by simp -dsimp [-getElem?_pos, go_sem], by simp -dsimp [-getElem?_pos, go_sem], by simp -dsimp [-getElem?_pos, go_sem]⟩
 intro m s hs'
 rw [hI] at hs'
 obtain ⟨k, hk, hm, hi, t2, t3, t4, t5, hH⟩ := hs'
 simp -dsimp -implicitDefEqProofs [-getElem?_pos, go_sem, hP]
 refine adrawB (fun _ => true) [] hP (by kernel_rfl) (by kernel_rfl) ?_
 have ag : ∀ X : Heap, X = s.H → Agree (fun _ => true) s.H X := fun X e i _ => by rw [e]
 by_cases c : k < l.length
 ·obtain ⟨x, hx⟩ : ∃ x, l[k]? = some x := ⟨_, List.getElem?_eq_getElem c⟩
  have d : decide ((k : Int) < (l.length : Int)) = true := decide_eq_true (by omega)
  have ix := imm_pay x
  have bf := rbefore_pf x p
  rw [cPy, cPy] at bf
  rw [cPy] at ix
  rw [drop_at hx] at hi
  have wk := wrap_in ((k : Int) + 1) (by omega)
  simp -dsimp -implicitDefEqProofs [-getElem?_pos, go_sem, hP, t2, t5, t3, hH, d, c, hx, cPy]
  refine callB_is (bf.lift _ _) hP en_170 (by simpa using ⟨ix, ipp⟩) .sc ?_
  cases cb : befB x p
  rotate_left
  ·rw [ins_step cb] at hi
   simp -dsimp -implicitDefEqProofs [-getElem?_pos, go_sem, hP, cb, t5, wk]
   refine ⟨ag _ hH.symm, ?_⟩
   refine ⟨l.length - (k + 1), by omega, ?_⟩
   rw [hI]
   exact ⟨k + 1, by omega, rfl, by rw [hi, take_at hx]; simp, by simp -dsimp [-getElem?_pos, go_sem, t2], by simp -dsimp [-getElem?_pos, go_sem, t3], by simp -dsimp [-getElem?_pos, go_sem, t4], by simp -dsimp [-getElem?_pos, go_sem], by simp -dsimp [-getElem?_pos, go_sem, hH]⟩
  ·rw [ins_stop cb, ← drop_at hx] at hi
   simp -dsimp -implicitDefEqProofs [-getElem?_pos, go_sem, hP, cb, t5]
   refine ⟨ag _ hH.symm, ?_⟩
   refine ⟨_, Weaker.refl _, ?_⟩
   rw [hInv]
   exact ⟨k, hk, hi, by simp -dsimp [-getElem?_pos, go_sem, t2], by simp -dsimp [-getElem?_pos, go_sem, t3], by simp -dsimp [-getElem?_pos, go_sem, t4], by simp -dsimp [-getElem?_pos, go_sem, t5], by simp -dsimp [-getElem?_pos, go_sem, hH]⟩
 ·have hk : k = l.length := by omega
  have d : decide ((k : Int) < (l.length : Int)) = false := decide_eq_false (by omega)
  rw [List.drop_of_length_le (by omega), ins_nil] at hi
  simp -dsimp -implicitDefEqProofs [-getElem?_pos, go_sem, hP, t2, t5, t3, hH, d, c]
  refine ⟨_, Weaker.refl _, ?_⟩
  rw [hInv]
  exact ⟨k, by omega, by rw [hi, List.drop_of_length_le (by omega)], by simp -dsimp [-getElem?_pos, go_sem, t2], by simp -dsimp [-getElem?_pos, go_sem, t3], by simp -dsimp [-getElem?_pos, go_sem, t4], by simp -dsimp [-getElem?_pos, go_sem, t5], by simp -dsimp [-getElem?_pos, go_sem, hH]⟩
set_option maxHeartbeats 1000000 in
theorem again25_pf (q : TQueue) (p : TPayment) (hf : FitQ q) : PFun Tryz.prog none none 97 [.agg q.cells, .agg p.cells] (· = .tup [.agg (againQ q p).1.cells, iv (againQ q p).2]) := by
 refine pfun_intro Tryz.func97 rfl (by simp [Tryz.f97]) (by kernel_rfl) ?_
 intro E hP hr hs hW hN
 have ck := rcheck25_pf q hf
 have iq := imm_que q
 have ipp := imm_pay p
 have ip := imm_pays q.Waiting
 have i2 := imm_ints q.Known
 have i3 := imm_bats q.Batches
 have ct := rknown_pf q p.Warrant (by have := hf.k; omega)
 have wt := rwaits_pf q p.Warrant (by have := hf.w; omega)
 have py := rpay_pf p
 have pt := put25_pf q p hf
 have iqq := imm_que ⟨ins befB q.Waiting p, q.Known, q.Batches⟩
 rw [cPy] at py
 rw [cQu] at ck iq wt ct pt
 rw [cPy] at ipp pt
 simp only [intsL] at i2 ck iq ct wt pt
 simp -dsimp -implicitDefEqProofs [-getElem?_pos, go_sem, hP, cQu, cPy, intsL]
 refine callB_is (ck.lift _ _) hP en_64 (by simpa using iq) .sc ?_
 by_cases c1 : checkQ q = 0
 rotate_left
 ·have : againQ q p = (zeroQ, checkQ q) := by rw [againQ, if_neg c1]
  simp -dsimp -implicitDefEqProofs [-getElem?_pos, go_sem, hP, c1]
  refine done_zeroQ ?_
  rw [this]
 have hq := checkQ_iff.1 c1
 simp -dsimp -implicitDefEqProofs [-getElem?_pos, go_sem, hP, c1]
 refine callB_is (py.lift _ _) hP en_85 (by simpa using ipp) .sc ?_
 cases c2 : payB p
 ·have : againQ q p = (zeroQ, 64) := by rw [againQ, if_pos c1, if_neg (by simp [c2])]
  simp -dsimp -implicitDefEqProofs [-getElem?_pos, go_sem, hP, c2]
  refine done_zeroQ ?_
  rw [this]
 simp -dsimp -implicitDefEqProofs [-getElem?_pos, go_sem, hP, c2]
 refine callB_is (ct.lift _ _) hP en_149 (by simpa [imm_sc] using iq) .sc ?_
 by_cases c3 : p.Warrant ∈ q.Known
 rotate_left
 ·have : againQ q p = (zeroQ, 6) := by rw [againQ, if_pos c1, if_pos c2, if_neg c3]
  simp -dsimp -implicitDefEqProofs [-getElem?_pos, go_sem, hP, c2, c3]
  refine done_zeroQ ?_
  rw [this]
 simp -dsimp -implicitDefEqProofs [-getElem?_pos, go_sem, hP, c2, c3]
 refine callB_is (wt.lift _ _) hP en_152 (by simpa [imm_sc] using iq) .sc ?_
 by_cases c4 : 0 ≤ waitQ q p.Warrant
 ·have d4 : decide (0 ≤ waitQ q p.Warrant) = true := decide_eq_true c4
  have : againQ q p = (zeroQ, 65) := by rw [againQ, if_pos c1, if_pos c2, if_pos c3, if_pos c4]
  simp -dsimp -implicitDefEqProofs [-getElem?_pos, go_sem, hP, d4]
  refine done_zeroQ ?_
  rw [this]
 have d4 : decide (0 ≤ waitQ q p.Warrant) = false := decide_eq_false c4
 by_cases c5 : q.Waiting.length = 100
 ·have d5 : decide ((q.Waiting.length : Int) = 100) = true := decide_eq_true (by omega)
  have : againQ q p = (zeroQ, 3) := by rw [againQ, if_pos c1, if_pos c2, if_pos c3, if_neg c4, if_pos c5]
  simp -dsimp -implicitDefEqProofs [-getElem?_pos, go_sem, hP, d4, d5]
  refine done_zeroQ ?_
  rw [this]
 have d5 : decide ((q.Waiting.length : Int) = 100) = false := decide_eq_false (by omega)
 have hag : againQ q p = (⟨ins befB q.Waiting p, q.Known, q.Batches⟩, 0) := by rw [againQ, if_pos c1, if_pos c2, if_pos c3, if_neg c4, if_neg c5]
 rw [hag]
 simp -dsimp -implicitDefEqProofs [-getElem?_pos, go_sem, hP, d4, d5]
 refine callB_is (pt.lift _ _) hP en_150 (by simp [iq, ipp]) iqq ?_
 simp -dsimp -implicitDefEqProofs [-getElem?_pos, go_sem, hP, cQu, intsL]
 rw [cQu] at iqq
 exact done_imm (imm_pair iqq .sc) rfl
set_option maxHeartbeats 1000000 in
theorem drop25_pf (q : TQueue) (w : Int) (hf : FitQ q) : PFun Tryz.prog none none 96 [.agg q.cells, iv w] (· = .tup [.agg (dropQ q w).1.cells, iv (dropQ q w).2]) := by
 refine pfun_intro Tryz.func96 rfl (by simp [Tryz.f96]) (by kernel_rfl) ?_
 intro E hP hr hs hW hN
 have ck := rcheck25_pf q hf
 have iq := imm_que q
 have ip := imm_pays q.Waiting
 have i2 := imm_ints q.Known
 have i3 := imm_bats q.Batches
 have wt := rwaits_pf q w (by have := hf.w; omega)
 rw [cQu] at ck iq wt
 simp only [intsL] at i2 ck iq wt
 simp -dsimp -implicitDefEqProofs [-getElem?_pos, go_sem, hP, cQu, intsL]
 refine callB_is (ck.lift _ _) hP en_64 (by simpa using iq) .sc ?_
 by_cases c1 : checkQ q = 0
 rotate_left
 ·have : dropQ q w = (zeroQ, checkQ q) := by rw [dropQ, if_neg c1]
  simp -dsimp -implicitDefEqProofs [-getElem?_pos, go_sem, hP, c1]
  refine done_zeroQ ?_
  rw [this]
 have hq := checkQ_iff.1 c1
 simp -dsimp -implicitDefEqProofs [-getElem?_pos, go_sem, hP, c1]
 refine callB_is (wt.lift _ _) hP en_152 (by simpa [imm_sc] using iq) .sc ?_
 by_cases c2 : waitQ q w < 0
 ·have d2 : decide (waitQ q w < 0) = true := decide_eq_true c2
  have : dropQ q w = (zeroQ, 6) := by rw [dropQ, if_pos c1, if_pos c2]
  simp -dsimp -implicitDefEqProofs [-getElem?_pos, go_sem, hP, d2]
  refine done_zeroQ ?_
  rw [this]
 have d2 : decide (waitQ q w < 0) = false := decide_eq_false c2
 obtain ⟨i, p, hi, hip, hpw, hil⟩ := waitQ_some c2
 have hdr : dropQ q w = (⟨q.Waiting.eraseIdx i, q.Known, q.Batches⟩, 0) := by rw [dropQ, if_pos c1, if_neg c2, hi]; rfl
 rw [hdr]
 rw [hi] at d2
 have lw := hq.lw
 have w1 := wrap_in ((i : Int) + 1) (by omega)
 obtain ⟨K, hK⟩ : ∃ K, K = q.Known := ⟨_, rfl⟩
 obtain ⟨bs, hbs⟩ : ∃ bs, bs = q.Batches := ⟨_, rfl⟩
 obtain ⟨l, hl⟩ : ∃ l, l = q.Waiting := ⟨_, rfl⟩
 rw [← hK, ← hbs, ← hl]
 rw [← hl] at hil lw ip
 rw [← hK] at i2
 rw [← hbs] at i3
 simp -dsimp -implicitDefEqProofs [-getElem?_pos, go_sem, hP, hi, d2]
 refine adrawB (fun i => decide (i < 2)) [12] hP (by kernel_rfl) (by kernel_rfl) ?_
 have D : ∀ i, decide (i < 2) = true → i = 0 ∨ i = 1 := fun i hi => by
  simp only [decide_eq_true_eq] at hi
  omega
 obtain ⟨A, hA⟩ : ∃ A, A = l.take i := ⟨_, rfl⟩
 obtain ⟨B, hB⟩ : ∃ B, B = l.drop (i + 1) := ⟨_, rfl⟩
 have lA : A.length = i := by rw [hA, List.length_take]; omega
 have lB : B.length = l.length - (i + 1) := by rw [hB, List.length_drop]
 have he : l.eraseIdx i = A ++ B := by rw [hA, hB]; exact List.eraseIdx_eq_take_drop_succ _ _
 have g1 : i ≤ l.length := by omega
 have g2 : (i : Int) + 1 ≤ l.length := by omega
 have g3 : (0 : Int) ≤ (i : Int) + 1 := by omega
 have g4 : ((i : Int) + 1).toNat = i + 1 := by omega
 simp -dsimp -implicitDefEqProofs [-getElem?_pos, go_sem, hP, hi, asliceOp, bound, aslice, ← hl, w1, g1, g2, g3, g4, encL_takeE, encL_dropE, ← hA, ← hB, lA, lB]
 refine ⟨by omega, by omega, fun i hi => ?_, by omega, by omega, fun i hi => ?_, ?_⟩
 ·rcases D i hi with rfl | rfl <;> rfl
 ·rcases D i hi with rfl | rfl <;> rfl
 refine done_agg2 (cs' := (TQueue.mk (l.eraseIdx i) K bs).cells) ?_ rfl
 refine cw_sref (ty := 44) (es := encL TPayment.cells (l.eraseIdx i)) ?_ (by rw [encL_len, he, List.length_append]; omega) (imm_pays _) (cw_imm i2 (cw_imm i3 .nil))
 simp -dsimp -implicitDefEqProofs [-getElem?_pos, go_sem, he, encL_appE]
set_option maxHeartbeats 1000000 in
theorem add25_pf (q : TQueue) (p : TPayment) (hf : FitQ q) : PFun Tryz.prog none none 89 [.agg q.cells, .agg p.cells] (· = .tup [.agg (addQ q p).1.cells, iv (addQ q p).2]) := by
 refine pfun_introA Tryz.func89 rfl (by simp [Tryz.f89]) ?_
 intro E hP hr hs hW hN
 have ck := rcheck25_pf q hf
 have iq := imm_que q
 have ipp := imm_pay p
 have ip := imm_pays q.Waiting
 have i2 := imm_ints q.Known
 have i3 := imm_bats q.Batches
 have ct := rknown_pf q p.Warrant (by have := hf.k; omega)
 have py := rpay_pf p
 have pt : checkQ q = 0 → _ := fun c => put25_pf ⟨q.Waiting, ins ltB q.Known p.Warrant, q.Batches⟩ p ⟨hf.w, by have := (checkQ_iff.1 c).lk; simp only [ins_len]; omega, hf.b, hf.each⟩
 have iq2 := imm_que ⟨q.Waiting, ins ltB q.Known p.Warrant, q.Batches⟩
 have iqq := imm_que ⟨ins befB q.Waiting p, ins ltB q.Known p.Warrant, q.Batches⟩
 rw [cPy] at py
 simp only [cQu, cPy, intsL] at ck iq iq2 ct pt ipp iqq i2
 refine awp_cut (by rw [hN]; kernel_rfl) ?_
 simp -dsimp -implicitDefEqProofs [-getElem?_pos, go_sem, hP, cQu, cPy, intsL]
 refine awp_cut (by rw [hN]; kernel_rfl) ?_
 simp -dsimp -implicitDefEqProofs [-getElem?_pos, go_sem, hP]
 refine callB_is (ck.lift _ _) hP en_64 (by simpa using iq) .sc ?_
 by_cases c1 : checkQ q = 0
 rotate_left
 ·have : addQ q p = (zeroQ, checkQ q) := by rw [addQ, if_neg c1]
  simp -dsimp -implicitDefEqProofs [-getElem?_pos, go_sem, hP, c1]
  refine done_zeroQ ?_
  rw [this]; rfl
 have hq := checkQ_iff.1 c1
 have pt := pt c1
 simp -dsimp -implicitDefEqProofs [-getElem?_pos, go_sem, hP, c1]
 refine awp_cut (by rw [hN]; kernel_rfl) ?_
 simp -dsimp -implicitDefEqProofs [-getElem?_pos, go_sem, hP]
 refine callB_is (py.lift _ _) hP en_85 (by simpa using ipp) .sc ?_
 cases c2 : payB p
 ·have : addQ q p = (zeroQ, 64) := by rw [addQ, if_pos c1, if_neg (by simp [c2])]
  simp -dsimp -implicitDefEqProofs [-getElem?_pos, go_sem, hP, c2]
  refine done_zeroQ ?_
  rw [this]; rfl
 simp -dsimp -implicitDefEqProofs [-getElem?_pos, go_sem, hP, c2]
 refine callB_is (ct.lift _ _) hP en_149 (by simpa [imm_sc] using iq) .sc ?_
 by_cases c3 : p.Warrant ∈ q.Known
 ·have : addQ q p = (zeroQ, 65) := by rw [addQ, if_pos c1, if_pos c2, if_pos c3]
  simp -dsimp -implicitDefEqProofs [-getElem?_pos, go_sem, hP, c2, c3]
  refine done_zeroQ ?_
  rw [this]; rfl
 by_cases c4 : q.Waiting.length = 100
 ·have d4 : decide ((q.Waiting.length : Int) = 100) = true := decide_eq_true (by omega)
  have : addQ q p = (zeroQ, 3) := by rw [addQ, if_pos c1, if_pos c2, if_neg c3, if_pos (.inl c4)]
  simp -dsimp -implicitDefEqProofs [-getElem?_pos, go_sem, hP, c2, c3, d4]
  refine done_zeroQ ?_
  rw [this]; rfl
 have d4 : decide ((q.Waiting.length : Int) = 100) = false := decide_eq_false (by omega)
 by_cases c5 : q.Known.length = 200
 ·have d5 : decide ((q.Known.length : Int) = 200) = true := decide_eq_true (by omega)
  have : addQ q p = (zeroQ, 3) := by rw [addQ, if_pos c1, if_pos c2, if_neg c3, if_pos (.inr c5)]
  simp -dsimp -implicitDefEqProofs [-getElem?_pos, go_sem, hP, c2, c3, d4, d5]
  refine done_zeroQ ?_
  rw [this]; rfl
 have d5 : decide ((q.Known.length : Int) = 200) = false := decide_eq_false (by omega)
 have hadd : addQ q p = (⟨ins befB q.Waiting p, ins ltB q.Known p.Warrant, q.Batches⟩, 0) := by rw [addQ, if_pos c1, if_pos c2, if_neg c3, if_neg (by omega)]
 rw [hadd]
 simp -dsimp -implicitDefEqProofs [-getElem?_pos, go_sem, hP, c2, c3, d4, d5]
 refine awp_cut (by rw [hN]; kernel_rfl) ?_
 simp -dsimp -implicitDefEqProofs [-getElem?_pos, go_sem, hP]
 obtain ⟨l, hl⟩ : ∃ l, l = q.Known := ⟨_, rfl⟩
 obtain ⟨W, hWt⟩ : ∃ W, W = q.Waiting := ⟨_, rfl⟩
 obtain ⟨bs, hbs⟩ : ∃ bs, bs = q.Batches := ⟨_, rfl⟩
 have lw : l.length ≤ 100000 := by rw [hl]; exact hf.k
 simp only [← hl, ← hWt, ← hbs] at *
 obtain ⟨Inv, hInv⟩ : ∃ Inv : St → Prop, Inv = fun s => ∃ k : Nat, k ≤ l.length ∧ ins ltB l p.Warrant = l.take k ++ p.Warrant :: l.drop k ∧ s.t 2 = .ref 0 0 0 ∧ s.t 3 = .ref 1 0 0 ∧ s.t 4 = .ref 2 0 0 ∧ s.t 7 = iv k ∧ s.H = [some ⟨32, 3, [[paysL W, .list 1 (l.map fun x => [iv x]), batsL bs]]⟩, some ⟨44, 5, [[iv p.Warrant, iv p.Payee, iv p.Amount, iv p.Due, iv p.Sub]]⟩, some ⟨32, 3, [[.nil, .nil, .nil]]⟩] := ⟨_, rfl⟩
 refine awp_join Inv (by rw [hN]; kernel_rfl) ?_ ?_
 rotate_left
 ·intro s hs'
  rw [hInv] at hs'
  obtain ⟨k, hk, hi, t2, t3, t4, t7, hH⟩ := hs'
  refine awp_sound _ _ _ (by rw [hN]; kernel_rfl) ?_
  simp -dsimp -implicitDefEqProofs [-getElem?_pos, go_sem, hP]
  refine adrawB (fun i => decide (i < 3)) [15] hP (by kernel_rfl) (by kernel_rfl) ?_
  have D : ∀ i, decide (i < 3) = true → i = 0 ∨ i = 1 ∨ i = 2 := fun i hi => by
   simp only [decide_eq_true_eq] at hi
   omega
  obtain ⟨A, hA⟩ : ∃ A, A = l.take k := ⟨_, rfl⟩
  obtain ⟨B, hB⟩ : ∃ B, B = l.drop k := ⟨_, rfl⟩
  have lA : A.length = k := by rw [hA, List.length_take]; omega
  have lB : B.length = l.length - k := by rw [hB, List.length_drop]
  have eA : (l.map fun x => [iv x]).take k = A.map fun x => [iv x] := by rw [hA, List.map_take]
  have eB : (l.map fun x => [iv x]).drop k = B.map fun x => [iv x] := by rw [hB, List.map_drop]
  rw [← hA, ← hB] at hi
  simp -dsimp -implicitDefEqProofs [-getElem?_pos, go_sem, hP, t2, t3, t7, hH, asliceOp, bound, aslice, hk, eA, eB, lA, lB]
  refine ⟨by omega, by omega, fun i hi => ?_, by omega, by omega, fun i hi => ?_, by omega, by omega, fun i hi => ?_, ?_⟩
  ·rcases D i hi with rfl | rfl | rfl <;> rfl
  ·rcases D i hi with rfl | rfl | rfl <;> rfl
  ·rcases D i hi with rfl | rfl | rfl <;> rfl
  have eAB : (A.map fun x => [iv x]) ++ [iv p.Warrant] :: (B.map fun x => [iv x]) = intRows (ins ltB l p.Warrant) := by rw [hi]; simp [intRows]
  have lI : k + 1 + (l.length - k) = (intRows (ins ltB l p.Warrant)).length := by rw [intRows_len, ins_len]; omega
  rw [eAB]
  generalize hH6 : (_ :: _ : Heap) = H6
  have b5 : H6[5]? = some (some ⟨3, 1, intRows (ins ltB l p.Warrant)⟩) := by rw [← hH6]; rfl
  have b2 : H6[2]? = some (some ⟨32, 3, [[.nil, .nil, .nil]]⟩) := by rw [← hH6]; rfl
  refine callB_frz (pt.lift _ _) hP hW en_150 (args_agg (cw_imm ip (cw_sref b5 lI (imm_ints _) (cw_imm i3 .nil))) (args_imm ipp (args_nil.2 trivial))) iqq ?_
  generalize hH7 : killAll _ H6 = H7
  have f2 : H7[2]? = some (some ⟨32, 3, [[.nil, .nil, .nil]]⟩) := by
   rw [← hH7]
   show (H6.set 5 none)[2]? = _
   rw [List.getElem?_set_ne (by omega), b2]
  have lt2 := (gsI f2)
  simp -dsimp -implicitDefEqProofs [-getElem?_pos, go_sem, hP, t4, f2, lt2]
  exact done_imm (imm_pair iqq .sc) rfl
 simp -dsimp -implicitDefEqProofs [-getElem?_pos, go_sem, hP]
 obtain ⟨I, hI⟩ : ∃ I : Nat → St → Prop, I = fun m s => ∃ k : Nat, k ≤ l.length ∧ m = l.length - k ∧ ins ltB l p.Warrant = l.take k ++ ins ltB (l.drop k) p.Warrant ∧ s.t 2 = .ref 0 0 0 ∧ s.t 3 = .ref 1 0 0 ∧ s.t 4 = .ref 2 0 0 ∧ s.t 7 = iv k ∧ s.H = [some ⟨32, 3, [[paysL W, .list 1 (l.map fun x => [iv x]), batsL bs]]⟩, some ⟨44, 5, [[iv p.Warrant, iv p.Payee, iv p.Amount, iv p.Due, iv p.Sub]]⟩, some ⟨32, 3, [[.nil, .nil, .nil]]⟩] := ⟨_, rfl⟩
 refine aloop0 I (l.length) (by rw [hN]; rfl) ?_ ?_
 ·rw [hI]
  exact ⟨0, by omega, by omega, by simp, by simp -dsimp [-getElem?_pos, go_sem], by simp -dsimp [-getElem?_pos, go_sem], by simp -dsimp [-getElem?_pos, go_sem], by simp -dsimp [-getElem?_pos, go_sem], by simp -dsimp [-getElem?_pos, go_sem]⟩
 intro m s hs'
 rw [hI] at hs'
 obtain ⟨k, hk, hm, hi, t2, t3, t4, t7, hH⟩ := hs'
 simp -dsimp -implicitDefEqProofs [-getElem?_pos, go_sem, hP]
 refine adrawB (fun _ => true) [] hP (by kernel_rfl) (by kernel_rfl) ?_
 by_cases c : k < l.length
 ·obtain ⟨x, hx⟩ : ∃ x, l[k]? = some x := ⟨_, List.getElem?_eq_getElem c⟩
  have d : decide ((k : Int) < (l.length : Int)) = true := decide_eq_true (by omega)
  rw [drop_at hx] at hi
  have wk := wrap_in ((k : Int) + 1) (by omega)
  by_cases cb : x < p.Warrant
  ·have db : decide (x < p.Warrant) = true := decide_eq_true cb
   rw [ins_step ((ltB_lt _ _).2 cb)] at hi
   simp -dsimp -implicitDefEqProofs [-getElem?_pos, go_sem, hP, t2, t7, t3, hH, d, c, hx, db, wk]
   refine ⟨l.length - (k + 1), by omega, ?_⟩
   rw [hI]
   exact ⟨k + 1, by omega, rfl, by rw [hi, take_at hx]; simp, by simp -dsimp [-getElem?_pos, go_sem, t2], by simp -dsimp [-getElem?_pos, go_sem, t3], by simp -dsimp [-getElem?_pos, go_sem, t4], by simp -dsimp [-getElem?_pos, go_sem], by simp -dsimp [-getElem?_pos, go_sem, hH]⟩
  ·have db : decide (x < p.Warrant) = false := decide_eq_false cb
   rw [ins_stop (show ltB x p.Warrant = false from db), ← drop_at hx] at hi
   simp -dsimp -implicitDefEqProofs [-getElem?_pos, go_sem, hP, t2, t7, t3, hH, d, c, hx, db]
   refine ⟨_, Weaker.refl _, ?_⟩
   rw [hInv]
   exact ⟨k, hk, hi, by simp -dsimp [-getElem?_pos, go_sem, t2], by simp -dsimp [-getElem?_pos, go_sem, t3], by simp -dsimp [-getElem?_pos, go_sem, t4], by simp -dsimp [-getElem?_pos, go_sem, t7], by simp -dsimp [-getElem?_pos, go_sem, hH]⟩
 ·have hk : k = l.length := by omega
  have d : decide ((k : Int) < (l.length : Int)) = false := decide_eq_false (by omega)
  rw [List.drop_of_length_le (by omega), ins_nil] at hi
  simp -dsimp -implicitDefEqProofs [-getElem?_pos, go_sem, hP, t2, t7, t3, hH, d, c]
  refine ⟨_, Weaker.refl _, ?_⟩
  rw [hInv]
  exact ⟨k, by omega, by rw [hi, List.drop_of_length_le (by omega)], by simp -dsimp [-getElem?_pos, go_sem, t2], by simp -dsimp [-getElem?_pos, go_sem, t3], by simp -dsimp [-getElem?_pos, go_sem, t4], by simp -dsimp [-getElem?_pos, go_sem, t7], by simp -dsimp [-getElem?_pos, go_sem, hH]⟩
open Go.PA
open Go.RowKit
set_option maxHeartbeats 1000000 in
theorem same25_pf (a b : TQueue) (ha : FitQ a) (hb : FitQ b) : PFun Tryz.prog none none 82 [.agg a.cells, .agg b.cells] (· = bv (decide (a = b))) := by
 refine pfun_intro Tryz.func82 rfl (by simp [Tryz.f82]) (by kernel_rfl) ?_
 intro E hP hr hs hW hN
 obtain ⟨wa, ka, ba⟩ := a
 obtain ⟨wb, kb, bb⟩ := b
 obtain ⟨a1, a2, a3, a4⟩ := ha
 obtain ⟨b1, b2, b3, b4⟩ := hb
 simp only at a1 a2 a3 a4 b1 b2 b3 b4
 obtain ⟨R, hR⟩ : ∃ R, R = decide ((⟨wa, ka, ba⟩ : TQueue) = ⟨wb, kb, bb⟩) := ⟨_, rfl⟩
 rw [← hR]
 simp only [TQueue.mk.injEq] at hR
 have iwa := imm_pays wa
 have iwb := imm_pays wb
 have ika := imm_ints ka
 have ikb := imm_ints kb
 have iba := imm_bats ba
 have ibb := imm_bats bb
 have li := listEq_pf_ints25 ka kb a2 b2
 have e1 : ∀ l : List Int, encL encI l = l.map fun x => [iv x] := fun _ => rfl
 rw [e1, e1] at li
 simp only [intsL] at ika ikb
 simp -dsimp -implicitDefEqProofs [-getElem?_pos, go_sem, hP, cQu, intsL]
 refine callB_is ((listEq_pf_pays25 wa wb a1 b1).lift _ _) hP en_94 (by simp [iwa, iwb]) .sc ?_
 by_cases c1 : wa = wb
 rotate_left
 ·have : R = false := by rw [hR]; exact decide_eq_false fun e => c1 e.1
  simp -dsimp -implicitDefEqProofs [-getElem?_pos, go_sem, hP, c1, this]
 simp -dsimp -implicitDefEqProofs [-getElem?_pos, go_sem, hP, c1]
 refine callB_is (li.lift _ _) hP en_147 (by simp [ika, ikb]) .sc ?_
 by_cases c2 : ka = kb
 rotate_left
 ·have : R = false := by rw [hR]; exact decide_eq_false fun e => c2 e.2.1
  simp -dsimp -implicitDefEqProofs [-getElem?_pos, go_sem, hP, c1, c2, this]
 by_cases c3 : ba.length = bb.length
 rotate_left
 ·have : R = false := by rw [hR]; exact decide_eq_false fun e => c3 (by rw [e.2.2])
  have d3 : decide ((ba.length : Int) = (bb.length : Int)) = false := decide_eq_false (by omega)
  simp -dsimp -implicitDefEqProofs [-getElem?_pos, go_sem, hP, c1, c2, d3, this]
 have d3 : decide ((ba.length : Int) = (bb.length : Int)) = true := decide_eq_true (by omega)
 subst c1 c2
 simp -dsimp -implicitDefEqProofs [-getElem?_pos, go_sem, hP, d3]
 obtain ⟨I, hI⟩ : ∃ I : Nat → St → Prop, I = fun m s => ∃ (k : Nat), k ≤ ba.length ∧ m = ba.length - k ∧ ba.take k = bb.take k ∧ s.t 2 = .ref 0 0 0 ∧ s.t 3 = .ref 1 0 0 ∧ s.t 31 = iv ba.length ∧ s.t 32 = iv k ∧ s.H[0]? = some (some ⟨32, 3, [[paysL wa, .list 1 (ka.map fun x => [iv x]), batsL ba]]⟩) ∧ s.H[1]? = some (some ⟨32, 3, [[paysL wa, .list 1 (ka.map fun x => [iv x]), batsL bb]]⟩) := ⟨_, rfl⟩
 refine aloop0 I (ba.length) (by rw [hN]; rfl) ?_ ?_
 ·rw [hI]
  exact ⟨0, by omega, by omega, rfl, by simp -dsimp [-getElem?_pos, go_sem], by simp -dsimp [-getElem?_pos, go_sem], by simp -dsimp [-getElem?_pos, go_sem], by simp -dsimp [-getElem?_pos, go_sem], by simp -dsimp [-getElem?_pos, go_sem], by simp -dsimp [-getElem?_pos, go_sem]⟩
 intro m s hs'
 rw [hI] at hs'
 obtain ⟨k, hk, hm, hq, t2, t3, t31, t32, h0, h1⟩ := hs'
 have lt0 := (gsI h0)
 have lt1 := (gsI h1)
 simp -dsimp -implicitDefEqProofs [-getElem?_pos, go_sem, hP, t31, t32]
 refine condP (fun hh => ?_) (fun hh => ?_)
 ·have hk : k < ba.length := by simpa using hh
  obtain ⟨x, hx⟩ : ∃ x, ba[k]? = some x := ⟨_, List.getElem?_eq_getElem hk⟩
  obtain ⟨y, hy⟩ : ∃ y, bb[k]? = some y := ⟨_, List.getElem?_eq_getElem (by omega)⟩
  have wk := wrap_in ((k : Int) + 1) (by omega)
  have ix := imm_bat x
  have iy := imm_bat y
  have bt := batch25_pf x y (a4 x (List.mem_of_getElem? hx)) (b4 y (List.mem_of_getElem? hy))
  rw [cBt, cBt] at bt
  rw [cBt] at ix iy
  simp -dsimp -implicitDefEqProofs [-getElem?_pos, go_sem, hP, t32]
  refine adrawB (fun _ => true) [] hP (by kernel_rfl) (by kernel_rfl) ?_
  simp -dsimp -implicitDefEqProofs [-getElem?_pos, go_sem, hP, t2, t3, h0, h1, lt0, lt1, hx, hy, cBt]
  refine callB_is (bt.lift _ _) hP en_41 (by simpa using ⟨ix, iy⟩) .sc ?_
  by_cases hxy : x = y
  ·have dxy : decide (x = y) = true := decide_eq_true hxy
   subst hxy
   simp -dsimp -implicitDefEqProofs [-getElem?_pos, go_sem, hP, t32, wk]
   refine ⟨ba.length - (k + 1), by omega, ?_⟩
   rw [hI]
   exact ⟨k + 1, by omega, rfl, by rw [take_at hx, take_at hy, hq], by simp -dsimp [-getElem?_pos, go_sem, t2], by simp -dsimp [-getElem?_pos, go_sem, t3], by simp -dsimp [-getElem?_pos, go_sem, t31], by simp -dsimp [-getElem?_pos, go_sem], by simp -dsimp [-getElem?_pos, go_sem, h0], by simp -dsimp [-getElem?_pos, go_sem, h1]⟩
  ·have dxy : decide (x = y) = false := decide_eq_false hxy
   have hne : R = false := by
    rw [hR]
    refine decide_eq_false fun e => hxy ?_
    have := e.2.2
    subst this
    rw [hx] at hy
    exact Option.some.inj hy
   simp -dsimp -implicitDefEqProofs [-getElem?_pos, go_sem, hP, dxy, hne]
 ·have hk : k = ba.length := by simp at hh; omega
  subst hk
  rw [List.take_length] at hq
  rw [c3, List.take_length] at hq
  have : R = true := by rw [hR]; simp [hq]
  simp -dsimp -implicitDefEqProofs [-getElem?_pos, go_sem, hP, this]
open Go.PA
open Go.RowKit
set_option maxHeartbeats 4000000 in
theorem take25_pf (q : TQueue) (day : Int) (ws : List Int) (hf : FitQ q) (hw : ws.length ≤ 100000) : PFun Tryz.prog none none 91 [.agg q.cells, iv day, intsL ws] (· = .tup [.agg (takeQ q day ws).1.cells, .agg (takeQ q day ws).2.1.cells, iv (takeQ q day ws).2.2]) := by
 refine pfun_introA Tryz.func91 rfl (by simp [Tryz.f91]) ?_
 intro E hP hr hs hW hN
 have ck := rcheck25_pf q hf
 have iq := imm_que q
 have ip := imm_pays q.Waiting
 have i2 := imm_ints q.Known
 have i3 := imm_bats q.Batches
 have iw := imm_ints ws
 have lb := hf.b
 have lw := hf.w
 rw [cQu] at ck iq
 simp only [intsL] at i2 ck iq iw
 refine awp_cut (by rw [hN]; kernel_rfl) ?_
 simp -dsimp -implicitDefEqProofs [-getElem?_pos, go_sem, hP, cQu, intsL]
 refine awp_cut (by rw [hN]; kernel_rfl) ?_
 simp -dsimp -implicitDefEqProofs [-getElem?_pos, go_sem, hP]
 refine callB_is (ck.lift _ _) hP en_64 (by simpa using iq) .sc ?_
 by_cases c1 : checkQ q = 0
 rotate_left
 ·have : takeQ q day ws = (zeroQ, zeroB, checkQ q) := by rw [takeQ, if_neg c1]
  simp -dsimp -implicitDefEqProofs [-getElem?_pos, go_sem, hP, c1]
  refine done_zeroQ3 ?_
  rw [this]; rfl
 have hq := checkQ_iff.1 c1
 simp -dsimp -implicitDefEqProofs [-getElem?_pos, go_sem, hP, c1]
 refine awp_cut (by rw [hN]; kernel_rfl) ?_
 simp -dsimp -implicitDefEqProofs [-getElem?_pos, go_sem, hP]
 obtain ⟨Inv, hInv⟩ : ∃ Inv : St → Prop, Inv = fun s => busB day = true ∧ ¬ day < lastQ q ∧ ¬ ws.length = 0 ∧ ¬ 10 < ws.length ∧ ¬ 200 ≤ q.Batches.length ∧ s.t 1 = iv day ∧ s.t 2 = .list 1 (ws.map fun x => [iv x]) ∧ s.t 3 = .ref 0 0 0 ∧ s.t 6 = .ref 1 0 0 ∧ s.t 7 = .ref 2 0 0 ∧ s.t 10 = iv q.Batches.length ∧ s.H = [some ⟨32, 3, [[paysL q.Waiting, .list 1 (q.Known.map fun x => [iv x]), batsL q.Batches]]⟩, some ⟨32, 3, [[.nil, .nil, .nil]]⟩, some ⟨55, 3, [[iv 0, iv 0, .nil]]⟩] := ⟨_, rfl⟩
 refine awp_join Inv (by rw [hN]; kernel_rfl) ?_ ?_
 rotate_left
 ·intro s hs'
  rw [hInv] at hs'
  obtain ⟨c2, c3, c4, c5, c6, t1, t2, t3, t6, t7, t10, hH⟩ := hs'
  have wl := wrap_in ((q.Batches.length : Int) + 1) (by omega)
  have f6 : dueB q day ws = false → takeQ q day ws = (zeroQ, zeroB, 6) := fun h => by rw [takeQ, if_pos c1, if_pos c2, if_neg c3, if_neg c4, if_neg (by omega), if_neg (by simp [h])]
  refine awp_cut (by rw [hN]; kernel_rfl) ?_
  simp -dsimp -implicitDefEqProofs [-getElem?_pos, go_sem, hP, t10, t1, wl, hH]
  obtain ⟨Inv1, hInv1⟩ : ∃ Inv : St → Prop, Inv = fun s => dueB q day ws = true ∧ s.t 1 = iv day ∧ s.t 2 = .list 1 (ws.map fun x => [iv x]) ∧ s.t 3 = .ref 0 0 0 ∧ s.t 6 = .ref 1 0 0 ∧ s.t 7 = .ref 2 0 0 ∧ s.t 11 = .ref 3 0 0 ∧ s.H = [some ⟨32, 3, [[paysL q.Waiting, .list 1 (q.Known.map fun x => [iv x]), batsL q.Batches]]⟩, some ⟨32, 3, [[.nil, .nil, .nil]]⟩, some ⟨55, 3, [[iv 0, iv 0, .nil]]⟩, some ⟨55, 3, [[iv ((q.Batches.length : Int) + 1), iv day, .nil]]⟩] := ⟨_, rfl⟩
  refine awp_join Inv1 (by rw [hN]; kernel_rfl) ?_ ?_
  rotate_left
  ·intro s hs'
   rw [hInv1] at hs'
   obtain ⟨hdue, t1, t2, t3, t6, t7, t11, hH⟩ := hs'
   have htk : takeQ q day ws = (⟨q.Waiting.filter (fun p => !takenB ws p), q.Known, q.Batches ++ [takeB q day ws]⟩, takeB q day ws, 0) := by rw [takeQ, if_pos c1, if_pos c2, if_neg c3, if_neg c4, if_neg (by omega), if_pos hdue]
   rw [htk, takeB]
   obtain ⟨W, hWt⟩ : ∃ W, W = q.Waiting := ⟨_, rfl⟩
   obtain ⟨Kn, hKn⟩ : ∃ Kn, Kn = q.Known := ⟨_, rfl⟩
   obtain ⟨bs, hbs⟩ : ∃ bs, bs = q.Batches := ⟨_, rfl⟩
   rw [← hWt, ← hKn, ← hbs] at hH ⊢
   rw [← hWt] at lw ip
   rw [← hbs] at lb i3 wl
   rw [← hKn] at i2
   refine awp_cut (by rw [hN]; kernel_rfl) ?_
   simp -dsimp -implicitDefEqProofs [-getElem?_pos, go_sem, hP]
   obtain ⟨Inv2, hInv2⟩ : ∃ Inv : St → Prop, Inv = fun s => ∃ (id : Nat) (ys zs : List TPayment), ys = W.filter (fun p => !takenB ws p) ∧ zs = W.filter (takenB ws) ∧ 4 ≤ id ∧ s.t 1 = iv day ∧ s.t 3 = .ref 0 0 0 ∧ s.t 6 = .ref 1 0 0 ∧ s.t 7 = .ref 2 0 0 ∧ s.t 11 = .ref 3 0 0 ∧ s.t 17 = .sref id 0 ys.length ∧ s.H[0]? = some (some ⟨32, 3, [[paysL W, .list 1 (Kn.map fun x => [iv x]), batsL bs]]⟩) ∧ s.H[1]? = some (some ⟨32, 3, [[.nil, .nil, .nil]]⟩) ∧ s.H[2]? = some (some ⟨55, 3, [[iv 0, iv 0, .nil]]⟩) ∧ s.H[3]? = some (some ⟨55, 3, [[iv ((bs.length : Int) + 1), iv day, paysL zs]]⟩) ∧ s.H[id]? = some (some ⟨44, 5, encL TPayment.cells ys⟩) := ⟨_, rfl⟩
   refine awp_join Inv2 (by rw [hN]; kernel_rfl) ?_ ?_
   rotate_left
   ·intro s hs'
    rw [hInv2] at hs'
    obtain ⟨id, ys, zs, hys, hzs, hid, t1, t3, t6, t7, t11, t17, h0, h1, h2, h3, hi⟩ := hs'
    have lt0 := (gsI h0)
    have lt1 := (gsI h1)
    have lt2 := (gsI h2)
    have lt3 := (gsI h3)
    have lti := (gsI hi)
    refine awp_sound _ _ _ (by rw [hN]; kernel_rfl) ?_
    simp -dsimp -implicitDefEqProofs [-getElem?_pos, go_sem, hP, t17, t3, h0, lt0]
    refine adrawB (fun i => decide (i < 4)) [7] hP (by kernel_rfl) (by kernel_rfl) ?_
    have D : ∀ i, decide (i < 4) = true → i < 4 := fun i hi => by simpa using hi
    simp -dsimp -implicitDefEqProofs [-getElem?_pos, go_sem, hP, t3, t11, h3, lt3, lt0]
    refine ⟨by omega, by omega, fun i hi => ?_, by omega, by omega, fun i hi => ?_, ?_⟩
    ·have := D i hi
     rw [List.getElem?_append_left (by simp; omega)]
    ·have := D i hi
     rw [List.getElem?_append_left (by simp; omega), List.getElem?_append_left (by simp; omega)]
    have en : encL TBatch.cells bs ++ [[iv ((bs.length : Int) + 1), iv day, paysL zs]] = encL TBatch.cells (bs ++ [⟨bs.length + 1, day, zs⟩]) := encL_snoc TBatch.cells bs ⟨bs.length + 1, day, zs⟩
    rw [en]
    generalize hH9 : (_ ++ _ : Heap) = H9
    obtain ⟨b', hb'⟩ : ∃ b', b' = s.H.length + 1 := ⟨_, rfl⟩
    have y0 : H9[0]? = some (some ⟨32, 3, [[.sref id 0 ys.length, .list 1 (Kn.map fun x => [iv x]), .sref b' 0 (bs.length + 1)]]⟩) := by rw [← hH9, List.getElem?_append_left (by simp; omega), List.getElem?_set_self lt0, hb']
    have y1 : H9[1]? = s.H[1]? := by rw [← hH9, List.getElem?_append_left (by simp; omega), List.getElem?_set_ne (by omega)]
    have y2 : H9[2]? = s.H[2]? := by rw [← hH9, List.getElem?_append_left (by simp; omega), List.getElem?_set_ne (by omega)]
    have y3 : H9[3]? = s.H[3]? := by rw [← hH9, List.getElem?_append_left (by simp; omega), List.getElem?_set_ne (by omega)]
    have yi : H9[id]? = s.H[id]? := by rw [← hH9, List.getElem?_append_left (by simp; omega), List.getElem?_set_ne (by omega)]
    have yb : H9[b']? = some (some ⟨55, 3, encL TBatch.cells (bs ++ [⟨bs.length + 1, day, zs⟩])⟩) := by rw [← hH9, hb', List.getElem?_append_right (by simp)]; simp
    rw [h1] at y1
    rw [h2] at y2
    rw [h3] at y3
    rw [hi] at yi
    clear hH9
    have r0 := (gsI y0)
    have r1 := (gsI y1)
    have r2 := (gsI y2)
    have r3 := (gsI y3)
    refine adrawB (fun i => decide (i = 0) || decide (i = 3)) [] hP (by kernel_rfl) (by kernel_rfl) ?_
    simp -dsimp -implicitDefEqProofs [-getElem?_pos, go_sem, hP, t3, t11, t6, t7, y0, y1, y2, y3, r0, r1, r2, r3]
    refine ⟨fun i hi => ?_, fun i hi => ?_, ?_⟩
    ·simp only [Bool.or_eq_true, decide_eq_true_eq] at hi
     rw [List.getElem?_set_ne (by omega)]
    ·simp only [Bool.or_eq_true, decide_eq_true_eq] at hi
     rw [List.getElem?_set_ne (by omega)]
    have iB := imm_bat ⟨bs.length + 1, day, zs⟩
    refine done_trip (cs' := (TQueue.mk ys Kn (bs ++ [⟨bs.length + 1, day, zs⟩])).cells) (ds' := (TBatch.mk (bs.length + 1) day zs).cells) ?_ (cw_immL (imm_agg.1 iB)) (by rw [hys, hzs]; rfl)
    refine cw_sref (ty := 44) (es := encL TPayment.cells ys) ?_ (by rw [encL_len]) (imm_pays _) (cw_imm i2 (cw_sref (ty := 55) (es := encL TBatch.cells (bs ++ [⟨bs.length + 1, day, zs⟩])) ?_ (by rw [encL_len]; simp) (imm_bats _) .nil))
    ·rw [List.getElem?_set_ne (by omega), List.getElem?_set_ne (by omega), yi]
    ·rw [List.getElem?_set_ne (by omega), List.getElem?_set_ne (by omega), yb]
   have zne : W.filter (takenB ws) ≠ [] := fun h => by
    have := taken_len hq.asc.nd hdue
    rw [← hWt, h] at this
    exact c4 this.symm
   simp -dsimp -implicitDefEqProofs [-getElem?_pos, go_sem, hP, t3, hH]
   refine aloop_own 17 44 5 (by simp -dsimp [-getElem?_pos, go_sem]) ?_
   obtain ⟨I, hI⟩ : ∃ I : Nat → St → Prop, I = fun m s => ∃ (k id : Nat) (x : AV) (ys zs : List TPayment), k ≤ W.length ∧ m = W.length - k ∧ ys = (W.take k).filter (fun p => !takenB ws p) ∧ zs = (W.take k).filter (takenB ws) ∧ ys.length ≤ k ∧ zs.length ≤ k ∧ 4 ≤ id ∧ s.t 1 = iv day ∧ s.t 2 = .list 1 (ws.map fun x => [iv x]) ∧ s.t 3 = .ref 0 0 0 ∧ s.t 6 = .ref 1 0 0 ∧ s.t 7 = .ref 2 0 0 ∧ s.t 11 = .ref 3 0 0 ∧ s.t 123 = paysL W ∧ s.t 124 = iv W.length ∧ s.t 125 = iv k ∧ s.t 17 = .sref id 0 ys.length ∧ s.H[0]? = some (some ⟨32, 3, [[paysL W, .list 1 (Kn.map fun x => [iv x]), batsL bs]]⟩) ∧ s.H[1]? = some (some ⟨32, 3, [[.nil, .nil, .nil]]⟩) ∧ s.H[2]? = some (some ⟨55, 3, [[iv 0, iv 0, .nil]]⟩) ∧ s.H[3]? = some (some ⟨55, 3, [[iv ((bs.length : Int) + 1), iv day, x]]⟩) ∧ s.H[id]? = some (some ⟨44, 5, encL TPayment.cells ys⟩) ∧ ((x = .nil ∧ zs = []) ∨ ∃ jd, 4 ≤ jd ∧ jd ≠ id ∧ x = .sref jd 0 zs.length ∧ s.H[jd]? = some (some ⟨44, 5, encL TPayment.cells zs⟩)) := ⟨_, rfl⟩
   refine aloop0 I (W.length) (by rw [hN]; rfl) ?_ ?_
   ·rw [hI]
    exact ⟨0, 4, .nil, [], [], by omega, by omega, by simp, by simp, by simp, by simp, by omega, by simp -dsimp [-getElem?_pos, go_sem, t1], by simp -dsimp [-getElem?_pos, go_sem, t2], by simp -dsimp [-getElem?_pos, go_sem, t3], by simp -dsimp [-getElem?_pos, go_sem, t6], by simp -dsimp [-getElem?_pos, go_sem, t7], by simp -dsimp [-getElem?_pos, go_sem, t11], by simp -dsimp [-getElem?_pos, go_sem], by simp -dsimp [-getElem?_pos, go_sem], by simp -dsimp [-getElem?_pos, go_sem], by simp -dsimp [-getElem?_pos, go_sem, hH], by simp -dsimp [-getElem?_pos, go_sem, hH], by simp -dsimp [-getElem?_pos, go_sem, hH], by simp -dsimp [-getElem?_pos, go_sem, hH], by simp -dsimp [-getElem?_pos, go_sem, hH], by simp -dsimp [-getElem?_pos, go_sem, hH], .inl ⟨rfl, rfl⟩⟩
   clear t1 t2 t3 t6 t7 t11 hH
   intro m s hs'
   rw [hI] at hs'
   obtain ⟨k, id, x, ys, zs, hk, hm, hys, hzs, hyl, hzl, hid, t1, t2, t3, t6, t7, t11, t123, t124, t125, t17, h0, h1, h2, h3, hi, hx⟩ := hs'
   have lt0 := (gsI h0)
   have lt3 := (gsI h3)
   have lti := (gsI hi)
   simp -dsimp -implicitDefEqProofs [-getElem?_pos, go_sem, hP, t124, t125]
   refine condP (fun hh => ?_) (fun hh => ?_)
   rotate_left
   ·have hk : k = W.length := by simp at hh; omega
    subst hk
    rw [List.take_length] at hys hzs
    rcases hx with ⟨rfl, hx⟩ | ⟨jd, hj4, hji, rfl, hjo⟩
    ·exact absurd (hzs ▸ hx) zne
    have ltj := (gsI hjo)
    simp -dsimp -implicitDefEqProofs [-getElem?_pos, go_sem, hP]
    refine ⟨_, weaker_frzcell (o := 3) (id := jd) (r := 0) (c := 2) (ty := 55) (k := 3) (es := [[iv ((bs.length : Int) + 1), iv day, .sref jd 0 zs.length]]) (e := [iv ((bs.length : Int) + 1), iv day, .sref jd 0 zs.length]) (ty' := 44) (kk := 5) (fs := encL TPayment.cells zs) (n := zs.length) hW (by simp -dsimp [-getElem?_pos, go_sem, h3]) (by omega) rfl rfl (by simp -dsimp [-getElem?_pos, go_sem, hjo]) (by rw [encL_len]) (imm_pays _) (by omega), ?_⟩
    rw [hInv2]
    refine ⟨id, ys, zs, hys, hzs, hid, by simp -dsimp [-getElem?_pos, go_sem, t1], by simp -dsimp [-getElem?_pos, go_sem, t3], by simp -dsimp [-getElem?_pos, go_sem, t6], by simp -dsimp [-getElem?_pos, go_sem, t7], by simp -dsimp [-getElem?_pos, go_sem, t11], by simp -dsimp [-getElem?_pos, go_sem, t17], ?_, ?_, ?_, ?_, ?_⟩
    ·dsimp only
     rw [List.getElem?_set_ne (by omega), List.getElem?_set_ne (by omega), h0]
    ·dsimp only
     rw [List.getElem?_set_ne (by omega), List.getElem?_set_ne (by omega), h1]
    ·dsimp only
     rw [List.getElem?_set_ne (by omega), List.getElem?_set_ne (by omega), h2]
    ·dsimp only
     rw [List.getElem?_set_self (by simp; omega)]
     rfl
    ·dsimp only
     rw [List.getElem?_set_ne (by omega), List.getElem?_set_ne (by omega), hi]
   have hk : k < W.length := by simpa using hh
   obtain ⟨p, hp⟩ : ∃ p, W[k]? = some p := ⟨_, List.getElem?_eq_getElem hk⟩
   have wk := wrap_in ((k : Int) + 1) (by omega)
   have ny : (W.take (k + 1)).filter (fun p => !takenB ws p) = if takenB ws p then ys else ys ++ [p] := by
    rw [take_at hp, List.filter_append, ← hys]
    cases ht : takenB ws p <;> simp [ht]
   have nz : (W.take (k + 1)).filter (takenB ws) = if takenB ws p then zs ++ [p] else zs := by
    rw [take_at hp, List.filter_append, ← hzs]
    cases ht : takenB ws p <;> simp [ht]
   simp -dsimp -implicitDefEqProofs [-getElem?_pos, go_sem, hP, t125, t123, hp, cPy, t2]
   generalize hH1 : s.H ++ _ = H1
   obtain ⟨n, hn⟩ : ∃ n, n = s.H.length := ⟨_, rfl⟩
   have kk : Kept [] s.H H1 := by rw [← hH1]; exact kept_app _ _ _
   have ep : H1[n]? = some (some ⟨44, 5, [[iv p.Warrant, iv p.Payee, iv p.Amount, iv p.Due, iv p.Sub]]⟩) := by rw [← hH1, hn]; simp
   have e0 := kk _ _ (by simp) h0
   have e1 := kk _ _ (by simp) h1
   have e2 := kk _ _ (by simp) h2
   have e3 := kk _ _ (by simp) h3
   have ei := kk _ _ (by simp) hi
   have ltp := (gsI ep)
   have ll1 : H1.length = n + 1 := by rw [← hH1, hn]; simp
   obtain ⟨J, hJ⟩ : ∃ I : Nat → St → Prop, I = fun m s => ∃ (j : Nat), j ≤ ws.length ∧ m = ws.length - j ∧ s.t 20 = bv (decide (p.Warrant ∈ ws.take j)) ∧ s.t 1 = iv day ∧ s.t 2 = .list 1 (ws.map fun x => [iv x]) ∧ s.t 3 = .ref 0 0 0 ∧ s.t 6 = .ref 1 0 0 ∧ s.t 7 = .ref 2 0 0 ∧ s.t 11 = .ref 3 0 0 ∧ s.t 123 = paysL W ∧ s.t 124 = iv W.length ∧ s.t 125 = iv k ∧ s.t 17 = .sref id 0 ys.length ∧ s.t 19 = .ref n 0 0 ∧ s.t 129 = .list 1 (ws.map fun x => [iv x]) ∧ s.t 130 = iv ws.length ∧ s.t 131 = iv j ∧ s.H = H1 := ⟨_, rfl⟩
   refine aloop0 J (ws.length) (by rw [hN]; rfl) ?_ ?_
   ·rw [hJ]
    exact ⟨0, by omega, by omega, by simp -dsimp [-getElem?_pos, go_sem], by simp -dsimp [-getElem?_pos, go_sem, t1], by simp -dsimp [-getElem?_pos, go_sem, t2], by simp -dsimp [-getElem?_pos, go_sem, t3], by simp -dsimp [-getElem?_pos, go_sem, t6], by simp -dsimp [-getElem?_pos, go_sem, t7], by simp -dsimp [-getElem?_pos, go_sem, t11], by simp -dsimp [-getElem?_pos, go_sem, t123], by simp -dsimp [-getElem?_pos, go_sem, t124], by simp -dsimp [-getElem?_pos, go_sem, t125], by simp -dsimp [-getElem?_pos, go_sem, t17], by simp -dsimp [-getElem?_pos, go_sem, hn], by simp -dsimp [-getElem?_pos, go_sem], by simp -dsimp [-getElem?_pos, go_sem], by simp -dsimp [-getElem?_pos, go_sem], rfl⟩
   clear t1 t2 t3 t6 t7 t11 t123 t124 t125 t17
   intro m s hs'
   rw [hJ] at hs'
   obtain ⟨j, hj, hm', t20, t1, t2, t3, t6, t7, t11, t123, t124, t125, t17, t19, t129, t130, t131, hH⟩ := hs'
   simp -dsimp -implicitDefEqProofs [-getElem?_pos, go_sem, hP, t130, t131]
   refine condP (fun hh => ?_) (fun hh => ?_)
   ·have hj : j < ws.length := by simpa using hh
    obtain ⟨w, hw'⟩ : ∃ w, ws[j]? = some w := ⟨_, List.getElem?_eq_getElem hj⟩
    have wj := wrap_in ((j : Int) + 1) (by omega)
    have em : decide (p.Warrant ∈ ws.take (j + 1)) = (decide (p.Warrant ∈ ws.take j) || decide (w = p.Warrant)) := by
     rw [take_at hw']
     by_cases c : p.Warrant ∈ ws.take j <;> simp [c, eq_comm]
    have fin : ∀ s' : St, s'.t 20 = bv (decide (p.Warrant ∈ ws.take (j + 1))) → s'.t 1 = s.t 1 → s'.t 2 = s.t 2 → s'.t 3 = s.t 3 → s'.t 6 = s.t 6 → s'.t 7 = s.t 7 → s'.t 11 = s.t 11 → s'.t 123 = s.t 123 → s'.t 124 = s.t 124 → s'.t 125 = s.t 125 → s'.t 17 = s.t 17 → s'.t 19 = s.t 19 → s'.t 129 = s.t 129 → s'.t 130 = s.t 130 → s'.t 131 = iv ((j : Int) + 1) → s'.H = s.H → ∃ n', n' < m ∧ J n' s' := fun s' a1 a2 a3 a4 a5 a6 a7 a8 a9 a10 a11 a12 a13 a14 a15 a16 => by
     refine ⟨ws.length - (j + 1), by omega, ?_⟩
     rw [hJ]
     exact ⟨j + 1, by omega, rfl, a1, by rw [a2, t1], by rw [a3, t2], by rw [a4, t3], by rw [a5, t6], by rw [a6, t7], by rw [a7, t11], by rw [a8, t123], by rw [a9, t124], by rw [a10, t125], by rw [a11, t17], by rw [a12, t19], by rw [a13, t129], by rw [a14, t130], by rw [a15]; simp, by rw [a16, hH]⟩
    by_cases c9 : p.Warrant ∈ ws.take j
    ·have d9 : decide (p.Warrant ∈ ws.take j) = true := decide_eq_true c9
     rw [d9] at em t20
     simp -dsimp -implicitDefEqProofs [-getElem?_pos, go_sem, hP, t131, t129, hw', t20, wj]
     exact fin _ (by rw [em]; simp -dsimp -implicitDefEqProofs [-getElem?_pos, go_sem]) (by simp -dsimp [-getElem?_pos, go_sem]) (by simp -dsimp [-getElem?_pos, go_sem]) (by simp -dsimp [-getElem?_pos, go_sem]) (by simp -dsimp [-getElem?_pos, go_sem]) (by simp -dsimp [-getElem?_pos, go_sem]) (by simp -dsimp [-getElem?_pos, go_sem]) (by simp -dsimp [-getElem?_pos, go_sem]) (by simp -dsimp [-getElem?_pos, go_sem]) (by simp -dsimp [-getElem?_pos, go_sem]) (by simp -dsimp [-getElem?_pos, go_sem]) (by simp -dsimp [-getElem?_pos, go_sem]) (by simp -dsimp [-getElem?_pos, go_sem]) (by simp -dsimp [-getElem?_pos, go_sem]) (by simp -dsimp [-getElem?_pos, go_sem]) (by simp -dsimp [-getElem?_pos, go_sem])
    ·have d9 : decide (p.Warrant ∈ ws.take j) = false := decide_eq_false c9
     rw [d9, Bool.false_or] at em
     rw [d9] at t20
     simp -dsimp -implicitDefEqProofs [-getElem?_pos, go_sem, hP, t131, t129, hw', t20, wj, t19, hH, ep, ltp]
     exact fin _ (by rw [em]; simp -dsimp -implicitDefEqProofs [-getElem?_pos, go_sem]) (by simp -dsimp [-getElem?_pos, go_sem]) (by simp -dsimp [-getElem?_pos, go_sem]) (by simp -dsimp [-getElem?_pos, go_sem]) (by simp -dsimp [-getElem?_pos, go_sem]) (by simp -dsimp [-getElem?_pos, go_sem]) (by simp -dsimp [-getElem?_pos, go_sem]) (by simp -dsimp [-getElem?_pos, go_sem]) (by simp -dsimp [-getElem?_pos, go_sem]) (by simp -dsimp [-getElem?_pos, go_sem]) (by simp -dsimp [-getElem?_pos, go_sem]) (by simp -dsimp [-getElem?_pos, go_sem]) (by simp -dsimp [-getElem?_pos, go_sem]) (by simp -dsimp [-getElem?_pos, go_sem]) (by simp -dsimp [-getElem?_pos, go_sem]) (by simp -dsimp [-getElem?_pos, go_sem, hH])
   have hj : j = ws.length := by simp at hh; omega
   subst hj
   rw [List.take_length] at t20
   have etk : decide (p.Warrant ∈ ws) = takenB ws p := rfl
   rw [etk] at t20
   cases ht : takenB ws p
   ·rw [ht] at ny nz t20
    have nid : ¬ id = n := by omega
    simp -dsimp -implicitDefEqProofs [-getElem?_pos, go_sem, hP, t20, t17, t19, hH, ep, ltp, ei, nid, t125, wk]
    refine ⟨by omega, by omega, ?_⟩
    refine ⟨W.length - (k + 1), by omega, ?_⟩
    rw [hI]
    refine ⟨k + 1, n + 1, x, ys ++ [p], zs, by omega, rfl, ny.symm, nz.symm, by simp; omega, by omega, by omega, by simp -dsimp [-getElem?_pos, go_sem, t1], by simp -dsimp [-getElem?_pos, go_sem, t2], by simp -dsimp [-getElem?_pos, go_sem, t3], by simp -dsimp [-getElem?_pos, go_sem, t6], by simp -dsimp [-getElem?_pos, go_sem, t7], by simp -dsimp [-getElem?_pos, go_sem, t11], by simp -dsimp [-getElem?_pos, go_sem, t123], by simp -dsimp [-getElem?_pos, go_sem, t124], by simp -dsimp [-getElem?_pos, go_sem], by simp -dsimp [-getElem?_pos, go_sem, ll1], ?_, ?_, ?_, ?_, ?_, ?_⟩
    ·dsimp only
     rw [List.getElem?_append_left (by simp; omega), List.getElem?_set_ne (by omega), e0]
    ·dsimp only
     rw [List.getElem?_append_left (by simp; omega), List.getElem?_set_ne (by omega), e1]
    ·dsimp only
     rw [List.getElem?_append_left (by simp; omega), List.getElem?_set_ne (by omega), e2]
    ·dsimp only
     rw [List.getElem?_append_left (by simp; omega), List.getElem?_set_ne (by omega), e3]
    ·dsimp only
     rw [List.getElem?_append_right (by simp; omega), ← encL_snoc]
     simp -dsimp -implicitDefEqProofs [-getElem?_pos, go_sem, ll1, cPy]
    ·rcases hx with hx | ⟨jd, hj4, hji, rfl, hjo⟩
     ·exact .inl hx
     ·have hjo' := kk _ _ (by simp) hjo
      have ltj := (gsI hjo)
      refine .inr ⟨jd, hj4, by omega, rfl, ?_⟩
      dsimp only
      rw [List.getElem?_append_left (by simp; omega), List.getElem?_set_ne (by omega), hjo']
   ·rw [ht] at ny nz t20
    have l3 : 3 < H1.length := by omega
    have n3 : ¬ n = 3 := by omega
    rcases hx with ⟨rfl, hx⟩ | ⟨jd, hj4, hji, rfl, hjo⟩
    ·rw [hx, List.nil_append] at nz
     simp -dsimp -implicitDefEqProofs [-getElem?_pos, go_sem, hP, t20, t19, t11, hH, ep, ltp, e3, t125, wk, l3]
     refine ⟨W.length - (k + 1), by omega, ?_⟩
     rw [hI]
     refine ⟨k + 1, id, .sref (n + 1) 0 1, ys, [p], by omega, rfl, ny.symm, nz.symm, by omega, by simp, by omega, by simp -dsimp [-getElem?_pos, go_sem, t1], by simp -dsimp [-getElem?_pos, go_sem, t2], by simp -dsimp [-getElem?_pos, go_sem, t3], by simp -dsimp [-getElem?_pos, go_sem, t6], by simp -dsimp [-getElem?_pos, go_sem, t7], by simp -dsimp [-getElem?_pos, go_sem, t11], by simp -dsimp [-getElem?_pos, go_sem, t123], by simp -dsimp [-getElem?_pos, go_sem, t124], by simp -dsimp [-getElem?_pos, go_sem], by simp -dsimp [-getElem?_pos, go_sem, t17], ?_, ?_, ?_, ?_, ?_, .inr ⟨n + 1, by omega, by omega, rfl, ?_⟩⟩
     ·dsimp only
      rw [List.getElem?_append_left (by simp; omega)]
      repeat rw [List.getElem?_set_ne (by omega)]
      exact e0
     ·dsimp only
      rw [List.getElem?_append_left (by simp; omega)]
      repeat rw [List.getElem?_set_ne (by omega)]
      exact e1
     ·dsimp only
      rw [List.getElem?_append_left (by simp; omega)]
      repeat rw [List.getElem?_set_ne (by omega)]
      exact e2
     ·dsimp only
      rw [List.getElem?_append_left (by simp; omega), List.getElem?_set_self (by omega), ll1]
     ·dsimp only
      rw [List.getElem?_append_left (by simp; omega)]
      repeat rw [List.getElem?_set_ne (by omega)]
      exact ei
     ·dsimp only
      rw [List.getElem?_append_right (by simp; omega)]
      show _ = some (some (⟨44, 5, [p.cells]⟩ : AObj))
      simp -dsimp -implicitDefEqProofs [-getElem?_pos, go_sem, ll1, cPy]
    ·have hjo' := kk _ _ (by simp) hjo
     have ltj := (gsI hjo)
     have ltj1 := (List.getElem?_eq_some_iff.1 hjo').1
     have nj3 : ¬ jd = 3 := by omega
     have nj3' : ¬ 3 = jd := by omega
     simp -dsimp -implicitDefEqProofs [-getElem?_pos, go_sem, hP, t20, t19, t11, hH, ep, ltp, e3, t125, wk, hjo', ltj1, nj3, nj3', l3]
     refine ⟨by omega, by omega, ?_⟩
     refine ⟨W.length - (k + 1), by omega, ?_⟩
     rw [hI]
     refine ⟨k + 1, id, .sref (n + 1) 0 (zs.length + 1), ys, (zs ++ [p]), by omega, rfl, ny.symm, nz.symm, by omega, by rw [List.length_append]; simp; omega, by omega, by simp -dsimp [-getElem?_pos, go_sem, t1], by simp -dsimp [-getElem?_pos, go_sem, t2], by simp -dsimp [-getElem?_pos, go_sem, t3], by simp -dsimp [-getElem?_pos, go_sem, t6], by simp -dsimp [-getElem?_pos, go_sem, t7], by simp -dsimp [-getElem?_pos, go_sem, t11], by simp -dsimp [-getElem?_pos, go_sem, t123], by simp -dsimp [-getElem?_pos, go_sem, t124], by simp -dsimp [-getElem?_pos, go_sem], by simp -dsimp [-getElem?_pos, go_sem, t17], ?_, ?_, ?_, ?_, ?_, .inr ⟨n + 1, by omega, by omega, by rw [List.length_append]; rfl, ?_⟩⟩
     ·dsimp only
      rw [List.getElem?_append_left (by simp; omega)]
      repeat rw [List.getElem?_set_ne (by omega)]
      exact e0
     ·dsimp only
      rw [List.getElem?_append_left (by simp; omega)]
      repeat rw [List.getElem?_set_ne (by omega)]
      exact e1
     ·dsimp only
      rw [List.getElem?_append_left (by simp; omega)]
      repeat rw [List.getElem?_set_ne (by omega)]
      exact e2
     ·dsimp only
      rw [List.getElem?_append_left (by simp; omega), List.getElem?_set_self (by simp; omega), ll1]
     ·dsimp only
      rw [List.getElem?_append_left (by simp; omega)]
      repeat rw [List.getElem?_set_ne (by omega)]
      exact ei
     ·dsimp only
      rw [List.getElem?_append_right (by simp; omega)]
      rw [← encL_snoc]
      simp -dsimp -implicitDefEqProofs [-getElem?_pos, go_sem, ll1, cPy]
  simp -dsimp -implicitDefEqProofs [-getElem?_pos, go_sem, hP, t2]
  obtain ⟨I, hI⟩ : ∃ I : Nat → St → Prop, I = fun m s => ∃ (k : Nat), k ≤ ws.length ∧ m = ws.length - k ∧ (ws.take k).Nodup ∧ (∀ w, w ∈ ws.take k → ∃ p, p ∈ q.Waiting ∧ p.Warrant = w ∧ p.Due ≤ day) ∧ s.t 1 = iv day ∧ s.t 2 = .list 1 (ws.map fun x => [iv x]) ∧ s.t 3 = .ref 0 0 0 ∧ s.t 6 = .ref 1 0 0 ∧ s.t 7 = .ref 2 0 0 ∧ s.t 11 = .ref 3 0 0 ∧ s.t 83 = .list 1 (ws.map fun x => [iv x]) ∧ s.t 84 = iv ws.length ∧ s.t 85 = iv k ∧ s.H = [some ⟨32, 3, [[paysL q.Waiting, .list 1 (q.Known.map fun x => [iv x]), batsL q.Batches]]⟩, some ⟨32, 3, [[.nil, .nil, .nil]]⟩, some ⟨55, 3, [[iv 0, iv 0, .nil]]⟩, some ⟨55, 3, [[iv ((q.Batches.length : Int) + 1), iv day, .nil]]⟩] := ⟨_, rfl⟩
  refine aloop0 I (ws.length) (by rw [hN]; rfl) ?_ ?_
  ·rw [hI]
   exact ⟨0, by omega, by omega, by simp, by simp, by simp -dsimp [-getElem?_pos, go_sem, t1], by simp -dsimp [-getElem?_pos, go_sem, t2], by simp -dsimp [-getElem?_pos, go_sem, t3], by simp -dsimp [-getElem?_pos, go_sem, t6], by simp -dsimp [-getElem?_pos, go_sem, t7], by simp -dsimp [-getElem?_pos, go_sem], by simp -dsimp [-getElem?_pos, go_sem], by simp -dsimp [-getElem?_pos, go_sem], by simp -dsimp [-getElem?_pos, go_sem], by simp -dsimp [-getElem?_pos, go_sem]⟩
  clear t1 t2 t3 t6 t7 t10 hH
  intro m s hs'
  rw [hI] at hs'
  obtain ⟨k, hk, hm, hnd, hall, t1, t2, t3, t6, t7, t11, t83, t84, t85, hH⟩ := hs'
  simp -dsimp -implicitDefEqProofs [-getElem?_pos, go_sem, hP, t84, t85]
  refine condP (fun hh => ?_) (fun hh => ?_)
  rotate_left
  ·have hk : k = ws.length := by simp at hh; omega
   subst hk
   rw [List.take_length] at hnd hall
   simp -dsimp -implicitDefEqProofs [-getElem?_pos, go_sem, hP]
   refine ⟨_, Weaker.refl _, ?_⟩
   rw [hInv1]
   exact ⟨dueB_iff.2 ⟨hnd, hall⟩, by simp -dsimp [-getElem?_pos, go_sem, t1], by simp -dsimp [-getElem?_pos, go_sem, t2], by simp -dsimp [-getElem?_pos, go_sem, t3], by simp -dsimp [-getElem?_pos, go_sem, t6], by simp -dsimp [-getElem?_pos, go_sem, t7], by simp -dsimp [-getElem?_pos, go_sem, t11], by simp -dsimp [-getElem?_pos, go_sem, hH]⟩
  have hk : k < ws.length := by simpa using hh
  obtain ⟨w, hw'⟩ : ∃ w, ws[k]? = some w := ⟨_, List.getElem?_eq_getElem hk⟩
  have wk := wrap_in ((k : Int) + 1) (by omega)
  have wt := rwaits_pf q w (by omega)
  rw [cQu] at wt
  simp only [intsL] at wt
  simp -dsimp -implicitDefEqProofs [-getElem?_pos, go_sem, hP, t85, t83, hw', t3, hH]
  refine callB_is (wt.lift _ _) hP en_152 (by simpa [imm_sc] using iq) .sc ?_
  by_cases c7 : waitQ q w < 0
  ·have d7 : decide (waitQ q w < 0) = true := decide_eq_true c7
   have := f6 (Bool.eq_false_iff.2 fun h => by
    obtain ⟨p, hp, e, _⟩ := (dueB_iff.1 h).2 w (List.mem_of_getElem? hw')
    exact waitQ_none.1 c7 p hp e)
   simp -dsimp -implicitDefEqProofs [-getElem?_pos, go_sem, hP, d7, t6, t7, hH]
   refine done_zeroQ3 ?_
   rw [this]; rfl
  have d7 : decide (waitQ q w < 0) = false := decide_eq_false c7
  obtain ⟨i, p, hi, hip, hpw, hil⟩ := waitQ_some c7
  have d7' := d7
  rw [hi] at d7'
  by_cases c8 : day < p.Due
  ·have d8 : decide (day < p.Due) = true := decide_eq_true c8
   have := f6 (Bool.eq_false_iff.2 fun h => by
    obtain ⟨p', hp', e, hd⟩ := (dueB_iff.1 h).2 w (List.mem_of_getElem? hw')
    have := uniqW hq.asc.nd hp' (List.mem_of_getElem? hip) (e.trans hpw.symm)
    subst this
    omega)
   simp -dsimp -implicitDefEqProofs [-getElem?_pos, go_sem, hP, hi, d7', t6, t7, hH, t3, hip, cPy, t1, d8]
   refine done_zeroQ3 ?_
   rw [this]; rfl
  have d8 : decide (day < p.Due) = false := decide_eq_false c8
  obtain ⟨T, hT⟩ : ∃ T, T = ws.take k := ⟨_, rfl⟩
  have g1 : (ws.map fun x => [iv x]).take k = T.map fun x => [iv x] := by rw [hT, List.map_take]
  have hk' : k ≤ ws.length := by omega
  have lk : T.length = k := by rw [hT, List.length_take]; omega
  simp -dsimp -implicitDefEqProofs [-getElem?_pos, go_sem, hP, hi, d7', hH, t3, hip, cPy, t1, d8, t2, asliceOp, bound, aslice, hk', g1, lk]
  obtain ⟨J, hJ⟩ : ∃ I : Nat → St → Prop, I = fun m s => ∃ (j : Nat), j ≤ k ∧ m = k - j ∧ (∀ x, x ∈ T.take j → x ≠ w) ∧ s.t 1 = iv day ∧ s.t 2 = .list 1 (ws.map fun x => [iv x]) ∧ s.t 3 = .ref 0 0 0 ∧ s.t 6 = .ref 1 0 0 ∧ s.t 7 = .ref 2 0 0 ∧ s.t 11 = .ref 3 0 0 ∧ s.t 13 = iv w ∧ s.t 83 = .list 1 (ws.map fun x => [iv x]) ∧ s.t 84 = iv ws.length ∧ s.t 85 = iv k ∧ s.t 109 = .list 1 (T.map fun x => [iv x]) ∧ s.t 110 = iv k ∧ s.t 111 = iv j ∧ s.H = [some ⟨32, 3, [[paysL q.Waiting, .list 1 (q.Known.map fun x => [iv x]), batsL q.Batches]]⟩, some ⟨32, 3, [[.nil, .nil, .nil]]⟩, some ⟨55, 3, [[iv 0, iv 0, .nil]]⟩, some ⟨55, 3, [[iv ((q.Batches.length : Int) + 1), iv day, .nil]]⟩] := ⟨_, rfl⟩
  refine aloop0 J (k) (by rw [hN]; rfl) ?_ ?_
  ·rw [hJ]
   exact ⟨0, by omega, by omega, by simp, by simp -dsimp [-getElem?_pos, go_sem, t1], by simp -dsimp [-getElem?_pos, go_sem, t2], by simp -dsimp [-getElem?_pos, go_sem, t3], by simp -dsimp [-getElem?_pos, go_sem, t6], by simp -dsimp [-getElem?_pos, go_sem, t7], by simp -dsimp [-getElem?_pos, go_sem, t11], by simp -dsimp [-getElem?_pos, go_sem], by simp -dsimp [-getElem?_pos, go_sem, t83], by simp -dsimp [-getElem?_pos, go_sem, t84], by simp -dsimp [-getElem?_pos, go_sem, t85], by simp -dsimp [-getElem?_pos, go_sem], by simp -dsimp [-getElem?_pos, go_sem, lk], by simp -dsimp [-getElem?_pos, go_sem], by simp -dsimp [-getElem?_pos, go_sem, hH]⟩
  clear t1 t2 t3 t6 t7 t11 t83 t84 t85 hH
  intro m s hs'
  rw [hJ] at hs'
  obtain ⟨j, hj, hm, hne, t1, t2, t3, t6, t7, t11, t13, t83, t84, t85, t109, t110, t111, hH⟩ := hs'
  simp -dsimp -implicitDefEqProofs [-getElem?_pos, go_sem, hP, t110, t111]
  refine condP (fun hh => ?_) (fun hh => ?_)
  ·have hj : j < k := by simpa using hh
   obtain ⟨x, hx⟩ : ∃ x, T[j]? = some x := ⟨_, List.getElem?_eq_getElem (by omega)⟩
   have wj := wrap_in ((j : Int) + 1) (by omega)
   by_cases c9 : x = w
   ·have d9 : decide (x = w) = true := decide_eq_true c9
    have := f6 (Bool.eq_false_iff.2 fun h => by
     have hn := (dueB_iff.1 h).1
     have e1 : (ws.take (k + 1)).Nodup := hn.sublist (List.take_sublist _ _)
     rw [take_at hw', ← hT, List.nodup_append] at e1
     exact e1.2.2 x (List.mem_of_getElem? hx) w (by simp) c9)
    simp -dsimp -implicitDefEqProofs [-getElem?_pos, go_sem, hP, t111, t109, hx, t13, d9, c9, t6, t7, hH]
    refine done_zeroQ3 ?_
    rw [this]; rfl
   ·have d9 : decide (x = w) = false := decide_eq_false c9
    simp -dsimp -implicitDefEqProofs [-getElem?_pos, go_sem, hP, t111, t109, hx, t13, d9, c9, wj]
    refine ⟨k - (j + 1), by omega, ?_⟩
    rw [hJ]
    refine ⟨j + 1, by omega, rfl, ?_, by simp -dsimp [-getElem?_pos, go_sem, t1], by simp -dsimp [-getElem?_pos, go_sem, t2], by simp -dsimp [-getElem?_pos, go_sem, t3], by simp -dsimp [-getElem?_pos, go_sem, t6], by simp -dsimp [-getElem?_pos, go_sem, t7], by simp -dsimp [-getElem?_pos, go_sem, t11], by simp -dsimp [-getElem?_pos, go_sem, t13], by simp -dsimp [-getElem?_pos, go_sem, t83], by simp -dsimp [-getElem?_pos, go_sem, t84], by simp -dsimp [-getElem?_pos, go_sem, t85], by simp -dsimp [-getElem?_pos, go_sem, t109], by simp -dsimp [-getElem?_pos, go_sem, t110], by simp -dsimp [-getElem?_pos, go_sem], by simp -dsimp [-getElem?_pos, go_sem, hH]⟩
    intro y hy
    rw [take_at hx] at hy
    rcases List.mem_append.1 hy with hy | hy
    ·exact hne y hy
    ·simp at hy; subst hy; exact c9
  ·have hj : j = k := by simp at hh; omega
   subst hj
   rw [List.take_of_length_le (by omega)] at hne
   simp -dsimp -implicitDefEqProofs [-getElem?_pos, go_sem, hP, t85, wk]
   refine ⟨ws.length - (j + 1), by omega, ?_⟩
   rw [hI]
   refine ⟨j + 1, by omega, rfl, ?_, ?_, by simp -dsimp [-getElem?_pos, go_sem, t1], by simp -dsimp [-getElem?_pos, go_sem, t2], by simp -dsimp [-getElem?_pos, go_sem, t3], by simp -dsimp [-getElem?_pos, go_sem, t6], by simp -dsimp [-getElem?_pos, go_sem, t7], by simp -dsimp [-getElem?_pos, go_sem, t11], by simp -dsimp [-getElem?_pos, go_sem, t83], by simp -dsimp [-getElem?_pos, go_sem, t84], by simp -dsimp [-getElem?_pos, go_sem], by simp -dsimp [-getElem?_pos, go_sem, hH]⟩
   ·rw [take_at hw', ← hT, List.nodup_append]
    refine ⟨hT ▸ hnd, by simp, fun a ha b hb => ?_⟩
    simp at hb
    subst hb
    exact hne a ha
   ·intro y hy
    rw [take_at hw'] at hy
    rcases List.mem_append.1 hy with hy | hy
    ·exact hall y hy
    ·simp at hy; subst hy
     exact ⟨p, List.mem_of_getElem? hip, hpw, by omega⟩
 have bad66 : busB day = false → takeQ q day ws = (zeroQ, zeroB, 66) := fun c2 => by rw [takeQ, if_pos c1, if_neg (by simp [c2])]
 by_cases c2a : day < 0
 ·have d2 : decide (day < 0) = true := decide_eq_true c2a
  have := bad66 (by rw [busB, amg_no (by omega)]; rfl)
  simp -dsimp -implicitDefEqProofs [-getElem?_pos, go_sem, hP, d2]
  refine done_zeroQ3 ?_
  rw [this]; rfl
 have d2a : decide (day < 0) = false := decide_eq_false c2a
 by_cases c2b : 36000 < day
 ·have d2 : decide (36000 < day) = true := decide_eq_true c2b
  have := bad66 (by rw [busB, amg_no (by omega)]; rfl)
  simp -dsimp -implicitDefEqProofs [-getElem?_pos, go_sem, hP, d2a, d2]
  refine done_zeroQ3 ?_
  rw [this]; rfl
 have d2b : decide (36000 < day) = false := decide_eq_false c2b
 simp -dsimp -implicitDefEqProofs [-getElem?_pos, go_sem, hP, d2a, d2b]
 refine callB_is ((r02business_pf day).lift _ _) hP en_90 (by simp [imm_sc]) .sc ?_
 cases c2 : busB day
 ·have := bad66 c2
  simp -dsimp -implicitDefEqProofs [-getElem?_pos, go_sem, hP, c2]
  refine done_zeroQ3 ?_
  rw [this]; rfl
 have c7 : ∀ P : Prop, (q.Batches.length = 0 → day < lastQ q → False) := fun _ h1 h2 => by
  have : q.Batches = [] := List.eq_nil_of_length_eq_zero h1
  rw [lastQ, this] at h2
  simp at h2
  omega
 by_cases c3 : day < lastQ q
 ·have : takeQ q day ws = (zeroQ, zeroB, 8) := by rw [takeQ, if_pos c1, if_pos c2, if_pos c3]
  have hpos : ¬ q.Batches.length = 0 := fun h => c7 True h c3
  obtain ⟨b, hlast⟩ : ∃ b, q.Batches.getLast? = some b := ⟨_, List.getLast?_eq_some_getLast (by intro h; simp [h] at hpos)⟩
  have l0 : lastQ q = b.Day := by rw [lastQ, hlast]
  have hb : q.Batches[q.Batches.length - 1]? = some b := by rw [← List.getLast?_eq_getElem?]; exact hlast
  have d0 : decide ((0 : Int) < (q.Batches.length : Int)) = true := decide_eq_true (by omega)
  have w1 : IntKind.i64.wrap ((q.Batches.length : Int) - 1) = ((q.Batches.length - 1 : Nat) : Int) := by rw [wrap_in _ (by omega)]; omega
  have d3 : decide (day < b.Day) = true := decide_eq_true (by omega)
  have hp0 : 0 < q.Batches.length := by omega
  simp -dsimp -implicitDefEqProofs [-getElem?_pos, go_sem, hP, c2, d0, w1, hb, cBt, d3, hp0]
  refine done_zeroQ3 ?_
  rw [this]; rfl
 by_cases c0 : q.Batches.length = 0
 ·have d0 : decide ((0 : Int) < (q.Batches.length : Int)) = false := decide_eq_false (by omega)
  have d0n : decide (0 < q.Batches.length) = false := decide_eq_false (by omega)
  by_cases c4 : ws.length = 0
  ·have d4 : decide ((ws.length : Int) = 0) = true := decide_eq_true (by omega)
   have : takeQ q day ws = (zeroQ, zeroB, 10) := by rw [takeQ, if_pos c1, if_pos c2, if_neg c3, if_pos c4]
   simp -dsimp -implicitDefEqProofs [-getElem?_pos, go_sem, hP, c2, d0, d0n, d4, c4]
   refine done_zeroQ3 ?_
   rw [this]; rfl
  have d4 : decide ((ws.length : Int) = 0) = false := decide_eq_false (by omega)
  by_cases c5 : 10 < ws.length
  ·have d5 : decide ((10 : Int) < (ws.length : Int)) = true := decide_eq_true (by omega)
   have : takeQ q day ws = (zeroQ, zeroB, 3) := by rw [takeQ, if_pos c1, if_pos c2, if_neg c3, if_neg c4, if_pos (.inl c5)]
   simp -dsimp -implicitDefEqProofs [-getElem?_pos, go_sem, hP, c2, d0, d0n, d4, c4, d5]
   refine done_zeroQ3 ?_
   rw [this]; rfl
  have d5 : decide ((10 : Int) < (ws.length : Int)) = false := decide_eq_false (by omega)
  by_cases c6 : 200 ≤ q.Batches.length
  ·have d6 : decide ((200 : Int) ≤ (q.Batches.length : Int)) = true := decide_eq_true (by omega)
   have : takeQ q day ws = (zeroQ, zeroB, 3) := by rw [takeQ, if_pos c1, if_pos c2, if_neg c3, if_neg c4, if_pos (.inr c6)]
   simp -dsimp -implicitDefEqProofs [-getElem?_pos, go_sem, hP, c2, d0, d0n, d4, c4, d5, d6]
   refine done_zeroQ3 ?_
   rw [this]; rfl
  have d6 : decide ((200 : Int) ≤ (q.Batches.length : Int)) = false := decide_eq_false (by omega)
  simp -dsimp -implicitDefEqProofs [-getElem?_pos, go_sem, hP, c2, d0, d0n, d4, c4, d5, d6]
  refine ⟨_, Weaker.refl _, ?_⟩
  rw [hInv]
  exact ⟨c2, c3, c4, c5, c6, by simp -dsimp [-getElem?_pos, go_sem], by simp -dsimp [-getElem?_pos, go_sem], by simp -dsimp [-getElem?_pos, go_sem], by simp -dsimp [-getElem?_pos, go_sem], by simp -dsimp [-getElem?_pos, go_sem], by simp -dsimp [-getElem?_pos, go_sem], rfl⟩
 ·obtain ⟨b, hlast⟩ : ∃ b, q.Batches.getLast? = some b := ⟨_, List.getLast?_eq_some_getLast (by intro h; simp [h] at c0)⟩
  have l0 : lastQ q = b.Day := by rw [lastQ, hlast]
  have hb : q.Batches[q.Batches.length - 1]? = some b := by rw [← List.getLast?_eq_getElem?]; exact hlast
  have d0 : decide ((0 : Int) < (q.Batches.length : Int)) = true := decide_eq_true (by omega)
  have w1 : IntKind.i64.wrap ((q.Batches.length : Int) - 1) = ((q.Batches.length - 1 : Nat) : Int) := by rw [wrap_in _ (by omega)]; omega
  have d3 : decide (day < b.Day) = false := decide_eq_false (by omega)
  have hp0 : 0 < q.Batches.length := by omega
  by_cases c4 : ws.length = 0
  ·have d4 : decide ((ws.length : Int) = 0) = true := decide_eq_true (by omega)
   have : takeQ q day ws = (zeroQ, zeroB, 10) := by rw [takeQ, if_pos c1, if_pos c2, if_neg c3, if_pos c4]
   simp -dsimp -implicitDefEqProofs [-getElem?_pos, go_sem, hP, c2, d0, w1, hb, cBt, d3, hp0, d4, c4]
   refine done_zeroQ3 ?_
   rw [this]; rfl
  have d4 : decide ((ws.length : Int) = 0) = false := decide_eq_false (by omega)
  by_cases c5 : 10 < ws.length
  ·have d5 : decide ((10 : Int) < (ws.length : Int)) = true := decide_eq_true (by omega)
   have : takeQ q day ws = (zeroQ, zeroB, 3) := by rw [takeQ, if_pos c1, if_pos c2, if_neg c3, if_neg c4, if_pos (.inl c5)]
   simp -dsimp -implicitDefEqProofs [-getElem?_pos, go_sem, hP, c2, d0, w1, hb, cBt, d3, hp0, d4, c4, d5]
   refine done_zeroQ3 ?_
   rw [this]; rfl
  have d5 : decide ((10 : Int) < (ws.length : Int)) = false := decide_eq_false (by omega)
  by_cases c6 : 200 ≤ q.Batches.length
  ·have d6 : decide ((200 : Int) ≤ (q.Batches.length : Int)) = true := decide_eq_true (by omega)
   have : takeQ q day ws = (zeroQ, zeroB, 3) := by rw [takeQ, if_pos c1, if_pos c2, if_neg c3, if_neg c4, if_pos (.inr c6)]
   simp -dsimp -implicitDefEqProofs [-getElem?_pos, go_sem, hP, c2, d0, w1, hb, cBt, d3, hp0, d4, c4, d5, d6]
   refine done_zeroQ3 ?_
   rw [this]; rfl
  have d6 : decide ((200 : Int) ≤ (q.Batches.length : Int)) = false := decide_eq_false (by omega)
  simp -dsimp -implicitDefEqProofs [-getElem?_pos, go_sem, hP, c2, d0, w1, hb, cBt, d3, hp0, d4, c4, d5, d6]
  refine ⟨_, Weaker.refl _, ?_⟩
  rw [hInv]
  exact ⟨c2, c3, c4, c5, c6, by simp -dsimp [-getElem?_pos, go_sem], by simp -dsimp [-getElem?_pos, go_sem], by simp -dsimp [-getElem?_pos, go_sem], by simp -dsimp [-getElem?_pos, go_sem], by simp -dsimp [-getElem?_pos, go_sem], by simp -dsimp [-getElem?_pos, go_sem], rfl⟩
end Go.Proofs.YtmpncdlhmknkoaaGreat
namespace Go.PA
open Go.RowKit
theorem pfun_of_mfun {P : Program} {row src : Option Nat} {f : FuncId} {args : List AV} {C : AV → Heap → Prop} {Q : AV → Prop} (h : MFun P row src f args [] C)
  (hC : ∀ r H', C r H' → ∃ x, Weak (view H' r) x ∧ Imm (view H' r) ∧ Imm x ∧ Q x) : PFun P row src f args Q := by
 intro w ok vs h1 h2 h3 h4
 let E : Env := { P := P, w0 := w, okA := ok, row := row, src := src, N := 0, W := fun _ => False, ρ0 := fun _ => none, H0 := [] }
 have g : Good E w (fun _ => none) [] ok := ⟨rfl, rfl, rfl, Nat.le_refl _, fun _ _ _ _ => rfl, h2, fun b hb => ⟨(h1 b hb).1, (h1 b hb).2, .inl hb⟩, by simp, by simp, by simp, by simp⟩
 refine ((h E rfl rfl rfl).2 w (fun _ => none) ok vs g h3 h4).mono ?_
 rintro e w' ⟨v, r, H', ρ, ok', rfl, hc, g', _, hrep⟩
 obtain ⟨x, hwk, hi, hix, hx⟩ := hC r H' hc
 refine ⟨v, x, rfl, hx, hix, ?_, ⟨g'.os, g'.tape, g'.output, g'.size, fun k hk hne => g'.blk k hk (fun h => h) hne⟩, ?_⟩
 ·refine Rep.weak hwk ((view_sound g' hrep hi).imm (fun b hb => ?_) hi)
  rcases hb with hb | ⟨_, _, _, ho, hρ⟩
  ·obtain ⟨b1, _, b3⟩ := g'.oks b hb
   exact b3.imp id fun h => ⟨h, b1⟩
  ·have hobj := g'.obj _ _ ho
   rw [hρ] at hobj
   obtain ⟨_, _, b3⟩ := g'.own _ _ b _ ho hρ
   exact .inr ⟨b3.resolve_left (fun h => h), hobj.lt⟩
 ·refine ⟨h2.1, fun p hp => ?_⟩
  exact g'.inv.2 p hp
theorem pfun_of_mfun_agg {P : Program} {row src : Option Nat} {f : FuncId} {args : List AV} {C : AV → Heap → Prop} {cs : List AV} (h : MFun P row src f args [] C)
  (hi : Imm (.agg cs)) (hC : ∀ r H', C r H' → ∃ xs, r = .agg xs ∧ CW H' xs cs) : PFun P row src f args (· = .agg cs) :=
 pfun_of_mfun h fun r H' hc => by
  obtain ⟨xs, rfl, hw⟩ := hC r H' hc
  exact ⟨.agg cs, hw.weak, hw.imm, hi, rfl⟩
end Go.PA
