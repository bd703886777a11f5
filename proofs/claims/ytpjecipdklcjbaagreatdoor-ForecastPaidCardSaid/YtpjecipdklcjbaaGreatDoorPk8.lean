/- Several texts of this claim, joined: Rec20 Rec21 Rec8 RecSane RecSnd Positions Sane29 Splits UpTo29 Fc1 Fc2 Law29b Law29p. -/
import Derived.Test.YtpjecipdklcjbaaGreatDoorPk7
set_option linter.unusedSimpArgs false
set_option linter.unusedVariables false
namespace Go.Proofs.YtpjecipdklcjbaaGreatDoor
open Go.PA
open Go.RowKit
def StepR (n : Nat) (d : TDesk) (r : AV) : Prop := ∃ (x : TDesk) (day : Int), r = .tup [.agg x.cells, iv day] ∧ StepD n d x day
theorem StepR_ex {n : Nat} {d : TDesk} {day : Int} (h : GenD n d day) : ∃ r, StepR n d r ∧ Imm r := ⟨_, ⟨d, day, rfl, .same h⟩, imm_pair (imm_desk d) .sc⟩
set_option maxHeartbeats 8000000 in
theorem work_pf (p : Nat) (src : Option Nat) (n : Nat) (hn : n ≤ 1000) (d : TDesk) (day : Int) (hg : GenD n d day) : PFun Tryz.prog (some p) src 40 [sp p, .agg d.cells, iv day] (StepR n d) := by
  refine pfun_introA Tryz.func40 rfl (by simp [Tryz.f40]) ?_
  intro E hP hr hs hW hN
  have up : ∀ {f : FuncId} {args : List AV} {Q : AV → Prop}, PFun Tryz.prog (some p) src f args Q → PFun Tryz.prog E.row E.src f args Q := fun h => hr ▸ hs ▸ h
  have hf := hg.ok.fit
  have id' := imm_desk d
  have hday := hg.day
  rw [cDn] at id'
  refine awp_cut (by rw [hN]; kernel_rfl) ?_
  simp -dsimp -implicitDefEqProofs [-getElem?_pos, go_sem, hP, cDn]
  refine awp_cut (by rw [hN]; kernel_rfl) ?_
  simp -dsimp -implicitDefEqProofs [-getElem?_pos, go_sem, hP]
  refine awp_cut (by rw [hN]; kernel_rfl) ?_
  simp -dsimp -implicitDefEqProofs [-getElem?_pos, go_sem, hP]
  refine awp_cut (by rw [hN]; kernel_rfl) ?_
  simp -dsimp -implicitDefEqProofs [-getElem?_pos, go_sem, hP]
  refine callB_isQ (up (rangeQ_pf p src 1 12 (by omega) (by omega))) hP en_18 (by simp [go_sem]) (RQ_ex (by omega)) ?_
  rintro r ⟨w, rfl, hw⟩ _
  simp -dsimp -implicitDefEqProofs [-getElem?_pos, go_sem, hP]
  obtain ⟨Inv, hInv⟩ : ∃ Inv : St → Prop, Inv = fun s => ∃ (x : TDesk) (e dd : Int), (e = 0 → StepD n d x dd) ∧ (e ≠ 0 → dd = day) ∧ s.t 2 = iv dd ∧ s.t 4 = .ref 0 0 0 ∧ s.t 6 = .ref 1 0 0 ∧ s.t 8 = .ref 2 0 0 ∧ s.t 9 = iv e ∧ s.H[0]? = some (some (deskO d)) ∧ s.H[1]? = some (some zDeskO) ∧ s.H[2]? = some (some (deskO x)) := ⟨_, rfl⟩
  refine awp_join Inv (by rw [hN]; kernel_rfl) ?_ ?_
  rotate_left
  · intro s hs'
    rw [hInv] at hs'
    obtain ⟨x, e, dd, he, hd, t2, t4, t6, t8, t9, h0, h1, h2⟩ := hs'
    have lt0 := (List.getElem?_eq_some_iff.1 h0).1
    have lt1 := (List.getElem?_eq_some_iff.1 h1).1
    have lt2 := (List.getElem?_eq_some_iff.1 h2).1
    have ix := imm_desk x
    rw [cDn] at ix
    refine awp_sound _ _ _ (by rw [hN]; kernel_rfl) ?_
    by_cases c : e = 0
    · have dc : decide (e = 0) = true := decide_eq_true c
      simp -dsimp -implicitDefEqProofs [-getElem?_pos, go_sem, hP, t9, c, t8, h2, lt2, t2, t6, h1, lt1]
      exact done_imm (imm_pair ix .sc) ⟨x, dd, rfl, he c⟩
    · have dc : decide (e = 0) = false := decide_eq_false c
      have := hd c
      subst this
      simp -dsimp -implicitDefEqProofs [-getElem?_pos, go_sem, hP, t9, c, dc, t4, h0, lt0, t2, t6, h1, lt1]
      exact done_imm (imm_pair id' .sc) ⟨d, dd, rfl, .same hg⟩
  simp -dsimp -implicitDefEqProofs [-getElem?_pos, go_sem, hP]
  refine callB_isQ (up (N_pf p src 9 (by omega))) hP en_16 (by simp [go_sem]) (N_exI _) ?_
  rintro r ⟨z, rfl, _, hz⟩ _
  by_cases z0 : z = 0 ∨ z = 1 ∨ z = 2
  · rcases z0 with rfl | rfl | rfl
    all_goals
      simp -dsimp -implicitDefEqProofs [-getElem?_pos, go_sem, hP]
      refine adrawQ (fun i => decide (i = 0)) [7] [2, 3] hP (by kernel_rfl) (by kernel_rfl) ?_
      simp -dsimp -implicitDefEqProofs [-getElem?_pos, go_sem, hP, restr_get]
      refine callQ_isQ (up (gpay_pf p src)) hP en_84 (by simp [go_sem]) PayQ_ex ?_
      rintro r ⟨g, rfl, hgp⟩ _
      have ad := order26_pf d g hf
      have ig := imm_pay g
      obtain ⟨X, hX⟩ : ∃ X, X = (orderD d g).1 := ⟨_, rfl⟩
      obtain ⟨e, he⟩ : ∃ e, e = (orderD d g).2 := ⟨_, rfl⟩
      have hb : e = 0 → StepD n d X day := fun h => .order hg hgp (by rw [← h, hX, he])
      rw [← hX, ← he, cDn, cPy, cDn] at ad
      have iX := imm_desk X
      rw [cDn] at iX
      rw [cPy] at ig
      simp -dsimp -implicitDefEqProofs [-getElem?_pos, go_sem, hP, cPy, restr_get]
      refine callQ_is (ad.lift _ _) hP en_83 (by simpa using ⟨id', ig⟩) (imm_pair iX .sc) ?_
      simp -dsimp -implicitDefEqProofs [-getElem?_pos, go_sem, hP]
      refine ⟨_, Weaker.refl _, ?_⟩
      rw [hInv]
      exact ⟨X, e, day, hb, fun _ => rfl, by simp -dsimp -implicitDefEqProofs [-getElem?_pos, go_sem], by simp -dsimp -implicitDefEqProofs [-getElem?_pos, go_sem], by simp -dsimp -implicitDefEqProofs [-getElem?_pos, go_sem], by simp -dsimp -implicitDefEqProofs [-getElem?_pos, go_sem], by simp -dsimp -implicitDefEqProofs [-getElem?_pos, go_sem], by simp -dsimp -implicitDefEqProofs [-getElem?_pos, go_sem], by simp -dsimp -implicitDefEqProofs [-getElem?_pos, go_sem], by simp -dsimp -implicitDefEqProofs [-getElem?_pos, go_sem]⟩
  have z0' : ¬ z = 0 := fun h => z0 (.inl h)
  have z1' : ¬ z = 1 := fun h => z0 (.inr (.inl h))
  have z2' : ¬ z = 2 := fun h => z0 (.inr (.inr h))
  have d0 : decide (z = 0) = false := decide_eq_false z0'
  have d1 : decide (z = 1) = false := decide_eq_false z1'
  have d2 : decide (z = 2) = false := decide_eq_false z2'
  by_cases z34 : z = 3 ∨ z = 4
  · rcases z34 with rfl | rfl
    all_goals
      simp -dsimp -implicitDefEqProofs [-getElem?_pos, go_sem, hP]
      refine callB_isQ (up (N_pf p src 4 (by omega))) hP en_16 (by simp [go_sem]) (N_exI _) ?_
      rintro r ⟨v, rfl, _, hv⟩ _
      have hv := hv (by omega)
      have wv := wrap_in (day + v) (by omega)
      simp -dsimp -implicitDefEqProofs [-getElem?_pos, go_sem, hP, wv]
      refine callB_is ((business_pf (day + v) (by omega)).lift _ _) hP en_9 (by simp [imm_sc]) .sc ?_
      obtain ⟨nx, hnx⟩ : ∃ nx, nx = busI (day + v) := ⟨_, rfl⟩
      have hnb := busI_ge (day + v)
      rw [← hnx] at hnb ⊢
      have sd := send26_pf d nx hf
      obtain ⟨X, hX⟩ : ∃ X, X = (sendD d nx).1 := ⟨_, rfl⟩
      obtain ⟨b, hbt⟩ : ∃ b, b = (sendD d nx).2.1 := ⟨_, rfl⟩
      obtain ⟨e, he⟩ : ∃ e, e = (sendD d nx).2.2 := ⟨_, rfl⟩
      have hb : e = 0 → StepD n d X nx := fun h => .send (b := b) hg (by omega) (by rw [← h, hX, he, hbt])
      rw [← hX, ← he, ← hbt, cDn, cDn, cBt] at sd
      have iX := imm_desk X
      rw [cDn] at iX
      have ib := imm_bat b
      rw [cBt] at ib
      simp -dsimp -implicitDefEqProofs [-getElem?_pos, go_sem, hP]
      refine callB_is (sd.lift _ _) hP en_10 (by simpa [imm_sc] using id') (imm_trip iX ib .sc) ?_
      by_cases c : e = 0
      · have dc : decide (e = 0) = true := decide_eq_true c
        simp -dsimp -implicitDefEqProofs [-getElem?_pos, go_sem, hP, c]
        refine ⟨_, Weaker.refl _, ?_⟩
        rw [hInv]
        exact ⟨X, 0, nx, fun _ => hb c, fun h => absurd rfl h, by simp -dsimp -implicitDefEqProofs [-getElem?_pos, go_sem], by simp -dsimp -implicitDefEqProofs [-getElem?_pos, go_sem], by simp -dsimp -implicitDefEqProofs [-getElem?_pos, go_sem], by simp -dsimp -implicitDefEqProofs [-getElem?_pos, go_sem], by simp -dsimp -implicitDefEqProofs [-getElem?_pos, go_sem], by simp -dsimp -implicitDefEqProofs [-getElem?_pos, go_sem], by simp -dsimp -implicitDefEqProofs [-getElem?_pos, go_sem], by simp -dsimp -implicitDefEqProofs [-getElem?_pos, go_sem]⟩
      · have dc : decide (e = 0) = false := decide_eq_false c
        simp -dsimp -implicitDefEqProofs [-getElem?_pos, go_sem, hP, c, dc]
        refine ⟨_, Weaker.refl _, ?_⟩
        rw [hInv]
        exact ⟨X, e, day, fun h => absurd h c, fun _ => rfl, by simp -dsimp -implicitDefEqProofs [-getElem?_pos, go_sem], by simp -dsimp -implicitDefEqProofs [-getElem?_pos, go_sem], by simp -dsimp -implicitDefEqProofs [-getElem?_pos, go_sem], by simp -dsimp -implicitDefEqProofs [-getElem?_pos, go_sem], by simp -dsimp -implicitDefEqProofs [-getElem?_pos, go_sem], by simp -dsimp -implicitDefEqProofs [-getElem?_pos, go_sem], by simp -dsimp -implicitDefEqProofs [-getElem?_pos, go_sem], by simp -dsimp -implicitDefEqProofs [-getElem?_pos, go_sem]⟩
  have z3' : ¬ z = 3 := fun h => z34 (.inl h)
  have z4' : ¬ z = 4 := fun h => z34 (.inr h)
  have d3 : decide (z = 3) = false := decide_eq_false z3'
  have d4 : decide (z = 4) = false := decide_eq_false z4'
  by_cases z5 : z = 5
  · subst z5
    have ad := settle26_pf d w hf
    obtain ⟨X, hX⟩ : ∃ X, X = (settleD d w).1 := ⟨_, rfl⟩
    obtain ⟨e, he⟩ : ∃ e, e = (settleD d w).2 := ⟨_, rfl⟩
    have hb : e = 0 → StepD n d X day := fun h => .settle (w := w) hg (by rw [← h, hX, he])
    rw [← hX, ← he, cDn, cDn] at ad
    have iX := imm_desk X
    rw [cDn] at iX
    simp -dsimp -implicitDefEqProofs [-getElem?_pos, go_sem, hP]
    refine callB_is (ad.lift _ _) hP en_85 (by simpa [imm_sc] using id') (imm_pair iX .sc) ?_
    simp -dsimp -implicitDefEqProofs [-getElem?_pos, go_sem, hP]
    refine ⟨_, Weaker.refl _, ?_⟩
    rw [hInv]
    exact ⟨X, e, day, hb, fun _ => rfl, by simp -dsimp -implicitDefEqProofs [-getElem?_pos, go_sem], by simp -dsimp -implicitDefEqProofs [-getElem?_pos, go_sem], by simp -dsimp -implicitDefEqProofs [-getElem?_pos, go_sem], by simp -dsimp -implicitDefEqProofs [-getElem?_pos, go_sem], by simp -dsimp -implicitDefEqProofs [-getElem?_pos, go_sem], by simp -dsimp -implicitDefEqProofs [-getElem?_pos, go_sem], by simp -dsimp -implicitDefEqProofs [-getElem?_pos, go_sem], by simp -dsimp -implicitDefEqProofs [-getElem?_pos, go_sem]⟩
  have d5 : decide (z = 5) = false := decide_eq_false z5
  by_cases z6 : z = 6
  · subst z6
    have wd := wrap_in (day + 1) (by omega)
    have ad := return26_pf d w (day + 1) hf
    obtain ⟨X, hX⟩ : ∃ X, X = (returnD d w (day + 1)).1 := ⟨_, rfl⟩
    obtain ⟨e, he⟩ : ∃ e, e = (returnD d w (day + 1)).2 := ⟨_, rfl⟩
    have hb : e = 0 → StepD n d X (day + 1) := fun h => .ret (w := w) hg (by rw [← h, hX, he])
    rw [← hX, ← he, cDn, cDn] at ad
    have iX := imm_desk X
    rw [cDn] at iX
    simp -dsimp -implicitDefEqProofs [-getElem?_pos, go_sem, hP, wd]
    refine callB_is (ad.lift _ _) hP en_86 (by simpa [imm_sc] using id') (imm_pair iX .sc) ?_
    by_cases c : e = 0
    · simp -dsimp -implicitDefEqProofs [-getElem?_pos, go_sem, hP, c, wd]
      refine ⟨_, Weaker.refl _, ?_⟩
      rw [hInv]
      exact ⟨X, 0, day + 1, fun _ => hb c, fun h => absurd rfl h, by simp -dsimp -implicitDefEqProofs [-getElem?_pos, go_sem], by simp -dsimp -implicitDefEqProofs [-getElem?_pos, go_sem], by simp -dsimp -implicitDefEqProofs [-getElem?_pos, go_sem], by simp -dsimp -implicitDefEqProofs [-getElem?_pos, go_sem], by simp -dsimp -implicitDefEqProofs [-getElem?_pos, go_sem], by simp -dsimp -implicitDefEqProofs [-getElem?_pos, go_sem], by simp -dsimp -implicitDefEqProofs [-getElem?_pos, go_sem], by simp -dsimp -implicitDefEqProofs [-getElem?_pos, go_sem]⟩
    · have dc : decide (e = 0) = false := decide_eq_false c
      simp -dsimp -implicitDefEqProofs [-getElem?_pos, go_sem, hP, c, dc]
      refine ⟨_, Weaker.refl _, ?_⟩
      rw [hInv]
      exact ⟨X, e, day, fun h => absurd h c, fun _ => rfl, by simp -dsimp -implicitDefEqProofs [-getElem?_pos, go_sem], by simp -dsimp -implicitDefEqProofs [-getElem?_pos, go_sem], by simp -dsimp -implicitDefEqProofs [-getElem?_pos, go_sem], by simp -dsimp -implicitDefEqProofs [-getElem?_pos, go_sem], by simp -dsimp -implicitDefEqProofs [-getElem?_pos, go_sem], by simp -dsimp -implicitDefEqProofs [-getElem?_pos, go_sem], by simp -dsimp -implicitDefEqProofs [-getElem?_pos, go_sem], by simp -dsimp -implicitDefEqProofs [-getElem?_pos, go_sem]⟩
  have d6 : decide (z = 6) = false := decide_eq_false z6
  by_cases z7 : z = 7
  · subst z7
    have ad := again26_pf d w day hf
    obtain ⟨X, hX⟩ : ∃ X, X = (againD d w day).1 := ⟨_, rfl⟩
    obtain ⟨e, he⟩ : ∃ e, e = (againD d w day).2 := ⟨_, rfl⟩
    have hb : e = 0 → StepD n d X day := fun h => .again (w := w) (due := day) hg (by rw [← h, hX, he])
    rw [← hX, ← he, cDn, cDn] at ad
    have iX := imm_desk X
    rw [cDn] at iX
    simp -dsimp -implicitDefEqProofs [-getElem?_pos, go_sem, hP]
    refine callB_is (ad.lift _ _) hP en_87 (by simpa [imm_sc] using id') (imm_pair iX .sc) ?_
    simp -dsimp -implicitDefEqProofs [-getElem?_pos, go_sem, hP]
    refine ⟨_, Weaker.refl _, ?_⟩
    rw [hInv]
    exact ⟨X, e, day, hb, fun _ => rfl, by simp -dsimp -implicitDefEqProofs [-getElem?_pos, go_sem], by simp -dsimp -implicitDefEqProofs [-getElem?_pos, go_sem], by simp -dsimp -implicitDefEqProofs [-getElem?_pos, go_sem], by simp -dsimp -implicitDefEqProofs [-getElem?_pos, go_sem], by simp -dsimp -implicitDefEqProofs [-getElem?_pos, go_sem], by simp -dsimp -implicitDefEqProofs [-getElem?_pos, go_sem], by simp -dsimp -implicitDefEqProofs [-getElem?_pos, go_sem], by simp -dsimp -implicitDefEqProofs [-getElem?_pos, go_sem]⟩
  have d7 : decide (z = 7) = false := decide_eq_false z7
  have ad := recall26_pf d w hf
  obtain ⟨X, hX⟩ : ∃ X, X = (recallD d w).1 := ⟨_, rfl⟩
  obtain ⟨e, he⟩ : ∃ e, e = (recallD d w).2 := ⟨_, rfl⟩
  have hb : e = 0 → StepD n d X day := fun h => .recall (w := w) hg (by rw [← h, hX, he])
  rw [← hX, ← he, cDn, cDn] at ad
  have iX := imm_desk X
  rw [cDn] at iX
  simp -dsimp -implicitDefEqProofs [-getElem?_pos, go_sem, hP, d0, d1, d2, d3, d4, d5, d6, d7, z0', z1', z2', z3', z4', z5, z6, z7]
  refine callB_is (ad.lift _ _) hP en_88 (by simpa [imm_sc] using id') (imm_pair iX .sc) ?_
  simp -dsimp -implicitDefEqProofs [-getElem?_pos, go_sem, hP]
  refine ⟨_, Weaker.refl _, ?_⟩
  rw [hInv]
  exact ⟨X, e, day, hb, fun _ => rfl, by simp -dsimp -implicitDefEqProofs [-getElem?_pos, go_sem], by simp -dsimp -implicitDefEqProofs [-getElem?_pos, go_sem], by simp -dsimp -implicitDefEqProofs [-getElem?_pos, go_sem], by simp -dsimp -implicitDefEqProofs [-getElem?_pos, go_sem], by simp -dsimp -implicitDefEqProofs [-getElem?_pos, go_sem], by simp -dsimp -implicitDefEqProofs [-getElem?_pos, go_sem], by simp -dsimp -implicitDefEqProofs [-getElem?_pos, go_sem], by simp -dsimp -implicitDefEqProofs [-getElem?_pos, go_sem]⟩
open Go.PA
open Go.RowKit
theorem GenD.le {n m : Nat} {d : TDesk} {day : Int} (h : GenD n d day) (hm : n ≤ m) : GenD m d day := ⟨h.ok, h.ids, h.small, h.cred, h.pays, h.refs, by have := h.len; omega, by have := h.bl; omega, h.lastA, h.lastB, by have := h.day; omega⟩
def DeskQ (n : Nat) (r : AV) : Prop := ∃ (d : TDesk) (day : Int), r = .tup [.agg d.cells, iv day] ∧ GenD n d day
theorem gen_zero : GenD 0 ⟨newA [1, 2, 3, 7] 0, zeroQ, []⟩ 0 := by
  refine GenD.start ((GenAcc.open (c := 0) (by omega)).1.mono (by omega)) (by simp [newA]) ?_ (by omega)
  decide
theorem DeskQ_ex (n : Nat) : ∃ r, DeskQ n r ∧ Imm r := ⟨_, ⟨_, 0, rfl, gen_zero.le (by omega)⟩, imm_pair (imm_desk _) .sc⟩
theorem acc0_ex : ∃ r, (∃ a : TAccount, r = AV.agg a.cells ∧ GenAcc 8 a ∧ ∀ e, e ∈ a.Entries → e.Ref = 0) ∧ Imm r := ⟨_, ⟨newA [1, 2, 3, 7] 0, rfl, (GenAcc.open (by omega)).1.mono (by omega), by simp [newA]⟩, imm_acc _⟩
set_option maxHeartbeats 4000000 in
theorem desk_pf (p : Nat) (src : Option Nat) (most : Nat) (hm : most ≤ 100) : PFun Tryz.prog (some p) src 6 [sp p, iv most] (DeskQ most) := by
  refine pfun_introA Tryz.func6 rfl (by simp [Tryz.f6]) ?_
  intro E hP hr hs hW hN
  have up : ∀ {f : FuncId} {args : List AV} {Q : AV → Prop}, PFun Tryz.prog (some p) src f args Q → PFun Tryz.prog E.row E.src f args Q := fun h => hr ▸ hs ▸ h
  refine awp_cut (by rw [hN]; kernel_rfl) ?_
  simp -dsimp -implicitDefEqProofs [-getElem?_pos, go_sem, hP]
  refine awp_cut (by rw [hN]; kernel_rfl) ?_
  simp -dsimp -implicitDefEqProofs [-getElem?_pos, go_sem, hP]
  refine callB_isQ (up (account0_pf p src 8 (by omega))) hP en_38 (by simp [go_sem]) acc0_ex ?_
  rintro r ⟨a, rfl, hga, hra⟩ _
  have fa := check_fit hga.ok
  have op := open26_pf a fa.1 fa.2
  have ia := imm_acc a
  have ho : (openD a).2 = 0 := by
    rw [openD, if_pos hga.ok, if_neg]
    intro e
    obtain ⟨x, hx, e⟩ := List.any_eq_true.1 e
    rw [refB, decide_eq_true (hra x hx)] at e
    cases e
  have h1 := (openD_ok ho).1
  rw [h1] at op
  simp only at op
  obtain ⟨d0, hd0⟩ : ∃ d0 : TDesk, d0 = ⟨a, zeroQ, []⟩ := ⟨_, rfl⟩
  have g0 : GenD 0 d0 (lastDay a) := by
    rw [hd0]
    have := hga.day
    exact GenD.start hga hra (Int.le_refl _) ⟨lastDay_pos hga.ok, by rw [lastDay]; omega⟩
  rw [← hd0] at op
  have id' := imm_desk d0
  rw [cDn] at op id'
  rw [cA] at op ia
  simp -dsimp -implicitDefEqProofs [-getElem?_pos, go_sem, hP, cA]
  refine awp_cut (by rw [hN]; kernel_rfl) ?_
  simp -dsimp -implicitDefEqProofs [-getElem?_pos, go_sem, hP]
  refine callB_is (op.lift _ _) hP en_39 (by simpa using ia) (imm_pair id' .sc) ?_
  simp -dsimp -implicitDefEqProofs [-getElem?_pos, go_sem, hP]
  refine awp_cut (by rw [hN]; kernel_rfl) ?_
  simp -dsimp -implicitDefEqProofs [-getElem?_pos, go_sem, hP]
  obtain ⟨Inv, hInv⟩ : ∃ Inv : St → Prop, Inv = fun s => s.t 0 = sp p ∧ s.t 1 = iv most ∧ s.t 4 = .ref 0 0 0 ∧ s.t 7 = .ref 2 0 0 ∧ s.t 9 = iv (lastDay a) ∧ s.H[0]? = some (some zDeskO) ∧ s.H[2]? = some (some (deskO d0)) := ⟨_, rfl⟩
  refine awp_join Inv (by rw [hN]; kernel_rfl) ?_ ?_
  · rcases Nat.eq_zero_or_pos a.Entries.length with h0 | h0
    · have e0 : decide (0 < a.Entries.length) = false := decide_eq_false (by omega)
      have : lastDay a = 0 := by rw [lastDay, lastE_nil h0]
      simp -dsimp -implicitDefEqProofs [-getElem?_pos, go_sem, hP, e0]
      refine ⟨_, Weaker.refl _, ?_⟩
      rw [hInv, this]
      exact ⟨by simp -dsimp -implicitDefEqProofs [-getElem?_pos, go_sem], by simp -dsimp -implicitDefEqProofs [-getElem?_pos, go_sem], by simp -dsimp -implicitDefEqProofs [-getElem?_pos, go_sem], by simp -dsimp -implicitDefEqProofs [-getElem?_pos, go_sem], by simp -dsimp -implicitDefEqProofs [-getElem?_pos, go_sem], by simp -dsimp -implicitDefEqProofs [-getElem?_pos, go_sem], by simp -dsimp -implicitDefEqProofs [-getElem?_pos, go_sem]⟩
    · obtain ⟨k, hk⟩ : ∃ k, a.Entries.length = k + 1 := ⟨_, (Nat.succ_pred_eq_of_pos h0).symm⟩
      obtain ⟨e, hee⟩ : ∃ e, a.Entries[k]? = some e := ⟨_, List.getElem?_eq_getElem (by omega)⟩
      have wk : IntKind.i64.wrap (k : Int) = (k : Int) := wrap_in _ (by have := fa.2; omega)
      have : lastDay a = e.Day := by rw [lastDay, lastE_get hk hee]
      simp -dsimp -implicitDefEqProofs [-getElem?_pos, go_sem, hP, h0, hk, wk, Int.add_sub_cancel, hee, cE]
      refine ⟨_, Weaker.refl _, ?_⟩
      rw [hInv, this]
      exact ⟨by simp -dsimp -implicitDefEqProofs [-getElem?_pos, go_sem], by simp -dsimp -implicitDefEqProofs [-getElem?_pos, go_sem], by simp -dsimp -implicitDefEqProofs [-getElem?_pos, go_sem], by simp -dsimp -implicitDefEqProofs [-getElem?_pos, go_sem], by simp -dsimp -implicitDefEqProofs [-getElem?_pos, go_sem], by simp -dsimp -implicitDefEqProofs [-getElem?_pos, go_sem], by simp -dsimp -implicitDefEqProofs [-getElem?_pos, go_sem]⟩
  intro s hs'
  rw [hInv] at hs'
  obtain ⟨t0, t1, t4, t7, t9, h0, h2⟩ := hs'
  clear hInv Inv
  refine awp_sound _ _ _ (by rw [hN]; kernel_rfl) ?_
  have w1 := wrap_in ((most : Int) + 1) (by omega)
  simp -dsimp -implicitDefEqProofs [-getElem?_pos, go_sem, hP, t0, t1, w1]
  refine callB_flat (up (N_pf p src (most + 1) (by omega))) hP en_16 (args_same (by simp -dsimp -implicitDefEqProofs [-getElem?_pos, go_sem, w1])) (NQ_ex _) (NQ_flat _) ?_
  rintro r ⟨m, rfl, _, hm1⟩
  have hm1 := hm1 (by omega)
  obtain ⟨m, rfl⟩ := Int.eq_ofNat_of_zero_le hm1.1
  simp -dsimp -implicitDefEqProofs [-getElem?_pos, go_sem, hP]
  obtain ⟨I, hI⟩ : ∃ I : Nat → St → Prop, I = fun m s => ∃ (k : Nat) (d : TDesk) (day : Int), k + m ≤ most ∧ GenD k d day ∧ s.t 0 = sp p ∧ s.t 4 = .ref 0 0 0 ∧ s.t 7 = .ref 2 0 0 ∧ s.t 9 = iv day ∧ s.t 11 = iv m ∧ s.H[0]? = some (some zDeskO) ∧ s.H[2]? = some (some (deskO d)) := ⟨_, rfl⟩
  refine aloop0 I (m) (by rw [hN]; rfl) ?_ ?_
  · rw [hI]
    exact ⟨0, d0, lastDay a, by omega, g0, by simp -dsimp -implicitDefEqProofs [-getElem?_pos, go_sem, t0], by simp -dsimp -implicitDefEqProofs [-getElem?_pos, go_sem, t4], by simp -dsimp -implicitDefEqProofs [-getElem?_pos, go_sem, t7], by simp -dsimp -implicitDefEqProofs [-getElem?_pos, go_sem, t9], by simp -dsimp -implicitDefEqProofs [-getElem?_pos, go_sem], by simp -dsimp -implicitDefEqProofs [-getElem?_pos, go_sem, h0], by simp -dsimp -implicitDefEqProofs [-getElem?_pos, go_sem, h2]⟩
  clear hm1 g0 op id' t0 t1 t4 t7 t9 h0 h2
  intro m s hs'
  rw [hI] at hs'
  obtain ⟨k, d, day, hk, hg, t0, t4, t7, t9, t11, h0, h2⟩ := hs'
  have lt0 := (List.getElem?_eq_some_iff.1 h0).1
  have lt2 := (List.getElem?_eq_some_iff.1 h2).1
  have id' := imm_desk d
  rw [cDn] at id'
  simp -dsimp -implicitDefEqProofs [-getElem?_pos, go_sem, hP, t11]
  refine condP (fun h => ?_) (fun h => ?_)
  · have hm0 : 0 < m := by simpa using h
    have wm := wrap_in ((m : Int) - 1) (by omega)
    have wp := work_pf p src k (by omega) d day hg
    rw [cDn] at wp
    simp -dsimp -implicitDefEqProofs [-getElem?_pos, go_sem, hP, t0, t7, h2, lt2, t9]
    refine callB_isQ (up wp) hP en_40 (by simp [imm_sc]; exact id') (StepR_ex hg) ?_
    rintro r ⟨x, day', rfl, hst⟩ _
    simp -dsimp -implicitDefEqProofs [-getElem?_pos, go_sem, hP, cDn, t7, h2, lt2, t11, wm]
    refine ⟨m - 1, by omega, ?_⟩
    rw [hI]
    refine ⟨k + 1, x, day', by omega, hst.gen, by simp -dsimp -implicitDefEqProofs [-getElem?_pos, go_sem, t0], by simp -dsimp -implicitDefEqProofs [-getElem?_pos, go_sem, t4], by simp -dsimp -implicitDefEqProofs [-getElem?_pos, go_sem, t7], by simp -dsimp -implicitDefEqProofs [-getElem?_pos, go_sem], ?_, by simp -dsimp -implicitDefEqProofs [-getElem?_pos, go_sem, h0], by simp -dsimp -implicitDefEqProofs [-getElem?_pos, go_sem, lt2]⟩
    simp -dsimp -implicitDefEqProofs [-getElem?_pos, go_sem]
    omega
  · have hm0 : m = 0 := by simpa using h
    simp -dsimp -implicitDefEqProofs [-getElem?_pos, go_sem, hP, t7, h2, lt2, t9, t4, h0, lt0]
    exact done_imm (imm_pair id' .sc) ⟨d, day, rfl, hg.le (by omega)⟩
open Go.PA
open Go.RowKit
open Go.PA
open Go.RowKit
open Go.PA
open Go.RowKit
def limC (c sub : Int) : Int := if sub = 1 then c else 0
theorem bal_net {a : TAccount} (h : checkA a = 0) {id : Int} (hi : id ∈ ids a.Subs) : balanceA a id = (netE id a.Entries, true) := by
  obtain ⟨_, _, _, h4, _⟩ := check_ok h
  rw [balanceA, if_pos h]
  have hs := check_net h
  generalize ids a.Subs = l at hi hs
  rw [hs]
  clear hs h4
  induction l with
  | nil => cases hi
  | cons i l ih =>
    rw [List.map_cons, List.find?_cons]
    by_cases c : i = id
    · subst c; simp
    · simp only [c, decide_false]
      exact ih ((List.mem_cons.1 hi).resolve_left fun e => c e.symm)
theorem post_out {a : TAccount} (h : checkA a = 0) (hl : a.Entries.length < 400) (h0 : (0 : Int) ∉ ids a.Subs) {day sub amt w : Int} (hd : (lastE a).Day ≤ day ∧ day ≤ 36000) (hs : sub ∈ ids a.Subs) (hn : 1 ≤ sub) (ha : 1 ≤ amt ∧ amt ≤ 1000000000000) (hw : 0 ≤ w ∧ w ≤ 1000000) (hb : amt ≤ netE sub a.Entries + limC a.Credit sub) : (postA a (nextE a day sub 0 amt w)).2 = 0 := by
  obtain ⟨k1, k2, k3, k4⟩ := check_keeps h
  have hr := wrap_in ((lastE a).Number + 1) (by omega)
  have e1 : badNum (lastE a).Number (nextE a day sub 0 amt w) = false := by simp [badNum, nextE, hr]
  have e2 : badDay (lastE a).Day (nextE a day sub 0 amt w) = false := by
    rw [badDay, Bool.not_eq_false', amongB_iff]
    exact hd
  have e3 : badAmt (nextE a day sub 0 amt w) = false := by
    have a1 : vB (nextE a day sub 0 amt w).Amount = true := amongB_iff.2 ⟨by simp only [nextE]; omega, ha.2⟩
    have a2 : amongB (nextE a day sub 0 amt w).Ref 0 1000000 = true := amongB_iff.2 hw
    have a3 : decide (0 < (nextE a day sub 0 amt w).Amount) = true := decide_eq_true (by simp only [nextE]; omega)
    rw [badAmt, a1, a2, a3]
    rfl
  have e4 : badSub a.Subs (nextE a day sub 0 amt w) = false := by
    have a1 : knownB a.Subs (nextE a day sub 0 amt w).From = true := (knownB_iff _ _).2 (.inr hs)
    have a2 : knownB a.Subs (nextE a day sub 0 amt w).To = true := (knownB_iff _ _).2 (.inl rfl)
    have a3 : decide ((nextE a day sub 0 amt w).From = (nextE a day sub 0 amt w).To) = false := decide_eq_false (by simp only [nextE]; omega)
    rw [badSub, a1, a2, a3]
    rfl
  have e6 : okAt a.Credit (adj (adj a.Subs (nextE a day sub 0 amt w).From (-(nextE a day sub 0 amt w).Amount)) (nextE a day sub 0 amt w).To (nextE a day sub 0 amt w).Amount) (nextE a day sub 0 amt w).To = true := okAt_none (by rw [adj_ids, adj_ids]; exact h0)
  have e5 : okAt a.Credit (adj a.Subs (nextE a day sub 0 amt w).From (-(nextE a day sub 0 amt w).Amount)) (nextE a day sub 0 amt w).From = true := by
    refine List.all_eq_true.2 fun s hs => ?_
    obtain ⟨t, ht, rfl⟩ := List.mem_map.1 hs
    have b1 := List.all_eq_true.1 k1 t ht
    have hA : (nextE a day sub 0 amt w).Amount = amt := rfl
    have hF : (nextE a day sub 0 amt w).From = sub := rfl
    rw [hA, hF]
    have hn := ht
    rw [check_net h] at hn
    obtain ⟨i, _, hi⟩ := List.mem_map.1 hn
    have hB : t.Balance = netE t.ID a.Entries := by rw [← hi]
    simp only [okSub, Bool.and_eq_true, decide_eq_true_eq] at b1
    by_cases c : t.ID = sub
    · rw [if_pos c]
      rw [← c] at hb
      simp only [okSub, Bool.or_eq_true, Bool.and_eq_true, decide_eq_true_eq]
      refine .inr ?_
      unfold limC at hb
      split at b1 <;> rename_i c1
      · rw [if_pos c1] at hb ⊢; omega
      · rw [if_neg c1] at hb ⊢; omega
    · rw [if_neg c]
      simp [c]
  have e : (postS a.Credit (lastE a).Number (lastE a).Day a.Subs (nextE a day sub 0 amt w)).1 = 0 := by
    rw [postS, if_neg (by rw [e1]; simp), if_neg (by rw [e2]; simp), if_neg (by rw [e3]; simp), if_neg (by rw [e4]; simp), if_neg (by rw [e5]; simp), if_neg (by rw [e6]; simp)]
  rw [postA, if_pos h, if_neg (by omega), if_pos e]
theorem postS_ne3 (credit n d : Int) (l : List TSub) (e : TEntry) : (postS credit n d l e).1 ≠ 3 := by
  unfold postS
  repeat' split
  all_goals simp
theorem post_ne3 {a : TAccount} (h : checkA a = 0) (hl : a.Entries.length < 400) (e : TEntry) : (postA a e).2 ≠ 3 := by
  rw [postA, if_pos h, if_neg (by omega)]
  split
  · simp
  · exact postS_ne3 _ _ _ _ _
theorem net_out {a : TAccount} {day sub amt w : Int} (h : (postA a (nextE a day sub 0 amt w)).2 = 0) (ha : 0 ≤ amt) {i : Int} (hi : 1 ≤ i) : netE i (postA a (nextE a day sub 0 amt w)).1.Entries ≤ netE i a.Entries := by
  have : dE i (nextE a day sub 0 amt w) ≤ 0 := by
    show (if (0 : Int) = i then amt else 0) - (if sub = i then amt else 0) ≤ 0
    rw [if_neg (by omega)]
    split <;> omega
  rw [post_ents h, netE, sumE_app, sumE_cons]
  have e0 : sumE (dE i) [] = 0 := rfl
  rw [e0]
  unfold netE
  omega
structure GoR (day : Int) (c : Int) (l : List TPayment) (a : TAccount) (ws : List Int) (full : Bool) (r : TAccount × List Int × Bool) : Prop where
  full : r.2.2 = full
  left : r.2.1.length < 10 → ∀ p, p ∈ l → p.Warrant ∈ r.2.1 ∨ netE p.Sub r.1.Entries + limC c p.Sub < p.Amount
  has : ∀ w, w ∈ ws → w ∈ r.2.1
  less : ∀ i, 1 ≤ i → netE i r.1.Entries ≤ netE i a.Entries
  len : ws.length ≤ 10 → r.2.1.length ≤ 10
theorem sendGo_all (day : Int) (hday : day ≤ 36000) (a0 : TAccount) (h0 : (0 : Int) ∉ ids a0.Subs) : ∀ (l : List TPayment) (a : TAccount) (ps : List TPayment) (full : Bool), Sent day a0 ps a → (∀ p, p ∈ l → PayOk p ∧ p.Sub ∈ ids a0.Subs) → a.Entries.length + l.length < 400 → lastDay a ≤ day → GoR day a0.Credit l a (ps.map (·.Warrant)) full (sendGo day l a (ps.map (·.Warrant)) full)
  | [], a, ps, full, h, hp, hl, hd => ⟨rfl, fun _ p hp => (by cases hp), fun w hw => hw, fun _ _ => Int.le_refl _, fun h => h⟩
  | p :: l, a, ps, full, h, hp, hl, hd => by
    obtain ⟨hp1, hp2⟩ := hp p (by simp)
    have hpl : ∀ p, p ∈ l → PayOk p ∧ p.Sub ∈ ids a0.Subs := fun q hq => hp q (by simp [hq])
    have hw := hp1.warrant
    have ha := hp1.amount
    rw [List.length_cons] at hl
    rw [sendGo]
    split
    · rename_i h10
      exact ⟨rfl, fun h => by dsimp only at h; omega, fun w hw => hw, fun _ _ => Int.le_refl _, fun h => h⟩
    · rename_i h10
      split
      · rename_i hpo
        have e : ps.map (·.Warrant) ++ [p.Warrant] = (ps ++ [p]).map (·.Warrant) := by simp
        rw [e]
        obtain ⟨r1, r2, r3, r4, r5⟩ := sendGo_all day hday a0 h0 l _ (ps ++ [p]) full (h.snoc hpo) hpl (by rw [post_ents hpo, List.length_append, List.length_singleton]; omega) (by rw [lastDay, lastE_post hpo]; exact Int.le_refl _)
        refine ⟨r1, fun h10 q hq => ?_, fun w hw => r3 w (by rw [List.map_append]; exact List.mem_append.2 (.inl hw)), fun i hi => Int.le_trans (r4 i hi) (net_out hpo (by omega) hi), fun h => r5 (by rw [List.map_append, List.length_append]; simp only [List.map_cons, List.map_nil, List.length_singleton]; omega)⟩
        rcases List.mem_cons.1 hq with rfl | hq
        · exact .inl (r3 _ (by simp))
        · exact r2 h10 q hq
      · rename_i hpo
        have n3 : decide ((postA a (nextE a day p.Sub 0 p.Amount p.Warrant)).2 = 3) = false := decide_eq_false (post_ne3 h.ok (by omega) _)
        rw [n3, Bool.or_false]
        obtain ⟨r1, r2, r3, r4, r5⟩ := sendGo_all day hday a0 h0 l a ps full h hpl (by omega) hd
        refine ⟨r1, fun h10 q hq => ?_, r3, r4, r5⟩
        rcases List.mem_cons.1 hq with rfl | hq
        · refine .inr (Int.lt_of_not_ge fun hge => hpo (post_out h.ok (by omega) (by rw [h.ids]; exact h0) ⟨hd, hday⟩ (by rw [h.ids]; exact hp2) hp1.sub.1 ha ⟨by omega, hw.2⟩ ?_))
          have := r4 q.Sub hp1.sub.1
          rw [h.cred]
          omega
        · exact r2 h10 q hq
section
variable {n : Nat} {d : TDesk} {day k : Int}
theorem gen_no0 (h : GenD n d day) : (0 : Int) ∉ ids d.Account.Subs := by rw [h.ids]; simp
theorem ready_item (h : GenD n d day) {p : TPayment} (hp : p ∈ readyQ d.Queue k) : PayOk p ∧ p.Sub ∈ ids d.Account.Subs := by
  obtain ⟨i, x, hx, rfl, _⟩ := wait_item h.ok ((readyQ_sub d.Queue k).subset hp)
  have io := h.ok.io (List.mem_of_getElem? hx)
  exact ⟨io.pay, io.sub.2⟩
theorem goD_all (h : GenD n d day) (hn : n ≤ 30) (hk : day ≤ k ∧ k ≤ 36000) : GoR k d.Account.Credit (readyQ d.Queue k) d.Account [] false (goD d k) := by
  have hl := h.waiting
  have := (readyQ_sub d.Queue k).length_le
  have hlen := h.len
  have hla := h.lastA
  exact sendGo_all k hk.2 d.Account (gen_no0 h) (readyQ d.Queue k) d.Account [] false (Sent.refl h.ok.a) (fun p hp => ready_item h hp) (by omega) (by omega)
theorem filter_sub : ∀ {ps l : List TPayment}, ps.Sublist l → (l.map (·.Warrant)).Nodup → l.filter (takenB (ps.map (·.Warrant))) = ps := by
  intro ps l hs
  induction hs with
  | slnil => intro _; rfl
  | @cons l1 l2 a hs ih =>
    intro hn
    rw [List.map_cons, List.nodup_cons] at hn
    rw [List.filter_cons, if_neg, ih hn.2]
    intro e
    rw [takenB, decide_eq_true_eq] at e
    exact hn.1 ((hs.map _).subset e)
  | @cons_cons l1 l2 a hs ih =>
    intro hn
    rw [List.map_cons, List.nodup_cons] at hn
    rw [List.filter_cons, if_pos (by simp [takenB])]
    congr 1
    conv => rhs; rw [← ih hn.2]
    refine List.filter_congr fun x hx => ?_
    have : x.Warrant ≠ a.Warrant := fun e => hn.1 (List.mem_map.2 ⟨x, hx, e⟩)
    simp [takenB, this]
theorem sumW_fold : ∀ (l : List TPayment) (s : Int), 0 ≤ s → (∀ p, p ∈ l → 0 ≤ p.Amount) → s + (l.map (·.Amount)).sum ≤ 1000000000000000 → l.foldl (fun s p => IntKind.i64.wrap (s + p.Amount)) s = s + (l.map (·.Amount)).sum
  | [], s, _, _, _ => by simp
  | p :: l, s, hs, h, hb => by
    have h1 := h p (by simp)
    have h2 : 0 ≤ (l.map (·.Amount)).sum := by
      have : ∀ l : List TPayment, (∀ p, p ∈ l → 0 ≤ p.Amount) → 0 ≤ (l.map (·.Amount)).sum := by
        intro l
        induction l with
        | nil => intro _; simp
        | cons q l ih =>
          intro h
          rw [List.map_cons, List.sum_cons]
          have := ih fun y hy => h y (by simp [hy])
          have := h q (by simp)
          omega
      exact this l fun q hq => h q (by simp [hq])
    rw [List.map_cons, List.sum_cons] at hb ⊢
    rw [List.foldl_cons, wrap_in (s + p.Amount) (by omega), sumW_fold l _ (by omega) (fun q hq => h q (by simp [hq])) (by omega)]
    omega
theorem sum_small : ∀ l : List TPayment, (∀ p, p ∈ l → p.Amount ≤ 100) → (l.map (·.Amount)).sum ≤ 100 * (l.length : Int)
  | [], _ => by simp
  | p :: l, h => by
    have h1 := h p (by simp)
    have h2 := sum_small l fun q hq => h q (by simp [hq])
    rw [List.map_cons, List.sum_cons, List.length_cons]
    omega
theorem sum_io : ∀ (es : List TEntry) (ps : List TPayment), es.map keyE = ps.map keyP → (∀ p, p ∈ ps → 1 ≤ p.Sub) → sumE ioE es = -(ps.map (·.Amount)).sum
  | [], [], _, _ => rfl
  | [], _ :: _, h, _ => by simp at h
  | _ :: _, [], h, _ => by simp at h
  | e :: es, p :: ps, h, hs => by
    simp only [List.map_cons, List.cons.injEq] at h
    obtain ⟨h1, h2⟩ := h
    simp only [keyE, keyP, Prod.mk.injEq] at h1
    have h3 := hs p (by simp)
    rw [sumE_cons, sum_io es ps h2 fun q hq => hs q (by simp [hq]), List.map_cons, List.sum_cons]
    have : ioE e = -p.Amount := by
      unfold ioE
      rw [if_neg (by omega), if_pos h1.2.2.1, h1.2.2.2]
      omega
    omega
theorem io_bound : ∀ es : List TEntry, (∀ e, e ∈ es → 0 < e.Amount ∧ e.Amount ≤ 500) → -(500 * (es.length : Int)) ≤ sumE ioE es ∧ sumE ioE es ≤ 500 * (es.length : Int)
  | [], _ => by simp [sumE]
  | e :: es, h => by
    have h1 := io_bound es fun x hx => h x (List.mem_cons_of_mem _ hx)
    have h2 := h e (by simp)
    have h3 : -500 ≤ ioE e ∧ ioE e ≤ 500 := by
      unfold ioE
      split <;> split <;> omega
    rw [sumE_cons, List.length_cons]
    omega
theorem total_bound (h : GenD n d day) (hn : n ≤ 30) : -1000000 ≤ totalA d.Account ∧ totalA d.Account ≤ 1000000 := by
  rw [total_sum h.ok.a]
  have := io_bound d.Account.Entries fun e he => ⟨(check_mem h.ok.a e he).1, h.small e he⟩
  have := h.len
  omega
theorem send_some (h : GenD n d day) (hn : n ≤ 30) (hk : day ≤ k ∧ k ≤ 36000) {x : TDesk} {b : TBatch} (hx : sendD d k = (x, b, 0)) : (1 ≤ b.Payments.length ∧ b.Payments.length ≤ 10) ∧ totalA x.Account = totalA d.Account - sumW b.Payments ∧ (0 ≤ sumW b.Payments ∧ sumW b.Payments ≤ 1000) ∧ ∀ p, p ∈ readyQ x.Queue k → b.Payments.length < 10 → (balanceA x.Account p.Sub).1 + limC x.Account.Credit p.Sub < p.Amount := by
  have g := goD_all h hn hk
  obtain ⟨a1, a2, a3, a4, ps, a, c1, c2, c3, c4, c5, c6, c7, rfl, c9⟩ := sendD_ok hx
  have hsub := c1.trans (readyQ_sub d.Queue k)
  have hb : b.Payments = ps := by rw [c7]; exact filter_sub hsub h.ok.q.asc.nd
  obtain ⟨es, e1, e2, e3⟩ := c6.ents
  have hps : ∀ p, p ∈ ps → (1 ≤ p.Amount ∧ p.Amount ≤ 100) ∧ 1 ≤ p.Sub := fun p hp => by
    obtain ⟨i, y, hy, rfl, _⟩ := wait_item h.ok (hsub.subset hp)
    have hm := List.mem_of_getElem? hy
    have io := h.ok.io hm
    exact ⟨⟨io.pay.amount.1, (h.pays y hm).2⟩, io.pay.sub.1⟩
  have hss := sum_small ps fun p hp => (hps p hp).1.2
  have hsw : sumW ps = (ps.map (·.Amount)).sum := by rw [sumW, sumW_fold ps 0 (by omega) (fun p hp => by have := (hps p hp).1.1; omega) (by omega), Int.zero_add]
  have hs0 : 0 ≤ (ps.map (·.Amount)).sum := by
    have : ∀ l : List TPayment, (∀ p, p ∈ l → 0 ≤ p.Amount) → 0 ≤ (l.map (·.Amount)).sum := by
      intro l
      induction l with
      | nil => intro _; simp
      | cons q l ih =>
        intro h
        rw [List.map_cons, List.sum_cons]
        have := ih fun y hy => h y (by simp [hy])
        have := h q (by simp)
        omega
    exact this ps fun p hp => by have := (hps p hp).1.1; omega
  rw [hb]
  refine ⟨⟨c2, c3⟩, ?_, by rw [hsw]; omega, fun p hp h10 => ?_⟩
  · have hsi := sum_io es ps e2 fun p hp => (hps p hp).2
    dsimp only
    rw [total_sum c6.ok, total_sum h.ok.a, e1, sumE_app, hsi, hsw]
    omega
  · rw [readyQ, if_pos (checkQ_iff.2 c9.q)] at hp
    obtain ⟨p1, p2⟩ := List.mem_filter.1 hp
    dsimp only at p1
    obtain ⟨p1, p3⟩ := List.mem_filter.1 p1
    have hr : p ∈ readyQ d.Queue k := by
      rw [readyQ, if_pos (checkQ_iff.2 h.ok.q)]
      exact List.mem_filter.2 ⟨p1, p2⟩
    have hsi := (ready_item h hr).2
    dsimp only
    rw [bal_net c6.ok (by rw [c6.ids]; exact hsi), c6.cred]
    rcases g.left (by rw [c4, List.length_map]; exact h10) p hr with hw | hw
    · rw [c4] at hw
      simp only [takenB, hw, decide_true, Bool.not_true] at p3
      cases p3
    · rw [c5] at hw
      exact hw
end
open Go.PA
open Go.RowKit
theorem imm_posL (l : List Pos) : Imm (posL l) := by simp [go_sem, posL, Pos.cells]
theorem Pos.ext' {p q : Pos} (h1 : p.d = q.d) (h2 : p.a = q.a) : p = q := by
  cases p; cases q; simp_all
theorem positions_pf (a b : List Pos) (ha : a.length ≤ 100000) (hb : b.length ≤ 100000) :
    PFun Tryz.prog none none 29 [posL a, posL b] (fun x => ∃ t, x = bv t ∧ (t = true ↔ a = b)) := by
  refine pfun_intro Tryz.func29 rfl (by simp [Tryz.f29]) (by kernel_rfl) ?_
  intro E hP hr hs hW hN
  simp [go_sem, hP, posL]
  refine condP (fun h => ?_) (fun h => ?_)
  rotate_left
  · simp [go_sem, hP, Tryz.f29]
    intro e
    subst e
    simp at h
  have hlen : a.length = b.length := by simp at h; omega
  simp [go_sem, hP]
  refine aloop0 (fun m s => ∃ k, k ≤ a.length ∧ m = a.length - k ∧ s.t 0 = posL a ∧ s.t 1 = posL b ∧ s.t 12 = iv a.length ∧ s.t 13 = iv k ∧ a.take k = b.take k) a.length (by rw [hN]; rfl) ?_ ?_
  · exact ⟨0, by simp, by simp, by simp [go_sem, posL], by simp [go_sem, posL], by simp [go_sem], by simp [go_sem], by simp⟩
  rintro m s ⟨k, hk, rfl, t0, t1, t12, t13, heq⟩
  simp [go_sem, hP, t12, t13]
  refine condP (fun h => ?_) (fun h => ?_)
  · have hka : k < a.length := by simpa using h
    have hkb : k < b.length := by omega
    have w1 : IntKind.i64.wrap (↑k + 1) = ((k + 1 : Nat) : Int) := by rw [wrap_in _ (by omega)]; rfl
    simp [go_sem, hP, t13]
    refine adrawB (fun _ => true) [] hP (by kernel_rfl) rfl ?_
    simp [go_sem, hP, t0, t1, hka, hkb, posL, Pos.cells]
    refine condP (fun h => ?_) (fun h => ?_)
    · simp [go_sem, hP, Tryz.f29]
      intro h'
      subst h'
      simp at h
    · simp at h
      obtain ⟨e1, e2⟩ := h
      simp [go_sem, hP, t13, w1]
      refine ⟨a.length - (k + 1), by omega, k + 1, by omega, rfl, by rw [t0]; rfl, by rw [t1]; rfl, t12, by omega, ?_⟩
      rw [List.take_succ_eq_append_getElem hka, List.take_succ_eq_append_getElem hkb, heq, Pos.ext' e1 e2]
  · have hk' : k = a.length := by simp at h; omega
    subst hk'
    simp [go_sem, hP, Tryz.f29]
    rw [List.take_length] at heq
    rw [heq, hlen, List.take_length]
theorem low1_pf (p q : Pos) : PFun Tryz.prog none none 69 [.agg p.cells, .agg q.cells] (· = iv (cmpI p.a q.a)) := by
  refine pfun_intro Tryz.func69 rfl (by simp [Tryz.f69]) (by kernel_rfl) ?_
  intro E hP hr hs hW hN
  simp [go_sem, hP, Pos.cells]
  refine callB_pure (compare_pf p.a q.a) hP en_70 (args_same (by simp [go_sem])) .sc ?_
  simp [go_sem, hP, Tryz.f69]
def minP : Pos → List Pos → Pos
  | p, [] => p
  | p, q :: l => minP (if q.a < p.a then q else p) l
theorem cmpI_lt29 (a b : Int) : cmpI a b < 0 ↔ a < b := by unfold cmpI; split <;> (try split) <;> simp <;> omega
theorem minP_app : ∀ (p : Pos) (l : List Pos) (q : Pos), minP p (l ++ [q]) = if q.a < (minP p l).a then q else minP p l
  | _, [], _ => rfl
  | p, r :: l, q => minP_app (if r.a < p.a then r else p) l q
theorem min_pf (p : Pos) (l : List Pos) (hl : l.length ≤ 100000) : PFun Tryz.prog none none 68 [posL (p :: l), .fn 69 []] (· = .agg (minP p l).cells) := by
  refine pfun_intro Tryz.func68 rfl (by simp [Tryz.f68]) (by kernel_rfl) ?_
  intro E hP hr hs hW hN
  simp [go_sem, hP, posL, Pos.cells]
  refine condP (fun h => absurd h (by simp; omega)) (fun _ => ?_)
  simp [go_sem, hP, Pos.cells]
  refine aloop0 (fun m s => ∃ k, k ≤ l.length ∧ m = l.length - k ∧ s.t 0 = posL (p :: l) ∧ s.t 1 = .fn 69 [] ∧ s.t 4 = .ref 0 0 0 ∧ s.t 5 = .ref 1 0 0 ∧ s.t 6 = iv (k + 1) ∧ ∃ z, s.H = [some ⟨59, 2, [z]⟩, some ⟨59, 2, [(minP p (l.take k)).cells]⟩] ∧ z.length = 2) l.length (by rw [hN]; rfl) ?_ ?_
  · exact ⟨0, by simp, by simp, by simp [go_sem, posL, Pos.cells], by simp [go_sem], by simp [go_sem], by simp [go_sem], by simp [go_sem], [iv 0, iv 0], by simp [minP, Pos.cells, go_sem, hP], rfl⟩
  rintro m s ⟨k, hk, rfl, t0, t1, t4, t5, t6, z, hH, hz⟩
  simp [go_sem, hP, t0, t6, posL]
  refine condP (fun h => ?_) (fun h => ?_)
  · have hk' : k < l.length := by simp at h; omega
    have w1 : IntKind.i64.wrap (↑k + 1 + 1) = (k : Int) + 1 + 1 := wrap_in _ (by omega)
    have e1 : ((k : Int) + 1).toNat = k + 1 := by omega
    have e2 : 0 ≤ (k : Int) + 1 := by omega
    have tk : l.take (k + 1) = l.take k ++ [l[k]] := List.take_succ_eq_append_getElem hk'
    refine adrawB (fun _ => true) [] hP (by kernel_rfl) rfl ?_
    simp [go_sem, hP, t0, t1, t5, t6, posL, hH, e1, e2, hk', Pos.cells]
    refine callB_pure (low1_pf l[k] (minP p (l.take k))) hP en_69 (args_same (by simp [go_sem, Pos.cells])) .sc ?_
    simp [go_sem, hP]
    refine ⟨fun i _ => by rw [hH]; rfl, ?_⟩
    refine condP (fun h => ?_) (fun h => ?_)
    · have h : l[k].a < (minP p (l.take k)).a := by simpa [cmpI_lt29] using h
      simp [go_sem, hP, t0, t1, t5, t6, posL, e1, e2, hk', Pos.cells, w1]
      refine ⟨l.length - (k + 1), by omega, k + 1, by omega, rfl, t4, by omega, z, ⟨rfl, ?_⟩, hz⟩
      rw [tk, minP_app, if_pos h]
      exact ⟨rfl, rfl⟩
    · have h : ¬ l[k].a < (minP p (l.take k)).a := by
        intro h'
        have := (cmpI_lt29 _ _).2 h'
        simp at h
        omega
      simp [go_sem, hP, t6, w1]
      refine ⟨l.length - (k + 1), by omega, k + 1, by omega, rfl, by rw [t0]; rfl, t1, t4, t5, by omega, z, ⟨rfl, ?_⟩, hz⟩
      rw [tk, minP_app, if_neg h]
      exact ⟨rfl, rfl⟩
  · have hk' : k = l.length := by simp at h; omega
    subst hk'
    rw [List.take_length] at hH
    simp [go_sem, hP, t4, t5, hH, Pos.cells, hz, Tryz.f68]
    exact done_imm (by simp [go_sem]) (by simp [Pos.cells])
def lowest : List Pos → Pos × Bool
  | [] => (⟨0, 0⟩, false)
  | p :: l => (minP p l, true)
theorem lowest_pf (l : List Pos) (hl : l.length ≤ 100000) : PFun Tryz.prog none none 27 [posL l] (· = .tup [.agg (lowest l).1.cells, bv (lowest l).2]) := by
  refine pfun_intro Tryz.func27 rfl (by simp [Tryz.f27]) (by kernel_rfl) ?_
  intro E hP hr hs hW hN
  simp [go_sem, hP, posL]
  cases l with
  | nil =>
    simp [go_sem, hP, Tryz.f27]
    exact done_imm (by simp [go_sem]) (by simp [lowest, Pos.cells])
  | cons p l =>
    refine condP (fun h => absurd h (by simp)) (fun _ => ?_)
    simp [go_sem, hP]
    refine callB_is ((min_pf p l (by simp at hl; omega)).lift _ _) hP en_68 (by simp [go_sem, Pos.cells]) (by simp [go_sem, Pos.cells]) ?_
    simp [go_sem, hP, Tryz.f27, Pos.cells]
    exact done_imm (by simp [go_sem]) (by simp [lowest, Pos.cells])
open Go.PA
open Go.RowKit
theorem sane_project : project 10 [⟨2, -4, 5, 0⟩] 1 3 = ([⟨1, 10⟩, ⟨2, 6⟩, ⟨3, 6⟩], 0) := by
  simp [project, checkI, validB, dayB, totalB, amongB29, run, delta]
theorem sane_pf : PFun Tryz.prog none none 11 [] (· = bv true) := by
  refine pfun_intro Tryz.func11 rfl (by simp [Tryz.f11]) (by kernel_rfl) ?_
  intro E hP hr hs hW hN
  simp [go_sem, hP]
  have h1 := project_pf 10 [⟨2, -4, 5, 0⟩] 1 3 (by simp)
  rw [sane_project] at h1
  refine callB_is (h1.lift _ _) hP en_25 (by simp [go_sem]) (by simp [go_sem, posL, Pos.cells]) ?_
  simp [go_sem, hP]
  refine callB_is ((lowest_pf [⟨1, 10⟩, ⟨2, 6⟩, ⟨3, 6⟩] (by simp)).lift _ _) hP en_27 (by simp [go_sem, posL, Pos.cells]) (by simp [go_sem, Pos.cells]) ?_
  simp [go_sem, hP, lowest, minP, Pos.cells]
  refine callB_flat ((positions_pf [⟨1, 10⟩, ⟨2, 6⟩, ⟨3, 6⟩] [⟨1, 10⟩, ⟨2, 6⟩, ⟨3, 6⟩] (by simp) (by simp)).lift _ _) hP en_29 (args_same (by simp [go_sem, posL, Pos.cells])) ⟨bv true, true, rfl, by simp⟩ (by rintro r ⟨t, rfl, _⟩; exact .sc) ?_
  rintro r ⟨t, rfl, ht⟩
  have ht : t = true := ht.2 rfl
  subst ht
  simp [go_sem, hP, Tryz.f11]
open Go.PA
open Go.RowKit
def lastA : Int → List Pos → Int
  | o, [] => o
  | _, p :: l => lastA p.a l
theorem delta_cons (f : Flow) (fs : List Flow) (d : Int) : delta (f :: fs) d = (if f.d = d then f.a else 0) + delta fs d := by
  rw [show f :: fs = [f] ++ fs from rfl, delta_app, delta_one]
theorem rins_perm {α : Type} (lt : α → α → Bool) (x : α) : ∀ l : List α, (rins lt x l).Perm (x :: l)
  | [] => .refl _
  | y :: ys => by
    simp only [rins]
    split
    · exact ((rins_perm lt x ys).cons y).trans (.swap x y ys)
    · exact .refl _
theorem rsort_perm {α : Type} (lt : α → α → Bool) : ∀ l acc : List α, (l.foldl (fun acc x => rins lt x acc) acc).Perm (l ++ acc)
  | [], acc => .refl _
  | x :: l, acc => by
    rw [List.foldl_cons]
    refine (rsort_perm lt l _).trans ?_
    refine ((rins_perm lt x acc).append_left l).trans ?_
    exact List.perm_middle
theorem isort_perm {α : Type} (lt : α → α → Bool) (l : List α) : (isort lt l).Perm l := by
  refine (List.reverse_perm _).trans ?_
  have := rsort_perm lt l []
  rwa [List.append_nil] at this
theorem checkI_perm {xs ys : List Flow} (h : xs.Perm ys) : checkI xs = checkI ys := by
  unfold checkI
  rw [h.length_eq]
  have : (xs.any fun f => !validB f) = ys.any fun f => !validB f := by
    rw [Bool.eq_iff_iff, List.any_eq_true, List.any_eq_true]
    exact ⟨fun ⟨f, hf, hv⟩ => ⟨f, h.mem_iff.1 hf, hv⟩, fun ⟨f, hf, hv⟩ => ⟨f, h.mem_iff.2 hf, hv⟩⟩
  rw [this]
def Desc {α : Type} (lt : α → α → Bool) : List α → Prop
  | [] => True
  | [_] => True
  | x :: y :: l => lt x y = false ∧ Desc lt (y :: l)
theorem rins_desc {α : Type} (lt : α → α → Bool) (has : ∀ a b, lt a b = true → lt b a = false) (x : α) : ∀ l : List α, Desc lt l → Desc lt (rins lt x l)
  | [], _ => trivial
  | [y], _ => by
    simp only [rins]
    split
    · rename_i h; exact ⟨has _ _ h, trivial⟩
    · rename_i h; exact ⟨by simpa using h, trivial⟩
  | y :: z :: l, h => by
    have ih := rins_desc lt has x (z :: l) h.2
    simp only [rins]
    split
    · rename_i hxy
      simp only [rins] at ih
      split
      · rename_i hxz
        rw [if_pos hxz] at ih
        exact ⟨h.1, ih⟩
      · rename_i hxz
        rw [if_neg hxz] at ih
        exact ⟨has _ _ hxy, ih⟩
    · rename_i hxy; exact ⟨by simpa using hxy, h⟩
theorem rsort_desc {α : Type} (lt : α → α → Bool) (has : ∀ a b, lt a b = true → lt b a = false) : ∀ l acc : List α, Desc lt acc → Desc lt (l.foldl (fun acc x => rins lt x acc) acc)
  | [], acc, h => h
  | x :: l, acc, h => rsort_desc lt has l _ (rins_desc lt has x acc h)
theorem Desc.get {α : Type} {lt : α → α → Bool} : ∀ {l : List α}, Desc lt l → ∀ i (h : i + 1 < l.length), lt (l[i]'(by omega)) (l[i + 1]) = false
  | [], _, i, h => by simp at h
  | [_], _, i, h => by simp at h
  | x :: y :: l, hd, 0, _ => hd.1
  | x :: y :: l, hd, i + 1, h => Desc.get hd.2 i (by simpa using h)
theorem isort_sorted {α : Type} (lt : α → α → Bool) (has : ∀ a b, lt a b = true → lt b a = false) (l : List α) (i : Nat) (h : i + 1 < (isort lt l).length) : lt ((isort lt l)[i + 1]) ((isort lt l)[i]'(by omega)) = false := by
  have hd := rsort_desc lt has l [] trivial
  have hl : (isort lt l).length = (rsort lt l).length := by simp [isort]
  have := Desc.get (l := rsort lt l) hd ((rsort lt l).length - 1 - (i + 1)) (by omega)
  simp only [isort, List.getElem_reverse]
  have e : (rsort lt l).length - 1 - (i + 1) + 1 = (rsort lt l).length - 1 - i := by omega
  simp only [e] at this
  exact this
theorem bef_asymm (a b : Flow) (h : befB29 a b = true) : befB29 b a = false := by
  unfold befB29 at *
  simp at *
  omega
def payFl (now : Int) (p : TPayment) : Flow := ⟨busI (max p.Due now), -p.Amount, 1, p.Warrant⟩
def payF (d : TDesk) (now : Int) : List Flow := isort befB29 (d.Queue.Waiting.map (payFl now))
theorem payF_len (d : TDesk) (now : Int) : (payF d now).length = d.Queue.Waiting.length := by rw [payF, isort_len, List.length_map]
theorem payF_mem {d : TDesk} {now : Int} {f : Flow} (h : f ∈ payF d now) : ∃ p, p ∈ d.Queue.Waiting ∧ f = payFl now p := by
  have := (isort_perm befB29 _).mem_iff.1 h
  obtain ⟨p, hp, e⟩ := List.mem_map.1 this
  exact ⟨p, hp, e.symm⟩
def upL (fs : List Flow) (lo i : Int) : Int := ((fs.filter fun f => decide (lo ≤ f.d ∧ f.d ≤ i)).map (·.a)).sum
theorem upL_nil (lo i : Int) : upL [] lo i = 0 := rfl
theorem upL_cons (f : Flow) (fs : List Flow) (lo i : Int) : upL (f :: fs) lo i = (if lo ≤ f.d ∧ f.d ≤ i then f.a else 0) + upL fs lo i := by
  unfold upL
  by_cases h : lo ≤ f.d ∧ f.d ≤ i
  · rw [List.filter_cons_of_pos (by simpa using h), if_pos h]; simp
  · rw [List.filter_cons_of_neg (by simpa using h), if_neg h]; simp
theorem upL_low (lo : Int) : ∀ fs : List Flow, upL fs lo (lo - 1) = 0
  | [] => rfl
  | f :: fs => by rw [upL_cons, upL_low lo fs, if_neg (by omega)]; rfl
theorem upL_step (lo i : Int) (h : lo ≤ i) : ∀ fs : List Flow, upL fs lo i = upL fs lo (i - 1) + delta fs i
  | [] => rfl
  | f :: fs => by
    rw [upL_cons, upL_cons, delta_cons, upL_step lo i h fs]
    split <;> split <;> (try split) <;> omega
theorem upL_perm {xs ys : List Flow} (h : xs.Perm ys) (lo i : Int) : upL xs lo i = upL ys lo i := by
  induction h with
  | nil => rfl
  | cons x _ ih => rw [upL_cons, upL_cons, ih]
  | swap x y l => simp only [upL_cons]; omega
  | trans _ _ h1 h2 => rw [h1, h2]
theorem upL_small (lo i : Int) : ∀ fs : List Flow, (∀ f, f ∈ fs → -100 ≤ f.a ∧ f.a ≤ 100) → -100 * (fs.length : Int) ≤ upL fs lo i ∧ upL fs lo i ≤ 100 * (fs.length : Int)
  | [], _ => by simp [upL_nil]
  | f :: fs, h => by
    have h1 := upL_small lo i fs fun g hg => h g (List.mem_cons_of_mem _ hg)
    have h2 := h f (List.mem_cons_self ..)
    rw [upL_cons, List.length_cons]
    split <;> omega
theorem run_closedL (fs : List Flow) (o lo : Int) (hb : ∀ i, totalB (o + upL fs lo i) = true) : ∀ n i : Nat, run fs lo i n (o + upL fs lo (lo + (i : Int) - 1)) = some ((List.range' i n).map fun j : Nat => (⟨lo + (j : Int), o + upL fs lo (lo + (j : Int))⟩ : Pos))
  | 0, i => rfl
  | n + 1, i => by
    have e : o + upL fs lo (lo + (i : Int) - 1) + delta fs (lo + (i : Int)) = o + upL fs lo (lo + (i : Int)) := by
      have := upL_step lo (lo + (i : Int)) (by omega) fs
      omega
    have e2 : o + upL fs lo (lo + (i : Int)) = o + upL fs lo (lo + ((i + 1 : Nat) : Int) - 1) := by rw [show lo + ((i + 1 : Nat) : Int) - 1 = lo + (i : Int) by omega]
    rw [run, e, if_pos (hb _), e2, run_closedL fs o lo hb n (i + 1), List.range'_succ]
    simp
    rw [show lo + ((i : Int) + 1) - 1 = lo + (i : Int) by omega]
theorem project_closedL (fs : List Flow) (o lo : Int) (m : Nat) (hc : checkI fs = 0) (ho : totalB o = true) (hl : 0 ≤ lo) (hm : m ≤ 900) (hh : lo + (m : Int) ≤ 36000) (hb : ∀ i, totalB (o + upL fs lo i) = true) :
    project o fs lo (lo + (m : Int)) = ((List.range (m + 1)).map fun j : Nat => (⟨lo + (j : Int), o + upL fs lo (lo + (j : Int))⟩ : Pos), 0) := by
  have h := run_closedL fs o lo hb (m + 1) 0
  have e : o + upL fs lo (lo + ((0 : Nat) : Int) - 1) = o := by
    have := upL_low lo fs
    simp at this ⊢
    omega
  rw [e] at h
  unfold project
  rw [if_neg (by simp [hc]), if_neg (by simp [ho, dayB, amongB29]; omega), if_neg (by omega), show (lo + (m : Int) - lo + 1).toNat = m + 1 from by omega, h]
  simp [List.range_eq_range']
theorem upL_split (now lo i : Int) (t : TPayment → Bool) : ∀ l : List TPayment, upL (l.map (payFl now)) lo i = upL ((l.filter t).map (payFl now)) lo i + upL ((l.filter fun p => !t p).map (payFl now)) lo i
  | [] => rfl
  | p :: l => by
    rw [List.map_cons, upL_cons, upL_split now lo i t l]
    cases h : t p
    · rw [List.filter_cons_of_neg (by simp [h]), List.filter_cons_of_pos (by simp [h]), List.map_cons, upL_cons]
      omega
    · rw [List.filter_cons_of_pos h, List.filter_cons_of_neg (by simp [h]), List.map_cons, upL_cons]
      omega
theorem upL_paid {k : Int} (hk : busI k = k) (i : Int) (hi : k ≤ i) : ∀ l : List TPayment, (∀ p, p ∈ l → p.Due ≤ k) → upL (l.map (payFl k)) k i = -(l.map (·.Amount)).sum
  | [], _ => rfl
  | p :: l, h => by
    have ih := upL_paid hk i hi l fun q hq => h q (List.mem_cons_of_mem _ hq)
    have hp := h p (List.mem_cons_self ..)
    have e : (payFl k p).d = k := by
      show busI (max p.Due k) = k
      rw [show max p.Due k = k by omega, hk]
    have ea : (payFl k p).a = -p.Amount := rfl
    rw [List.map_cons, upL_cons, ih, List.map_cons, List.sum_cons, e, ea, if_pos ⟨by omega, hi⟩]
    omega
theorem busI_bus {k : Int} (h : busB k = true) : busI k = k := by
  unfold busB at h
  simp only [Bool.and_eq_true, decide_eq_true_eq] at h
  unfold busI
  rw [if_neg (by omega), if_neg (by omega)]
theorem busI_mod (d : Int) : busI d % 7 ≤ 4 := by
  unfold busI
  split
  · omega
  · split <;> omega
structure FewP (d : TDesk) : Prop where
  len : d.Queue.Waiting.length ≤ 12
  ok : ∀ p, p ∈ d.Queue.Waiting → PayOk p ∧ p.Amount ≤ 100
theorem GenD.few {n : Nat} {d : TDesk} {day : Int} (h : GenD n d day) : FewP d := ⟨h.waiting, fun p hp => by
  obtain ⟨i, x, hx, rfl, _⟩ := wait_item h.ok hp
  have hm := List.mem_of_getElem? hx
  exact ⟨(h.ok.io hm).pay, (h.pays x hm).2⟩⟩
theorem payF_small {d : TDesk} (h : FewP d) (now : Int) : ∀ f, f ∈ payF d now → -100 ≤ f.a ∧ f.a ≤ 100 := fun f hf => by
  obtain ⟨p, hp, rfl⟩ := payF_mem hf
  have := h.ok p hp
  have := this.1.amount
  show -100 ≤ -p.Amount ∧ -p.Amount ≤ 100
  omega
theorem payF_check {d : TDesk} (h : FewP d) {now : Int} (hn : 0 ≤ now ∧ now ≤ 35990) : checkI (payF d now) = 0 := by
  have hl := h.len
  unfold checkI
  rw [if_neg (by rw [payF_len]; omega), if_neg]
  intro e
  obtain ⟨f, hf, hv⟩ := List.any_eq_true.1 e
  obtain ⟨p, hp, rfl⟩ := payF_mem hf
  obtain ⟨po, pa⟩ := h.ok p hp
  have h1 := po.amount
  have h2 := po.due
  have h3 := po.warrant
  have h4 := busI_ge (max p.Due now)
  have hv' : validB ⟨busI (max p.Due now), -p.Amount, 1, p.Warrant⟩ = true := by
    simp only [validB, dayB, amongB29, Bool.and_eq_true, decide_eq_true_eq, Bool.not_eq_true', decide_eq_false_iff_not]
    omega
  have : validB (payFl now p) = true := hv'
  rw [this] at hv
  cases hv
theorem payF_closed {d : TDesk} (h : FewP d) {now : Int} (hn : 0 ≤ now ∧ now ≤ 30000) {o : Int} (ho : -2000000 ≤ o ∧ o ≤ 2000000) (m : Nat) (hm : m ≤ 900) :
    project o (mergeA (payF d now)).1 now (now + (m : Int)) = ((List.range (m + 1)).map fun j : Nat => (⟨now + (j : Int), o + upL (payF d now) now (now + (j : Int))⟩ : Pos), 0) := by
  have hc := payF_check h (now := now) (by omega)
  have hp := isort_perm befB29 (payF d now)
  have hb : ∀ i, -1200 ≤ upL (isort befB29 (payF d now)) now i ∧ upL (isort befB29 (payF d now)) now i ≤ 1200 := fun i => by
    have := upL_small now i (isort befB29 (payF d now)) fun f hf => payF_small h now f (hp.mem_iff.1 hf)
    rw [isort_len, payF_len] at this
    have := h.len
    omega
  have tb : ∀ z : Int, -3000000 ≤ z → z ≤ 3000000 → totalB z = true := fun z h1 h2 => by
    simp only [totalB, amongB29, Bool.and_eq_true, decide_eq_true_eq]
    omega
  rw [mergeA, if_pos hc]
  dsimp only
  rw [project_closedL _ o now m (by rw [checkI_perm hp]; exact hc) (tb _ (by omega) (by omega)) hn.1 hm (by omega) fun i => tb _ (by have := hb i; omega) (by have := hb i; omega)]
  congr 1
  apply List.map_congr_left
  intro j _
  rw [upL_perm hp]
theorem paid_same {n : Nat} {d x : TDesk} {day k : Int} {b : TBatch} (h : GenD n d day) (hn : n ≤ 30) (hk : day ≤ k ∧ k ≤ 36000) (hx : sendD d k = (x, b, 0)) :
    FewP x ∧ DOk x ∧ (totalA x.Account + upL (payF x k) k (k + 60) = totalA d.Account + upL (payF d k) k (k + 60)) ∧ -1001000 ≤ totalA x.Account ∧ totalA x.Account ≤ 1000000 := by
  obtain ⟨s1, s2, s3, _⟩ := send_some h hn hk hx
  obtain ⟨a1, a2, a3, a4, ps, a, c1, c2, c3, c4, c5, c6, c7, e, c9⟩ := sendD_ok hx
  have hsub := c1.trans (readyQ_sub d.Queue k)
  have hf := filter_sub hsub h.ok.q.asc.nd
  have hb : b.Payments = ps := by rw [c7]; exact hf
  have few := h.few
  have tb := total_bound h hn
  have hw : x.Queue.Waiting = d.Queue.Waiting.filter (fun p => !takenB (ps.map (·.Warrant)) p) := by rw [e]
  have fx : FewP x := ⟨by rw [hw]; exact Nat.le_trans (List.length_filter_le _ _) few.len, fun p hp => by
    rw [hw] at hp
    exact few.ok p (List.mem_filter.1 hp).1⟩
  have hps : ∀ p, p ∈ ps → (1 ≤ p.Amount ∧ p.Amount ≤ 100) := fun p hp => by
    have := few.ok p (hsub.subset hp)
    exact ⟨this.1.amount.1, this.2⟩
  have hss := sum_small ps fun p hp => (hps p hp).2
  have hsw : sumW ps = (ps.map (·.Amount)).sum := by rw [sumW, sumW_fold ps 0 (by omega) (fun p hp => by have := (hps p hp).1; omega) (by omega), Int.zero_add]
  have due : ∀ p, p ∈ ps → p.Due ≤ k := fun p hp => by
    have := c1.subset hp
    rw [readyQ, if_pos (checkQ_iff.2 h.ok.q)] at this
    simpa using (List.mem_filter.1 this).2
  have key : upL (payF d k) k (k + 60) = upL (payF x k) k (k + 60) - sumW ps := by
    rw [payF, payF, upL_perm (isort_perm befB29 _), upL_perm (isort_perm befB29 _), upL_split k k (k + 60) (takenB (ps.map (·.Warrant))), hw]
    have e1 : d.Queue.Waiting.filter (takenB (ps.map (·.Warrant))) = ps := hf
    rw [e1, upL_paid (busI_bus a2) (k + 60) (by omega) ps due, hsw]
    omega
  rw [hb] at s2 s3
  exact ⟨fx, c9, by omega, by omega, by omega⟩
open Go.PA
open Go.RowKit
theorem busI_first {n d : Int} (h1 : n ≤ d) (h2 : d ≤ busI n) (h0 : 0 ≤ n) (hn : n ≤ 35990) : busB d = decide (d = busI n) := by
  have hb := busI_ge n
  have e : amg d 0 36000 = true := amg_iff.2 (by omega)
  unfold busB
  rw [e, Bool.true_and, decide_eq_decide]
  unfold busI at *
  split at * <;> (try split at *) <;> omega
theorem cnext_pf (n : Int) (h : 0 ≤ n ∧ n ≤ 35990) : PFun Tryz.prog none none 93 [iv n] (· = .tup [iv (busI n), iv 0]) := by
  refine pfun_intro Tryz.func93 rfl (by simp [Tryz.f93]) (by kernel_rfl) ?_
  intro E hP hr hs hW hN
  simp -dsimp -implicitDefEqProofs [-getElem?_pos, go_sem, hP]
  have bi := busI_ge n
  obtain ⟨I, hI⟩ : ∃ I : Nat → St → Prop, I = fun m s => ∃ d : Int, n ≤ d ∧ d ≤ busI n ∧ m = (busI n - d).toNat ∧ s.t 0 = iv d := ⟨_, rfl⟩
  refine aloop0 I ((busI n - n).toNat) (by rw [hN]; rfl) ?_ ?_
  · rw [hI]
    exact ⟨n, by omega, by omega, rfl, by simp -dsimp -implicitDefEqProofs [-getElem?_pos, go_sem]⟩
  intro m s hs'
  rw [hI] at hs'
  obtain ⟨d, h1, h2, hm, t0⟩ := hs'
  have va : amg d 0 36000 = true := amg_iff.2 (by omega)
  have bf := busI_first h1 h2 h.1 h.2
  have w1 := wrap_in (d + 1) (by omega)
  simp -dsimp -implicitDefEqProofs [-getElem?_pos, go_sem, hP, t0]
  refine callB_pure (cvalid_pf d) hP en_66 (args_same (by simp [imm_sc])) .sc ?_
  simp -dsimp -implicitDefEqProofs [-getElem?_pos, go_sem, hP, t0, va]
  refine callB_pure (cbusiness_pf d) hP en_155 (args_same (by simp [imm_sc])) .sc ?_
  by_cases e : d = busI n
  · subst e
    have bf : busB (busI n) = true := by simpa using bf
    simp -dsimp -implicitDefEqProofs [-getElem?_pos, go_sem, hP, t0, bf]
    exact done_imm (imm_pair .sc .sc) rfl
  · rw [decide_eq_false e] at bf
    simp -dsimp -implicitDefEqProofs [-getElem?_pos, go_sem, hP, t0, bf, w1]
    refine ⟨(busI n - (d + 1)).toNat, by omega, ?_⟩
    rw [hI]
    exact ⟨d + 1, by omega, by omega, rfl, by simp -dsimp -implicitDefEqProofs [-getElem?_pos, go_sem]⟩
theorem due_pf (d now : Int) (h1 : 0 ≤ d ∧ d ≤ 35990) (h2 : 0 ≤ now ∧ now ≤ 35990) : PFun Tryz.prog none none 43 [iv d, iv now] (· = .tup [iv (busI (max d now)), bv true]) := by
  refine pfun_intro Tryz.func43 rfl (by simp [Tryz.f43]) (by kernel_rfl) ?_
  intro E hP hr hs hW hN
  have m1 : amax [iv d, iv now] = some (iv (max d now)) := by simp [amax, amaxFrom]
  simp -dsimp -implicitDefEqProofs [-getElem?_pos, go_sem, hP, m1]
  refine callB_is ((cnext_pf (max d now) (by omega)).lift _ _) hP en_93 (by simp [imm_sc]) (imm_pair .sc .sc) ?_
  simp -dsimp -implicitDefEqProofs [-getElem?_pos, go_sem, hP]
  exact done_imm (imm_pair .sc .sc) rfl
theorem takeAt29 {α : Type} {l : List α} {k : Nat} {y : α} (h : l[k]? = some y) : l.take (k + 1) = l.take k ++ [y] := by rw [List.take_add_one, h]; rfl
set_option maxHeartbeats 1000000 in
theorem payments_pf (d : TDesk) (now : Int) (hd : DOk d) (hf : FewP d) (hn : 0 ≤ now ∧ now ≤ 35990) : PFun Tryz.prog none none 7 [.agg d.cells, iv now] (· = flowsL (payF d now)) := by
  refine pfun_intro Tryz.func7 rfl (by simp [Tryz.f7]) (by kernel_rfl) ?_
  intro E hP hr hs hW hN
  have ck := dcheck_pf d hd.fit
  rw [checkD_iff.2 hd] at ck
  have id' := imm_desk d
  rw [cDn] at ck id'
  have am : amongB29 now 0 35990 = true := by simp only [amongB29, Bool.and_eq_true, decide_eq_true_eq]; omega
  have hl := hf.len
  obtain ⟨W, hW'⟩ : ∃ W, W = d.Queue.Waiting := ⟨_, rfl⟩
  have hok := hf.ok
  rw [← hW'] at hl hok
  simp -dsimp -implicitDefEqProofs [-getElem?_pos, go_sem, hP, cDn]
  refine callB_pure ck hP en_41 (args_same (by simpa using id')) .sc ?_
  simp -dsimp -implicitDefEqProofs [-getElem?_pos, go_sem, hP]
  refine callB_pure (among_pf29 now 0 35990) hP en_42 (args_same (by simp [imm_sc])) .sc ?_
  simp -dsimp -implicitDefEqProofs [-getElem?_pos, go_sem, hP, am, ← hW']
  obtain ⟨G, hG⟩ : ∃ G, G = W.map (payFl now) := ⟨_, rfl⟩
  have lG : G.length = W.length := by rw [hG, List.length_map]
  refine aloop_own 5 42 4 (by simp -dsimp -implicitDefEqProofs [-getElem?_pos, go_sem]) ?_
  obtain ⟨I, hI⟩ : ∃ I : Nat → St → Prop, I = fun m s => ∃ (k id : Nat), k ≤ W.length ∧ m = W.length - k ∧ s.t 1 = iv now ∧ s.t 20 = paysL W ∧ s.t 21 = iv W.length ∧ s.t 22 = iv k ∧ s.t 5 = .sref id 0 k ∧ s.H[id]? = some (some ⟨42, 4, encL Flow.cells (G.take k)⟩) := ⟨_, rfl⟩
  refine aloop0 I (W.length) (by rw [hN]; rfl) ?_ ?_
  · rw [hI]
    exact ⟨0, 1, by omega, by omega, by simp -dsimp -implicitDefEqProofs [-getElem?_pos, go_sem], by simp -dsimp -implicitDefEqProofs [-getElem?_pos, go_sem], by simp -dsimp -implicitDefEqProofs [-getElem?_pos, go_sem, encL_len], by simp -dsimp -implicitDefEqProofs [-getElem?_pos, go_sem], by simp -dsimp -implicitDefEqProofs [-getElem?_pos, go_sem], by simp -dsimp -implicitDefEqProofs [-getElem?_pos, go_sem, encL]⟩
  intro m s hs'
  rw [hI] at hs'
  obtain ⟨k, id, hk, hm, t1, t20, t21, t22, t5, hH⟩ := hs'
  have lt := (List.getElem?_eq_some_iff.1 hH).1
  simp -dsimp -implicitDefEqProofs [-getElem?_pos, go_sem, hP, t21, t22]
  refine condP (fun h => ?_) (fun h => ?_)
  · have hk : k < W.length := by simpa using h
    obtain ⟨p, hp⟩ : ∃ p, W[k]? = some p := ⟨_, List.getElem?_eq_getElem hk⟩
    obtain ⟨po, pa⟩ := hok p (List.mem_of_getElem? hp)
    have a1 := po.amount
    have wk := wrap_in ((k : Int) + 1) (by omega)
    have wn := wrap_in (-p.Amount) (by omega)
    have gp : G[k]? = some (payFl now p) := by rw [hG, List.getElem?_map, hp]; rfl
    have app : encL Flow.cells (G.take k) ++ [[iv (busI (max p.Due now)), iv (-p.Amount), iv 1, iv p.Warrant]] = encL Flow.cells (G.take (k + 1)) := by
      rw [takeAt29 gp]
      exact encL_snoc Flow.cells _ (payFl now p)
    have ln : (encL Flow.cells (G.take k)).length = k := by rw [encL_len, List.length_take]; omega
    simp -dsimp -implicitDefEqProofs [-getElem?_pos, go_sem, hP, t1, t20, t22, hp, cPy]
    refine callB_is ((due_pf p.Due now po.due hn).lift _ _) hP en_43 (by simp [imm_sc]) (imm_pair .sc .sc) ?_
    simp -dsimp -implicitDefEqProofs [-getElem?_pos, go_sem, hP, t5, t22, hH, lt, ln, wn, wk, app]
    refine ⟨by omega, by omega, W.length - (k + 1), by omega, ?_⟩
    rw [hI]
    exact ⟨k + 1, s.H.length + 1, by omega, rfl, by simp -dsimp -implicitDefEqProofs [-getElem?_pos, go_sem, t1], by simp -dsimp -implicitDefEqProofs [-getElem?_pos, go_sem, t20], by simp -dsimp -implicitDefEqProofs [-getElem?_pos, go_sem, t21], by simp -dsimp -implicitDefEqProofs [-getElem?_pos, go_sem], by simp -dsimp -implicitDefEqProofs [-getElem?_pos, go_sem], by simp -dsimp -implicitDefEqProofs [-getElem?_pos, go_sem]⟩
  · have hk : k = W.length := by
      have : ¬ k < W.length := by simpa using h
      omega
    subst hk
    rw [← lG, List.take_length] at hH
    simp -dsimp -implicitDefEqProofs [-getElem?_pos, go_sem, hP, t5]
    refine callB_m (order_m G s.H id _ lG.symm (by omega) hH) hP en_44 ?_
    rintro r H' ⟨rfl, rfl⟩
    simp -dsimp -implicitDefEqProofs [-getElem?_pos, go_sem, hP]
    have e5 := encL_take Flow.cells (isort befB29 G) W.length (by rw [isort_len, lG])
    refine done (x := flowsL (isort befB29 G)) ?_ (by rw [payF, ← hW', ← hG]) ?_
    · simp -dsimp -implicitDefEqProofs [-getElem?_pos, go_sem, lt, e5, flowObj]
      exact imm_list.1 (imm_encL Flow.cells (k := 4) imm_flow _)
    · simp -dsimp -implicitDefEqProofs [-getElem?_pos, go_sem, lt, e5, flowObj]
      rfl
theorem owed0_pf (now : Int) (hn : 0 ≤ now ∧ now ≤ 35990) : PFun Tryz.prog none none 35 [.agg [.nil, .nil, .nil, .nil], iv now] (· = flowsL []) := by
  refine pfun_intro Tryz.func35 rfl (by simp [Tryz.f35]) (by kernel_rfl) ?_
  intro E hP hr hs hW hN
  have am : amongB29 now 0 35990 = true := by simp only [amongB29, Bool.and_eq_true, decide_eq_true_eq]; omega
  simp -dsimp -implicitDefEqProofs [-getElem?_pos, go_sem, hP]
  refine callB_pure rcheck0_pf hP en_54 (args_same (by simp [go_sem])) .sc ?_
  simp -dsimp -implicitDefEqProofs [-getElem?_pos, go_sem, hP]
  refine callB_pure (among_pf29 now 0 35990) hP en_42 (args_same (by simp [imm_sc])) .sc ?_
  simp -dsimp -implicitDefEqProofs [-getElem?_pos, go_sem, hP, am]
  refine aloop0 (fun _ s' => s' = _) 0 (by rw [hN]; rfl) rfl ?_
  rintro _ _ rfl
  simp -dsimp -implicitDefEqProofs [-getElem?_pos, go_sem, hP]
  refine callB_is (order0_pf.lift _ _) hP en_44 (by simp [go_sem]) (imm_flowsL _) ?_
  simp -dsimp -implicitDefEqProofs [-getElem?_pos, go_sem, hP]
  exact done_imm (imm_flowsL []) rfl
set_option maxHeartbeats 1000000 in
theorem whole_pf (d : TDesk) (now : Int) (m : Nat) (hd : DOk d) (hf : FewP d) (hn : 0 ≤ now ∧ now ≤ 30000) (hm : m ≤ 900) :
    PFun Tryz.prog none none 12 [.agg d.cells, .agg [.nil, .nil, .nil, .nil], .nil, iv now, iv (now + (m : Int))] (· = .tup [posL (project (totalA d.Account) (mergeA (payF d now)).1 now (now + (m : Int))).1, iv (project (totalA d.Account) (mergeA (payF d now)).1 now (now + (m : Int))).2]) := by
  refine pfun_intro Tryz.func12 rfl (by simp [Tryz.f12]) (by kernel_rfl) ?_
  intro E hP hr hs hW hN
  have fit := hd.fit
  have ck := dcheck_pf d fit
  rw [checkD_iff.2 hd] at ck
  have pm := payments_pf d now hd hf (by omega)
  have tt := total_pf d.Account fit.s fit.e
  have id' := imm_desk d
  have ia := imm_acc d.Account
  rw [cDn] at ck id' pm
  rw [cA] at tt ia
  have a1 : amongB29 now 0 35990 = true := by simp only [amongB29, Bool.and_eq_true, decide_eq_true_eq]; omega
  have a2 : amongB29 (now + (m : Int)) now 36000 = true := by simp only [amongB29, Bool.and_eq_true, decide_eq_true_eq]; omega
  have ln : (payF d now).length < 20 := by rw [payF_len]; have := hf.len; omega
  have mg := merge_pf [payF d now, [], []] (payF d now) (by simp) (by simp) ln
  have pj := project_pf (totalA d.Account) (mergeA (payF d now)).1 now (now + (m : Int)) (by
    unfold mergeA
    split
    · rw [isort_len]; omega
    · simp)
  obtain ⟨F, hF⟩ : ∃ F, F = payF d now := ⟨_, rfl⟩
  rw [← hF] at pm mg pj ⊢
  have mz : (mergeA F).2 = 0 := by rw [hF, mergeA, if_pos (payF_check hf (by omega))]
  obtain ⟨M, hM⟩ : ∃ M, M = (mergeA F).1 := ⟨_, rfl⟩
  rw [← hM, mz] at mg
  rw [← hM] at pj ⊢
  obtain ⟨R, hR⟩ : ∃ R, R = project (totalA d.Account) M now (now + (m : Int)) := ⟨_, rfl⟩
  rw [← hR] at pj ⊢
  have iF := imm_flowsL F
  have iM := imm_flowsL M
  have i0 := imm_flowsL []
  have mg' : PFun Tryz.prog none none 19 [.list 1 [[flowsL F], [flowsL []], [flowsL []]]] (· = .tup [flowsL M, iv 0]) := mg
  have im3 : Imm (AV.list 1 [[flowsL F], [flowsL []], [flowsL []]]) := by
    rw [imm_list]
    simp
    exact ⟨iF, i0⟩
  simp only [flowsL] at mg' im3
  simp -dsimp -implicitDefEqProofs [-getElem?_pos, go_sem, hP, cDn]
  refine adrawB (fun _ => true) [] hP (by kernel_rfl) (by kernel_rfl) ?_
  simp -dsimp -implicitDefEqProofs [-getElem?_pos, go_sem, hP]
  refine callB_pure ck hP en_41 (args_same (by simpa using id')) .sc ?_
  simp -dsimp -implicitDefEqProofs [-getElem?_pos, go_sem, hP]
  refine callB_pure rcheck0_pf hP en_54 (args_same (by simp [go_sem])) .sc ?_
  simp -dsimp -implicitDefEqProofs [-getElem?_pos, go_sem, hP]
  refine callB_pure tcheck0_pf hP en_55 (args_same (by simp [go_sem])) .sc ?_
  simp -dsimp -implicitDefEqProofs [-getElem?_pos, go_sem, hP]
  refine callB_pure (or3_pf [0, 0, 0] (by simp)) hP en_53 (args_same (by simp [go_sem])) .sc ?_
  simp -dsimp -implicitDefEqProofs [-getElem?_pos, go_sem, hP, orI]
  refine callB_pure (among_pf29 now 0 35990) hP en_42 (args_same (by simp [imm_sc])) .sc ?_
  simp -dsimp -implicitDefEqProofs [-getElem?_pos, go_sem, hP, a1]
  refine callB_pure (among_pf29 (now + (m : Int)) now 36000) hP en_42 (args_same (by simp [imm_sc])) .sc ?_
  simp -dsimp -implicitDefEqProofs [-getElem?_pos, go_sem, hP, a2]
  refine callB_is ((texp0_pf now (now + (m : Int))).lift _ _) hP en_56 (by simp [go_sem]) (imm_pair i0 .sc) ?_
  simp -dsimp -implicitDefEqProofs [-getElem?_pos, go_sem, hP]
  refine adrawB (fun _ => true) [] hP (by kernel_rfl) (by kernel_rfl) ?_
  simp -dsimp -implicitDefEqProofs [-getElem?_pos, go_sem, hP]
  refine callB_is (pm.lift _ _) hP en_7 (by simpa [imm_sc] using id') iF ?_
  simp -dsimp -implicitDefEqProofs [-getElem?_pos, go_sem, hP]
  refine callB_is ((owed0_pf now (by omega)).lift _ _) hP en_35 (by simp [go_sem]) i0 ?_
  simp -dsimp -implicitDefEqProofs [-getElem?_pos, go_sem, hP, flowsL]
  refine callB_is (mg'.lift _ _) hP en_19 (by simp only [List.mem_singleton]; rintro a rfl; exact im3) (imm_pair iM .sc) ?_
  simp -dsimp -implicitDefEqProofs [-getElem?_pos, go_sem, hP]
  refine callB_pure tt hP en_57 (args_same (by simpa using ia)) .sc ?_
  simp -dsimp -implicitDefEqProofs [-getElem?_pos, go_sem, hP]
  refine callB_is (pj.lift _ _) hP en_25 (by simp only [List.mem_cons, List.not_mem_nil, or_false]; rintro a (rfl | rfl | rfl | rfl) <;> first | exact .sc | exact iM) (imm_pair (imm_posL _) .sc) ?_
  simp -dsimp -implicitDefEqProofs [-getElem?_pos, go_sem, hP]
  exact done_imm (imm_pair (imm_posL _) .sc) rfl
open Go.PA
open Go.RowKit
theorem ordered_pf (l : List Flow) (hl : l.length ≤ 100000) (ho : ∀ i f g, l[i]? = some g → l[i + 1]? = some f → befB29 f g = false) :
    PFun Tryz.prog none none 8 [flowsL l] (· = bv true) := by
  refine pfun_intro Tryz.func8 rfl (by simp [Tryz.f8]) (by kernel_rfl) ?_
  intro E hP hr hs hW hN
  simp -dsimp -implicitDefEqProofs [-getElem?_pos, go_sem, hP, flowsL]
  obtain ⟨I, hI⟩ : ∃ I : Nat → St → Prop, I = fun m s => ∃ k : Nat, k ≤ l.length ∧ m = l.length - k ∧ s.t 0 = flowsL l ∧ s.t 6 = flowsL l ∧ s.t 7 = iv l.length ∧ s.t 8 = iv k := ⟨_, rfl⟩
  refine aloop0 I l.length (by rw [hN]; rfl) ?_ ?_
  · rw [hI]
    exact ⟨0, by omega, by omega, by simp -dsimp -implicitDefEqProofs [-getElem?_pos, go_sem, flowsL], by simp -dsimp -implicitDefEqProofs [-getElem?_pos, go_sem, flowsL], by simp -dsimp -implicitDefEqProofs [-getElem?_pos, go_sem], by simp -dsimp -implicitDefEqProofs [-getElem?_pos, go_sem]⟩
  intro m s hs'
  rw [hI] at hs'
  obtain ⟨k, hk, hm, t0, t6, t7, t8⟩ := hs'
  simp -dsimp -implicitDefEqProofs [-getElem?_pos, go_sem, hP, t7, t8]
  refine condP (fun h => ?_) (fun h => ?_)
  rotate_left
  · simp -dsimp -implicitDefEqProofs [-getElem?_pos, go_sem, hP]
  have hk : k < l.length := by simpa using h
  obtain ⟨f, hf⟩ : ∃ f, l[k]? = some f := ⟨_, List.getElem?_eq_getElem hk⟩
  have wk := wrap_in ((k : Int) + 1) (by omega)
  simp -dsimp -implicitDefEqProofs [-getElem?_pos, go_sem, hP, t6, t8, flowsL, hk, hf, Flow.cells]
  rcases Nat.eq_zero_or_pos k with rfl | hpos
  · have w1 := wrap_in 1 (by omega)
    simp -dsimp -implicitDefEqProofs [-getElem?_pos, go_sem, hP, t8, w1]
    refine ⟨l.length - 1, by omega, ?_⟩
    rw [hI]
    exact ⟨1, by omega, rfl, by simp -dsimp -implicitDefEqProofs [-getElem?_pos, go_sem, t0], by simp -dsimp -implicitDefEqProofs [-getElem?_pos, go_sem, t6], by simp -dsimp -implicitDefEqProofs [-getElem?_pos, go_sem, t7], by simp -dsimp -implicitDefEqProofs [-getElem?_pos, go_sem, w1]⟩
  · obtain ⟨j, rfl⟩ : ∃ j, k = j + 1 := ⟨k - 1, by omega⟩
    obtain ⟨g, hg⟩ : ∃ g, l[j]? = some g := ⟨_, List.getElem?_eq_getElem (by omega)⟩
    have hb : befB29 f g = false := ho j f g hg hf
    have hne : decide (((j : Int) + 1) = 0) = false := by simp; omega
    have wj := wrap_in ((j : Int) + 1 - 1) (by omega)
    rw [Int.add_sub_cancel] at wj
    have n1 : decide (f.d < g.d) = false := by grind [befB29]
    have fin : ∀ s' : St, s'.t 0 = s.t 0 → s'.t 6 = s.t 6 → s'.t 7 = s.t 7 → s'.t 8 = iv ((j : Int) + 1 + 1) → ∃ n', n' < m ∧ I n' s' := fun s' e0 e6 e7 e8 => by
      refine ⟨l.length - (j + 1 + 1), by omega, ?_⟩
      rw [hI]
      exact ⟨j + 1 + 1, by omega, rfl, by rw [e0, t0], by rw [e6, t6], by rw [e7, t7], by rw [e8]; simp⟩
    have wk' := wrap_in ((j : Int) + 1 + 1) (by omega)
    by_cases h2 : g.d = f.d
    · have n3 : decide (f.k < g.k) = false := by grind [befB29]
      by_cases h4 : g.k = f.k
      · have n5 : decide (f.n < g.n) = false := by grind [befB29]
        simp -dsimp -implicitDefEqProofs [-getElem?_pos, go_sem, hP, t0, t8, flowsL, hne, Int.add_sub_cancel, wj, hg, Flow.cells, n1, h2, n3, h4, n5, wk']
        exact fin _ (by simp -dsimp -implicitDefEqProofs [-getElem?_pos, go_sem]) (by simp -dsimp -implicitDefEqProofs [-getElem?_pos, go_sem]) (by simp -dsimp -implicitDefEqProofs [-getElem?_pos, go_sem]) (by simp -dsimp -implicitDefEqProofs [-getElem?_pos, go_sem])
      · simp -dsimp -implicitDefEqProofs [-getElem?_pos, go_sem, hP, t0, t8, flowsL, hne, Int.add_sub_cancel, wj, hg, Flow.cells, n1, h2, n3, h4, wk']
        exact fin _ (by simp -dsimp -implicitDefEqProofs [-getElem?_pos, go_sem]) (by simp -dsimp -implicitDefEqProofs [-getElem?_pos, go_sem]) (by simp -dsimp -implicitDefEqProofs [-getElem?_pos, go_sem]) (by simp -dsimp -implicitDefEqProofs [-getElem?_pos, go_sem])
    · simp -dsimp -implicitDefEqProofs [-getElem?_pos, go_sem, hP, t0, t8, flowsL, hne, Int.add_sub_cancel, wj, hg, Flow.cells, n1, h2, wk']
      exact fin _ (by simp -dsimp -implicitDefEqProofs [-getElem?_pos, go_sem]) (by simp -dsimp -implicitDefEqProofs [-getElem?_pos, go_sem]) (by simp -dsimp -implicitDefEqProofs [-getElem?_pos, go_sem]) (by simp -dsimp -implicitDefEqProofs [-getElem?_pos, go_sem])
theorem sorted_get (l : List Flow) : ∀ i f g, (isort befB29 l)[i]? = some g → (isort befB29 l)[i + 1]? = some f → befB29 f g = false := fun i f g hg hf => by
  obtain ⟨h1, rfl⟩ := List.getElem?_eq_some_iff.1 hg
  obtain ⟨h2, rfl⟩ := List.getElem?_eq_some_iff.1 hf
  exact isort_sorted befB29 bef_asymm l i h2
open Go.PA
open Go.RowKit
def deskP29 (d : TDesk) : AObj := ⟨35, 7, [[iv d.Account.Credit, subsL d.Account.Subs, entsL d.Account.Entries, paysL d.Queue.Waiting, numsL d.Queue.Known, batsL d.Queue.Batches, itemsL d.Items]]⟩
theorem whole_end (d : TDesk) (k : Int) (hd : DOk d) (hf : FewP d) (hk : 0 ≤ k ∧ k ≤ 30000) (ho : -2000000 ≤ totalA d.Account ∧ totalA d.Account ≤ 2000000) :
    ∃ A : List Pos, A.length = 61 ∧ A[60]? = some ⟨k + 60, totalA d.Account + upL (payF d k) k (k + 60)⟩ ∧ PFun Tryz.prog none none 12 [.agg d.cells, .agg [.nil, .nil, .nil, .nil], .nil, iv k, iv (k + 60)] (· = .tup [posL A, iv 0]) := by
  have h := whole_pf d k 60 hd hf hk (by omega)
  have e := payF_closed hf hk ho 60 (by omega)
  obtain ⟨A, hA⟩ : ∃ A : List Pos, A = (List.range (60 + 1)).map fun j : Nat => (⟨k + (j : Int), totalA d.Account + upL (payF d k) k (k + (j : Int))⟩ : Pos) := ⟨_, rfl⟩
  rw [← hA] at e
  rw [e] at h
  exact ⟨A, by rw [hA, List.length_map, List.length_range], by rw [hA, List.getElem?_map, List.getElem?_range (by omega)]; rfl, h⟩
set_option maxHeartbeats 4000000 in
set_option maxRecDepth 8000 in
theorem paid29_pf (xs : List Int) (hx : Small xs) (hl : xs.length ≤ 9223372036854775807) : PFun Tryz.prog none none 3 [intsL xs] (· = bv true) := by
  refine pfun_introA Tryz.func3 rfl (by simp [Tryz.f3]) ?_
  intro E hP hr hs hW hN
  refine awp_cut (by rw [hN]; kernel_rfl) ?_
  simp [go_sem, hP]
  refine awp_cut (by rw [hN]; kernel_rfl) ?_
  simp [go_sem, hP]
  have hnew : POwn Tryz.prog E.row E.src 5 [intsL xs] 89 2 (· = [[intsL (xs.take 900), iv 0]]) := by rw [hr, hs]; exact new_pf xs hl
  refine callB_own hnew hP en_5 (args_same (by simp [go_sem, intsL])) (by simp [srefs_imm, go_sem, intsL]) ⟨_, rfl⟩ ?_
  rintro es rfl
  simp [go_sem, hP]
  refine awp_adopt 3 (ty := 89) (xs := xs.take 900) (at_ := 0) hr hs hW (by simp [go_sem]) (by simp [go_sem, intsL]) (by omega) (by simp; omega) (fun x hx' => hx x (List.mem_of_mem_take hx')) (by rw [hN]; kernel_rfl) ?_
  intro E' p hP' hr' hN' hW'
  rw [hP] at hP'
  rw [hN] at hN'
  clear hnew hP hr hs hW hN E
  rename Env => E
  rename E.P = _ => hP
  rename E.row = _ => hr
  rename E.N = _ => hN
  rename (∀ b, ¬ E.W b) => hW
  obtain ⟨src, hs⟩ : ∃ src, E.src = src := ⟨_, rfl⟩
  have up : ∀ {f : FuncId} {args : List AV} {Q : AV → Prop}, PFun Tryz.prog (some p) src f args Q → PFun Tryz.prog E.row E.src f args Q := fun h => hr ▸ hs ▸ h
  have saneB : ∀ {H : Heap} {C : AV → Heap → Prop} {b : Bx C}, C (bv true) H → CallB E 11 [] H C b := fun h => callB_pure sane_pf hP en_11 (args_nil.2 trivial) .sc h
  simp -dsimp -implicitDefEqProofs [-getElem?_pos, go_sem, hP]
  refine callB_isQ (up (desk_pf p src 10 (by omega))) hP en_6 (by simp [go_sem]) (DeskQ_ex 10) ?_
  rintro r ⟨d, day, rfl, hg⟩ _
  have few := hg.few
  have hday := hg.day
  have fit := hg.ok.fit
  have id' := imm_desk d
  rw [cDn] at id'
  have pm := payments_pf d day hg.ok few (by omega)
  rw [cDn] at pm
  obtain ⟨F, hF⟩ : ∃ F, F = payF d day := ⟨_, rfl⟩
  have lF : F.length = d.Queue.Waiting.length := by rw [hF, payF_len]
  have l12 := few.len
  have od := ordered_pf F (by omega) (by rw [hF]; exact sorted_get _)
  have hFm : ∀ f, f ∈ F → f.d % 7 ≤ 4 ∧ day ≤ f.d ∧ f.d ≤ 36000 ∧ f.a < 0 := fun f hf => by
    rw [hF] at hf
    obtain ⟨p, hp, rfl⟩ := payF_mem hf
    have hpo := (few.ok p hp).1
    have h1 := hpo.amount
    have h2 := hpo.due
    have h3 := busI_ge (max p.Due day)
    exact ⟨busI_mod _, by show day ≤ busI _; omega, by show busI _ ≤ 36000; omega, by show -p.Amount < 0; omega⟩
  rw [← hF] at pm
  have iF := imm_flowsL F
  simp -dsimp -implicitDefEqProofs [-getElem?_pos, go_sem, hP, cDn]
  refine callB_is (pm.lift _ _) hP en_7 (by simpa [imm_sc] using id') iF ?_
  simp -dsimp -implicitDefEqProofs [-getElem?_pos, go_sem, hP, encL_len, lF, flowsL]
  refine callB_is (od.lift _ _) hP en_8 (by simp only [List.mem_singleton]; rintro a rfl; exact iF) .sc ?_
  simp -dsimp -implicitDefEqProofs [-getElem?_pos, go_sem, hP, lF]
  obtain ⟨O, hO⟩ : ∃ O, O = deskP29 d := ⟨_, rfl⟩
  obtain ⟨I, hI⟩ : ∃ I : Nat → St → Prop, I = fun m s => ∃ k : Nat, k ≤ F.length ∧ m = F.length - k ∧ s.t 3 = sp p ∧ s.t 4 = .ref 1 0 0 ∧ s.t 5 = iv day ∧ s.t 39 = flowsL F ∧ s.t 40 = iv F.length ∧ s.t 41 = iv k ∧ s.H[1]? = some (some O) := ⟨_, rfl⟩
  refine aloop0 I (F.length) (by rw [hN]; rfl) ?_ ?_
  · rw [hI]
    exact ⟨0, by omega, by omega, by simp -dsimp -implicitDefEqProofs [-getElem?_pos, go_sem], by simp -dsimp -implicitDefEqProofs [-getElem?_pos, go_sem], by simp -dsimp -implicitDefEqProofs [-getElem?_pos, go_sem], by simp -dsimp -implicitDefEqProofs [-getElem?_pos, go_sem, flowsL], by simp -dsimp -implicitDefEqProofs [-getElem?_pos, go_sem, lF], by simp -dsimp -implicitDefEqProofs [-getElem?_pos, go_sem], by simp -dsimp -implicitDefEqProofs [-getElem?_pos, go_sem, hO, deskP29]⟩
  intro m s hs'
  rw [hI] at hs'
  obtain ⟨k, hk, hm, t3, t4, t5, t39, t40, t41, h1⟩ := hs'
  have lt1 := (List.getElem?_eq_some_iff.1 h1).1
  simp -dsimp -implicitDefEqProofs [-getElem?_pos, go_sem, hP, t40, t41]
  refine condP (fun h => ?_) (fun h => ?_)
  · have hk : k < F.length := by simpa using h
    obtain ⟨f, hf⟩ : ∃ f, F[k]? = some f := ⟨_, List.getElem?_eq_getElem hk⟩
    obtain ⟨b1, b2, b3, b4⟩ := hFm f (List.mem_of_getElem? hf)
    have wk := wrap_in ((k : Int) + 1) (by omega)
    have e : f.d.tmod 7 = f.d % 7 := Int.tmod_eq_emod_of_nonneg (by omega)
    have w7 := wrap_in (f.d % 7) (by omega)
    have n1 : decide ((4 : Int) < f.d % 7) = false := decide_eq_false (by omega)
    have n2 : decide (f.d < day) = false := decide_eq_false (by omega)
    have n3 : decide (0 ≤ f.a) = false := decide_eq_false (by omega)
    simp -dsimp -implicitDefEqProofs [-getElem?_pos, go_sem, hP, t39, t41, flowsL, hf, Flow.cells, e, w7, n1, n2, n3, t5, wk]
    refine ⟨F.length - (k + 1), by omega, ?_⟩
    rw [hI]
    exact ⟨k + 1, by omega, rfl, by simp -dsimp -implicitDefEqProofs [-getElem?_pos, go_sem, t3], by simp -dsimp -implicitDefEqProofs [-getElem?_pos, go_sem, t4], by simp -dsimp -implicitDefEqProofs [-getElem?_pos, go_sem, t5], by simp -dsimp -implicitDefEqProofs [-getElem?_pos, go_sem, t39, flowsL], by simp -dsimp -implicitDefEqProofs [-getElem?_pos, go_sem, t40], by simp -dsimp -implicitDefEqProofs [-getElem?_pos, go_sem], by simp -dsimp -implicitDefEqProofs [-getElem?_pos, go_sem, lt1, h1]⟩
  clear hI h t39 t40 t41
  have hb := busI_ge day
  have bp := business_pf day (by omega)
  have bok : busB (busI day) = true := busI_ok (by omega)
  obtain ⟨K, hK⟩ : ∃ K, K = busI day := ⟨_, rfl⟩
  rw [← hK] at bp hb bok
  have wK := wrap_in (K + 60) (by omega)
  have sd := send26_pf d K fit
  obtain ⟨⟨x, b, er⟩, hxb⟩ : ∃ r, r = sendD d K := ⟨_, rfl⟩
  rw [← hxb] at sd
  simp only at sd
  rw [cDn, cDn, cBt] at sd
  have ix := imm_desk x
  have ib := imm_bat b
  rw [cDn] at ix
  rw [cBt] at ib
  simp -dsimp -implicitDefEqProofs [-getElem?_pos, go_sem, hP, t5]
  refine callB_pure bp hP en_9 (args_same (by simp [imm_sc])) .sc ?_
  simp -dsimp -implicitDefEqProofs [-getElem?_pos, go_sem, hP, t4, h1, lt1, hO, deskP29]
  refine callB_is (sd.lift _ _) hP en_10 (by simpa [imm_sc] using id') (imm_trip ix ib .sc) ?_
  by_cases e0 : er = 0
  rotate_left
  · simp -dsimp -implicitDefEqProofs [-getElem?_pos, go_sem, hP, e0]
    refine saneB ?_
    simp -dsimp -implicitDefEqProofs [-getElem?_pos, go_sem, hP]
  subst e0
  have tb := total_bound hg (by omega)
  obtain ⟨fx, dx, sm, x1, x2⟩ := paid_same hg (by omega) (by omega) hxb.symm
  obtain ⟨A, lA, gA, wA⟩ := whole_end d K hg.ok few (by omega) (by omega)
  obtain ⟨B, lB, gB, wB⟩ := whole_end x K dx fx (by omega) (by omega)
  rw [sm] at gB
  obtain ⟨v, hv⟩ : ∃ v, v = totalA d.Account + upL (payF d K) K (K + 60) := ⟨_, rfl⟩
  rw [← hv] at gA gB
  rw [cDn] at wA wB
  have iA := imm_posL A
  have iB := imm_posL B
  have iz4 : Imm (AV.agg [.nil, .nil, .nil, .nil]) := .agg fun a ha => by
    simp only [List.mem_cons, List.not_mem_nil, or_false, or_self] at ha
    rw [ha]
    exact .nil
  have lA' : (A.map Pos.cells).length = 61 := by rw [List.length_map, lA]
  have lB' : (B.map Pos.cells).length = 61 := by rw [List.length_map, lB]
  have gA' : (A.map Pos.cells)[60]? = some [iv (K + 60), iv v] := by rw [List.getElem?_map, gA]; rfl
  have gB' : (B.map Pos.cells)[60]? = some [iv (K + 60), iv v] := by rw [List.getElem?_map, gB]; rfl
  obtain ⟨LA, hLA⟩ : ∃ L, L = A.map Pos.cells := ⟨_, rfl⟩
  obtain ⟨LB, hLB⟩ : ∃ L, L = B.map Pos.cells := ⟨_, rfl⟩
  rw [← hLA] at lA' gA'
  rw [← hLB] at lB' gB'
  simp only [posL, ← hLA] at wA iA
  simp only [posL, ← hLB] at wB iB
  simp -dsimp -implicitDefEqProofs [-getElem?_pos, go_sem, hP, t4, h1, lt1, hO, deskP29, wK]
  refine callB_is (wA.lift _ _) hP en_12 (by simp [imm_sc, imm_nil]; exact ⟨id', iz4⟩) (imm_pair iA .sc) ?_
  simp -dsimp -implicitDefEqProofs [-getElem?_pos, go_sem, hP, wK]
  refine callB_is (wB.lift _ _) hP en_12 (by simp [imm_sc, imm_nil]; exact ⟨ix, iz4⟩) (imm_pair iB .sc) ?_
  simp -dsimp -implicitDefEqProofs [-getElem?_pos, go_sem, hP]
  refine adrawB (fun _ => true) [] hP (by kernel_rfl) (by kernel_rfl) ?_
  simp -dsimp -implicitDefEqProofs [-getElem?_pos, go_sem, hP, lA', lB', gA', gB']
  refine saneB ?_
  simp -dsimp -implicitDefEqProofs [-getElem?_pos, go_sem, hP]
end Go.Proofs.YtpjecipdklcjbaaGreatDoor
