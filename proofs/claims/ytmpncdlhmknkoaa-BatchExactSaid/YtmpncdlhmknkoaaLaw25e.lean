/- BatchExact: the walk. -/
import Derived.Test.YtmpncdlhmknkoaaBatSane
set_option linter.unusedSimpArgs false
set_option linter.unusedVariables false
namespace Go.Proofs.Ytmpncdlhmknkoaa
open Go.PA
open Go.RowKit

theorem addQ_fit (q : TQueue) (p : TPayment) : FitQ (addQ q p).1 := by
  by_cases h : (addQ q p).2 = 0
  · exact (addQ_ok (x := (addQ q p).1) (by rw [← h])).2.2.2.2.2.2.fit
  · have : (addQ q p).1 = zeroQ := by
      unfold addQ at h ⊢
      repeat' split
      all_goals first | rfl | (simp_all; done)
    rw [this]; exact zeroQ_ok.fit
theorem againQ_fit (q : TQueue) (p : TPayment) : FitQ (againQ q p).1 := by
  by_cases h : (againQ q p).2 = 0
  · exact (againQ_ok (x := (againQ q p).1) (by rw [← h])).2.2.2.2.2.2.fit
  · have : (againQ q p).1 = zeroQ := by
      unfold againQ at h ⊢
      repeat' split
      all_goals first | rfl | (simp_all; done)
    rw [this]; exact zeroQ_ok.fit
theorem dropQ_fit (q : TQueue) (w : Int) : FitQ (dropQ q w).1 := by
  by_cases h : (dropQ q w).2 = 0
  · exact (dropQ_ok (x := (dropQ q w).1) (by rw [← h])).2.2.2.fit
  · have : (dropQ q w).1 = zeroQ := by
      unfold dropQ at h ⊢
      repeat' split
      all_goals first | rfl | (simp_all; done)
    rw [this]; exact zeroQ_ok.fit
theorem takeQ_fit (q : TQueue) (d : Int) (ws : List Int) : FitQ (takeQ q d ws).1 ∧ (takeQ q d ws).2.1.Payments.length ≤ 100000 := by
  by_cases h : (takeQ q d ws).2.2 = 0
  · obtain ⟨hq, _, _, _, h5, h6, _, h8, h9⟩ := takeQ_ok (x := (takeQ q d ws).1) (b := (takeQ q d ws).2.1) (by rw [← h])
    refine ⟨h9.fit, ?_⟩
    rw [h8, takeB]
    have := taken_len hq.asc.nd h6
    simp only
    omega
  · have : (takeQ q d ws).1 = zeroQ ∧ (takeQ q d ws).2.1 = zeroB := by
      unfold takeQ at h ⊢
      repeat' split
      all_goals first | exact ⟨rfl, rfl⟩ | (simp_all; done)
    rw [this.1, this.2]
    exact ⟨zeroQ_ok.fit, by simp⟩
theorem readyQ_len {q : TQueue} (hf : FitQ q) (d : Int) : (readyQ q d).length ≤ 100000 := by
  unfold readyQ
  split
  · have := List.length_filter_le (fun p : TPayment => decide (p.Due ≤ d)) q.Waiting
    have := hf.w
    omega
  · simp
theorem three25 {k : Nat} (h : k < 3) : k = 0 ∨ k = 1 ∨ k = 2 := by omega

set_option maxRecDepth 8000 in
set_option maxHeartbeats 8000000 in
theorem exact25_pf (xs : List Int) (raw : TQueue) (pr : TPayment) (l : List Int) (w day : Int) (hx : Small xs) (hl : xs.length ≤ 9223372036854775807) (hraw : raw.Batches.length ≤ 9223372036854775807) :
    PFun Try.prog none none 7 [intsL xs, .agg raw.cells, .agg pr.cells, intsL l, iv w, iv day] (· = bv true) := by
  refine pfun_introA Try.func7 rfl (by simp [Try.f7]) ?_
  intro E hP hr hs hW hN
  have irp := imm_pays raw.Waiting
  have irk := imm_ints raw.Known
  have irb := imm_bats raw.Batches
  have ir := imm_que raw
  have ipr := imm_pay pr
  have il := imm_ints l
  have sm := small25_pf raw hraw
  simp only [cQu, cPy, intsL] at irk ir ipr sm il
  have saneB : ∀ {H : Heap} {C : AV → Heap → Prop} {b : Bx C}, C (bv true) H → CallB E 14 [] H C b := fun h => callB_pure sane25_pf hP en_14 (args_nil.2 trivial) .sc h
  refine awp_cut (by rw [hN]; kernel_rfl) ?_
  simp -dsimp -implicitDefEqProofs [-getElem?_pos, go_sem, hP, cQu, cPy, intsL]
  refine AWp.weaken (weaker_iref 7 (id := 0) (cs := [paysL raw.Waiting, .list 1 (raw.Known.map fun x => [iv x]), batsL raw.Batches]) hW (by simp -dsimp -implicitDefEqProofs [-getElem?_pos, go_sem]) (by simp -dsimp -implicitDefEqProofs [-getElem?_pos, go_sem]) (by simp only [List.mem_cons, List.not_mem_nil, or_false, forall_eq_or_imp, forall_eq]; exact ⟨irp, irk, irb⟩)) ?_
  refine AWp.weaken (weaker_iref 8 (id := 1) (cs := [iv pr.Warrant, iv pr.Payee, iv pr.Amount, iv pr.Due, iv pr.Sub]) hW (by simp -dsimp -implicitDefEqProofs [-getElem?_pos, go_sem]) (by simp -dsimp -implicitDefEqProofs [-getElem?_pos, go_sem]) (by simp [imm_sc])) ?_
  refine awp_cut (by rw [hN]; kernel_rfl) ?_
  simp -dsimp -implicitDefEqProofs [-getElem?_pos, go_sem, hP]
  refine callB_is (sm.lift _ _) hP en_25 (by simpa using ir) .sc ?_
  by_cases c1 : smallQ raw = true
  rotate_left
  · have c1 : smallQ raw = false := by simpa using c1
    simp -dsimp -implicitDefEqProofs [-getElem?_pos, go_sem, hP, c1]
    refine saneB ?_
    simp -dsimp -implicitDefEqProofs [-getElem?_pos, go_sem, hP]
  rw [c1]
  by_cases c2 : 15 < l.length
  · have d2 : decide ((15 : Int) < l.length) = true := decide_eq_true (by omega)
    simp -dsimp -implicitDefEqProofs [-getElem?_pos, go_sem, hP, d2]
    refine saneB ?_
    simp -dsimp -implicitDefEqProofs [-getElem?_pos, go_sem, hP]
  have d2 : decide ((15 : Int) < l.length) = false := decide_eq_false (by omega)
  simp -dsimp -implicitDefEqProofs [-getElem?_pos, go_sem, hP, d2]
  refine awp_cut (by rw [hN]; kernel_rfl) ?_
  simp -dsimp -implicitDefEqProofs [-getElem?_pos, go_sem, hP]
  have hnew : POwn Try.prog E.row E.src 8 [intsL xs] 66 2 (· = [[intsL (xs.take 900), iv 0]]) := by rw [hr, hs]; exact new_pf xs hl
  refine callB_own hnew hP en_8 (args_same (by simp [go_sem, intsL])) (by simp [srefs_imm, go_sem, intsL]) ⟨_, rfl⟩ ?_
  rintro es rfl
  simp -dsimp -implicitDefEqProofs [-getElem?_pos, go_sem, hP]
  refine awp_adoptW 13 2 (ty := 66) (xs := xs.take 900) (at_ := 0) hr hs (by simp -dsimp -implicitDefEqProofs [-getElem?_pos, go_sem]) (by simp -dsimp -implicitDefEqProofs [-getElem?_pos, go_sem, intsL]) (by omega) (by simp; omega) (fun x hx' => hx x (List.mem_of_mem_take hx')) ?_
  intro E' p hP' hr' hN' hWx
  have hW' : ∀ b, ¬ E'.W b := fun b hb => by
    obtain ⟨id, o, ho⟩ := hWx b hb
    rcases id with _ | _ | _ | id <;> simp at ho
  rw [hP] at hP'
  rw [hN] at hN'
  clear hnew hP hr hs hW hN saneB hWx E
  rename Env => E
  rename E.P = _ => hP
  rename E.row = _ => hr
  rename E.N = _ => hN
  rename (∀ b, ¬ E.W b) => hW
  obtain ⟨src, hs⟩ : ∃ src, E.src = src := ⟨_, rfl⟩
  have up : ∀ {f : FuncId} {args : List AV} {Q : AV → Prop}, PFun Try.prog (some p) src f args Q → PFun Try.prog E.row E.src f args Q := fun h => hr ▸ hs ▸ h
  have saneB : ∀ {H : Heap} {C : AV → Heap → Prop} {b : Bx C}, C (bv true) H → CallB E 14 [] H C b := fun h => callB_pure sane25_pf hP en_14 (args_nil.2 trivial) .sc h
  refine awp_cut (by rw [hN]; kernel_rfl) ?_
  simp -dsimp -implicitDefEqProofs [-getElem?_pos, go_sem, hP]
  refine callB_isQ (up (queue_pf p src)) hP en_15 (by simp [imm_sc]) QueQ_ex ?_
  rintro r ⟨q, rfl, hgq⟩ _
  have hq := hgq.ok
  have hf := hq.fit
  have iq := imm_que q
  have iqp := imm_pays q.Waiting
  have iqk := imm_ints q.Known
  have iqb := imm_bats q.Batches
  have lw := hq.lw
  have lk := hq.lk
  have lb := hq.lb
  simp only [cQu, intsL] at iq iqk
  simp -dsimp -implicitDefEqProofs [-getElem?_pos, go_sem, hP, cQu, intsL]
  refine awp_cut (by rw [hN]; kernel_rfl) ?_
  simp -dsimp -implicitDefEqProofs [-getElem?_pos, go_sem, hP]
  obtain ⟨Inv1, hInv1⟩ : ∃ Inv1 : St → Prop, Inv1 = fun s => ∃ (o : TQueue), FitQ o ∧ s.t 3 = .list 1 (l.map fun x => [iv x]) ∧ s.t 4 = iv w ∧ s.t 5 = iv day ∧ s.t 8 = .iref [iv pr.Warrant, iv pr.Payee, iv pr.Amount, iv pr.Due, iv pr.Sub] ∧ s.t 13 = sp p ∧ s.t 7 = .iref [paysL raw.Waiting, .list 1 (raw.Known.map fun x => [iv x]), batsL raw.Batches] ∧ s.t 14 = .ref 3 0 0 ∧ s.t 15 = .ref 4 0 0 ∧ s.H[3]? = some (some ⟨28, 3, [[paysL q.Waiting, .list 1 (q.Known.map fun x => [iv x]), batsL q.Batches]]⟩) ∧ s.H[4]? = some (some ⟨28, 3, [[paysL o.Waiting, .list 1 (o.Known.map fun x => [iv x]), batsL o.Batches]]⟩) := ⟨_, rfl⟩
  refine awp_join Inv1 (by rw [hN]; kernel_rfl) ?_ ?_
  · simp -dsimp -implicitDefEqProofs [-getElem?_pos, go_sem, hP]
    refine callB_flat (up (N_pf p src 4 (by omega))) hP en_26 (args_same (by simp -dsimp -implicitDefEqProofs [-getElem?_pos, go_sem])) (NQ_ex _) (NQ_flat _) ?_
    rintro r ⟨z, rfl, _, hz⟩
    have hz := hz (by omega)
    have four : z = 0 ∨ z = 1 ∨ z = 2 ∨ (¬ z = 0 ∧ ¬ z = 1 ∧ ¬ z = 2) := by omega
    rcases four with rfl | rfl | rfl | ⟨z0, z1, z2⟩
    · simp -dsimp -implicitDefEqProofs [-getElem?_pos, go_sem, hP]
      refine ⟨by omega, by omega, ?_⟩
      refine callB_flat (up (rangeQ_pf p src 0 12 (by omega) (by omega))) hP en_27 (args_same (by simp -dsimp -implicitDefEqProofs [-getElem?_pos, go_sem])) (by obtain ⟨r, h, _⟩ := RQ_ex (show (0 : Int) ≤ 12 by omega); exact ⟨r, h⟩) (by rintro r ⟨m, rfl, _⟩; exact .sc) ?_
      rintro r ⟨a1, rfl, _⟩
      obtain ⟨K2, hK2⟩ : ∃ K2, K2 = q.Known ++ [a1] := ⟨_, rfl⟩
      have lK2 : K2.length = q.Known.length + 1 := by rw [hK2]; simp
      have en : (q.Known.map fun x => [iv x]) ++ [[iv a1]] = K2.map fun x => [iv x] := by rw [hK2]; simp
      have ik2 := imm_ints K2
      simp only [intsL] at ik2
      simp -dsimp -implicitDefEqProofs [-getElem?_pos, go_sem, hP, en]
      refine ⟨by omega, by omega, ?_⟩
      refine ⟨_, weaker_frzcell (o := 4) (id := 6) (r := 0) (c := 1) (ty := 28) (k := 3) (es := [[paysL q.Waiting, .sref 6 0 (q.Known.length + 1), batsL q.Batches]]) (e := [paysL q.Waiting, .sref 6 0 (q.Known.length + 1), batsL q.Batches]) (ty' := 3) (kk := 1) (fs := K2.map fun x => [iv x]) (n := q.Known.length + 1) hW (by simp -dsimp -implicitDefEqProofs [-getElem?_pos, go_sem]) (by omega) rfl rfl (by simp -dsimp -implicitDefEqProofs [-getElem?_pos, go_sem]) (by rw [List.length_map, lK2]) ik2 (by omega), ?_⟩
      rw [hInv1]
      exact ⟨⟨q.Waiting, K2, q.Batches⟩, ⟨by dsimp only; omega, by dsimp only; omega, by dsimp only; omega, hf.each⟩, by simp -dsimp -implicitDefEqProofs [-getElem?_pos, go_sem], by simp -dsimp -implicitDefEqProofs [-getElem?_pos, go_sem], by simp -dsimp -implicitDefEqProofs [-getElem?_pos, go_sem], by simp -dsimp -implicitDefEqProofs [-getElem?_pos, go_sem], by simp -dsimp -implicitDefEqProofs [-getElem?_pos, go_sem], by simp -dsimp -implicitDefEqProofs [-getElem?_pos, go_sem], by simp -dsimp -implicitDefEqProofs [-getElem?_pos, go_sem], by simp -dsimp -implicitDefEqProofs [-getElem?_pos, go_sem], by simp -dsimp -implicitDefEqProofs [-getElem?_pos, go_sem], by simp -dsimp -implicitDefEqProofs [-getElem?_pos, go_sem]⟩
    · simp -dsimp -implicitDefEqProofs [-getElem?_pos, go_sem, hP]
      refine ⟨by omega, by omega, ?_⟩
      refine callB_isQ (up (gpay_pf p src)) hP en_11 (by simp [imm_sc]) PayQ_ex ?_
      rintro r ⟨g, rfl, hg⟩ _
      obtain ⟨W2, hW2⟩ : ∃ W2, W2 = q.Waiting ++ [g] := ⟨_, rfl⟩
      have lW2 : W2.length = q.Waiting.length + 1 := by rw [hW2]; simp
      have en : encL TPayment.cells q.Waiting ++ [[iv g.Warrant, iv g.Payee, iv g.Amount, iv g.Due, iv g.Sub]] = encL TPayment.cells W2 := by rw [hW2]; exact encL_snoc TPayment.cells q.Waiting g
      have iw2 := imm_pays W2
      simp -dsimp -implicitDefEqProofs [-getElem?_pos, go_sem, hP, cPy, en]
      refine ⟨by omega, by omega, ?_⟩
      refine ⟨_, weaker_frzcell (o := 4) (id := 6) (r := 0) (c := 0) (ty := 28) (k := 3) (es := [[.sref 6 0 (q.Waiting.length + 1), .list 1 (q.Known.map fun x => [iv x]), batsL q.Batches]]) (e := [.sref 6 0 (q.Waiting.length + 1), .list 1 (q.Known.map fun x => [iv x]), batsL q.Batches]) (ty' := 34) (kk := 5) (fs := encL TPayment.cells W2) (n := q.Waiting.length + 1) hW (by simp -dsimp -implicitDefEqProofs [-getElem?_pos, go_sem]) (by omega) rfl rfl (by simp -dsimp -implicitDefEqProofs [-getElem?_pos, go_sem]) (by rw [encL_len, lW2]) iw2 (by omega), ?_⟩
      rw [hInv1]
      exact ⟨⟨W2, q.Known, q.Batches⟩, ⟨by dsimp only; omega, by dsimp only; omega, by dsimp only; omega, hf.each⟩, by simp -dsimp -implicitDefEqProofs [-getElem?_pos, go_sem], by simp -dsimp -implicitDefEqProofs [-getElem?_pos, go_sem], by simp -dsimp -implicitDefEqProofs [-getElem?_pos, go_sem], by simp -dsimp -implicitDefEqProofs [-getElem?_pos, go_sem], by simp -dsimp -implicitDefEqProofs [-getElem?_pos, go_sem], by simp -dsimp -implicitDefEqProofs [-getElem?_pos, go_sem], by simp -dsimp -implicitDefEqProofs [-getElem?_pos, go_sem], by simp -dsimp -implicitDefEqProofs [-getElem?_pos, go_sem], by simp -dsimp -implicitDefEqProofs [-getElem?_pos, go_sem], by simp -dsimp -implicitDefEqProofs [-getElem?_pos, go_sem]⟩
    · simp -dsimp -implicitDefEqProofs [-getElem?_pos, go_sem, hP]
      refine ⟨by omega, by omega, ?_⟩
      refine callB_flat (up (N_pf p src 4 (by omega))) hP en_26 (args_same (by simp -dsimp -implicitDefEqProofs [-getElem?_pos, go_sem])) (NQ_ex _) (NQ_flat _) ?_
      rintro r ⟨a1, rfl, _⟩
      simp -dsimp -implicitDefEqProofs [-getElem?_pos, go_sem, hP]
      refine callB_flat (up (N_pf p src 9 (by omega))) hP en_26 (args_same (by simp -dsimp -implicitDefEqProofs [-getElem?_pos, go_sem])) (NQ_ex _) (NQ_flat _) ?_
      rintro r ⟨a2, rfl, _⟩
      simp -dsimp -implicitDefEqProofs [-getElem?_pos, go_sem, hP]
      refine callB_isQ (up (gpay_pf p src)) hP en_11 (by simp [imm_sc]) PayQ_ex ?_
      rintro r ⟨g, rfl, hg⟩ _
      obtain ⟨Bx, hBx⟩ : ∃ Bx : TBatch, Bx = ⟨a1, a2, [g]⟩ := ⟨_, rfl⟩
      obtain ⟨B2, hB2⟩ : ∃ B2, B2 = q.Batches ++ [Bx] := ⟨_, rfl⟩
      have lB2 : B2.length = q.Batches.length + 1 := by rw [hB2]; simp
      have en : encL TBatch.cells q.Batches ++ [[iv a1, iv a2, .list 5 [[iv g.Warrant, iv g.Payee, iv g.Amount, iv g.Due, iv g.Sub]]]] = encL TBatch.cells B2 := by rw [hB2, hBx]; exact encL_snoc TBatch.cells q.Batches ⟨a1, a2, [g]⟩
      have iw2 := imm_bats B2
      simp -dsimp -implicitDefEqProofs [-getElem?_pos, go_sem, hP, cPy, en]
      refine ⟨by omega, by omega, ?_⟩
      refine ⟨_, weaker_frzcell (o := 4) (id := 6) (r := 0) (c := 2) (ty := 28) (k := 3) (es := [[paysL q.Waiting, .list 1 (q.Known.map fun x => [iv x]), .sref 6 0 (q.Batches.length + 1)]]) (e := [paysL q.Waiting, .list 1 (q.Known.map fun x => [iv x]), .sref 6 0 (q.Batches.length + 1)]) (ty' := 45) (kk := 3) (fs := encL TBatch.cells B2) (n := q.Batches.length + 1) hW (by simp -dsimp -implicitDefEqProofs [-getElem?_pos, go_sem]) (by omega) rfl rfl (by simp -dsimp -implicitDefEqProofs [-getElem?_pos, go_sem]) (by rw [encL_len, lB2]) iw2 (by omega), ?_⟩
      rw [hInv1]
      refine ⟨⟨q.Waiting, q.Known, B2⟩, ⟨by dsimp only; omega, by dsimp only; omega, by dsimp only; omega, fun b hb => ?_⟩, by simp -dsimp -implicitDefEqProofs [-getElem?_pos, go_sem], by simp -dsimp -implicitDefEqProofs [-getElem?_pos, go_sem], by simp -dsimp -implicitDefEqProofs [-getElem?_pos, go_sem], by simp -dsimp -implicitDefEqProofs [-getElem?_pos, go_sem], by simp -dsimp -implicitDefEqProofs [-getElem?_pos, go_sem], by simp -dsimp -implicitDefEqProofs [-getElem?_pos, go_sem], by simp -dsimp -implicitDefEqProofs [-getElem?_pos, go_sem], by simp -dsimp -implicitDefEqProofs [-getElem?_pos, go_sem], by simp -dsimp -implicitDefEqProofs [-getElem?_pos, go_sem], by simp -dsimp -implicitDefEqProofs [-getElem?_pos, go_sem]⟩
      rw [show (TQueue.mk q.Waiting q.Known B2).Batches = q.Batches ++ [Bx] from hB2] at hb
      rcases List.mem_append.1 hb with hb | hb
      · exact hf.each b hb
      · simp at hb; subst hb; rw [hBx]; simp
    · simp -dsimp -implicitDefEqProofs [-getElem?_pos, go_sem, hP, z0, z1, z2]
      refine ⟨_, weaker_cells (id := 4) (ty := 28) (k := 3) (cs := [paysL q.Waiting, .nil, batsL q.Batches]) (cs' := [paysL q.Waiting, .list 1 [], batsL q.Batches]) (by simp -dsimp -implicitDefEqProofs [-getElem?_pos, go_sem]) (by omega) (by simp) rfl (fun j a b ha hb => ?_), ?_⟩
      · rcases j with _ | _ | _ | j <;> simp at ha hb
        · subst ha hb; exact .refl _
        · subst ha hb; exact .nil _
        · subst ha hb; exact .refl _
      rw [hInv1]
      exact ⟨⟨q.Waiting, [], q.Batches⟩, ⟨by dsimp only; omega, by simp, by dsimp only; omega, hf.each⟩, by simp -dsimp -implicitDefEqProofs [-getElem?_pos, go_sem], by simp -dsimp -implicitDefEqProofs [-getElem?_pos, go_sem], by simp -dsimp -implicitDefEqProofs [-getElem?_pos, go_sem], by simp -dsimp -implicitDefEqProofs [-getElem?_pos, go_sem], by simp -dsimp -implicitDefEqProofs [-getElem?_pos, go_sem], by simp -dsimp -implicitDefEqProofs [-getElem?_pos, go_sem], by simp -dsimp -implicitDefEqProofs [-getElem?_pos, go_sem], by simp -dsimp -implicitDefEqProofs [-getElem?_pos, go_sem], by simp -dsimp -implicitDefEqProofs [-getElem?_pos, go_sem], by simp -dsimp -implicitDefEqProofs [-getElem?_pos, go_sem]⟩
  · rw [hInv1]
    rintro s ⟨o, fo, t3, t4, t5, t8, t13, t7, t14, t15, h3, h4⟩
    clear hInv1 Inv1
    have lt3 := (List.getElem?_eq_some_iff.1 h3).1
    have lt4 := (List.getElem?_eq_some_iff.1 h4).1
    have io := imm_que o
    have iop := imm_pays o.Waiting
    have iok := imm_ints o.Known
    have iob := imm_bats o.Batches
    simp only [cQu, intsL] at io iok
    refine awp_cut (by rw [hN]; kernel_rfl) ?_
    simp -dsimp -implicitDefEqProofs [-getElem?_pos, go_sem, hP, t13]
    refine callB_isQ (up (gpay_pf p src)) hP en_11 (by simp [imm_sc]) PayQ_ex ?_
    rintro r ⟨g, rfl, hg⟩ _
    obtain ⟨nb, hnb⟩ : ∃ n, n = s.H.length := ⟨_, rfl⟩
    have n3 : ¬ 3 = nb := by omega
    have n4 : ¬ 4 = nb := by omega
    simp -dsimp -implicitDefEqProofs [-getElem?_pos, go_sem, hP, cPy]
    obtain ⟨Inv2, hInv2⟩ : ∃ Inv2 : St → Prop, Inv2 = fun s => ∃ b : TPayment, s.t 3 = .list 1 (l.map fun x => [iv x]) ∧ s.t 4 = iv w ∧ s.t 5 = iv day ∧ s.t 8 = .iref [iv pr.Warrant, iv pr.Payee, iv pr.Amount, iv pr.Due, iv pr.Sub] ∧ s.t 13 = sp p ∧ s.t 16 = .ref nb 0 0 ∧ s.t 7 = .iref [paysL raw.Waiting, .list 1 (raw.Known.map fun x => [iv x]), batsL raw.Batches] ∧ s.t 14 = .ref 3 0 0 ∧ s.t 15 = .ref 4 0 0 ∧ s.H[3]? = some (some ⟨28, 3, [[paysL q.Waiting, .list 1 (q.Known.map fun x => [iv x]), batsL q.Batches]]⟩) ∧ s.H[4]? = some (some ⟨28, 3, [[paysL o.Waiting, .list 1 (o.Known.map fun x => [iv x]), batsL o.Batches]]⟩) ∧ s.H[nb]? = some (some ⟨34, 5, [[iv b.Warrant, iv b.Payee, iv b.Amount, iv b.Due, iv b.Sub]]⟩) := ⟨_, rfl⟩
    refine awp_join Inv2 (by rw [hN]; kernel_rfl) ?_ ?_
    · simp -dsimp -implicitDefEqProofs [-getElem?_pos, go_sem, hP, t13]
      refine callB_flat (up (N_pf p src 4 (by omega))) hP en_26 (args_same (by simp -dsimp -implicitDefEqProofs [-getElem?_pos, go_sem])) (NQ_ex _) (NQ_flat _) ?_
      rintro r ⟨z, rfl, _, hz⟩
      have hz := hz (by omega)
      have four : z = 0 ∨ z = 1 ∨ z = 2 ∨ (¬ z = 0 ∧ ¬ z = 1 ∧ ¬ z = 2) := by omega
      have fin : ∀ (b : TPayment) (s' : St), s'.t 3 = s.t 3 → s'.t 4 = s.t 4 → s'.t 5 = s.t 5 → s'.t 8 = s.t 8 → s'.t 13 = s.t 13 → s'.t 16 = .ref nb 0 0 → s'.t 7 = s.t 7 → s'.t 14 = s.t 14 → s'.t 15 = s.t 15 → s'.H[3]? = s.H[3]? → s'.H[4]? = s.H[4]? → s'.H[nb]? = some (some ⟨34, 5, [[iv b.Warrant, iv b.Payee, iv b.Amount, iv b.Due, iv b.Sub]]⟩) → AInv E Inv2 s' := fun b s' a3 a4 a5 a8 a13 a16 a7 a14 a15 e3 e4 e5 => by
        refine ⟨_, Weaker.refl _, ?_⟩
        rw [hInv2]
        exact ⟨b, by rw [a3, t3], by rw [a4, t4], by rw [a5, t5], by rw [a8, t8], by rw [a13, t13], a16, by rw [a7, t7], by rw [a14, t14], by rw [a15, t15], by rw [e3, h3], by rw [e4, h4], e5⟩
      rcases four with rfl | rfl | rfl | ⟨z0, z1, z2⟩
      · simp -dsimp -implicitDefEqProofs [-getElem?_pos, go_sem, hP, t13]
        refine callB_flat (up (oddQ_pf p src)) hP en_28 (args_same (by simp -dsimp -implicitDefEqProofs [-getElem?_pos, go_sem])) ⟨_, 0, rfl⟩ (by rintro r ⟨m, rfl⟩; exact .sc) ?_
        rintro r ⟨a1, rfl⟩
        simp -dsimp -implicitDefEqProofs [-getElem?_pos, go_sem, hP]
        exact fin ⟨g.Warrant, g.Payee, a1, g.Due, g.Sub⟩ _ (by simp -dsimp -implicitDefEqProofs [-getElem?_pos, go_sem]) (by simp -dsimp -implicitDefEqProofs [-getElem?_pos, go_sem]) (by simp -dsimp -implicitDefEqProofs [-getElem?_pos, go_sem]) (by simp -dsimp -implicitDefEqProofs [-getElem?_pos, go_sem]) (by simp -dsimp -implicitDefEqProofs [-getElem?_pos, go_sem]) (by simp -dsimp -implicitDefEqProofs [-getElem?_pos, go_sem, hnb]) (by simp -dsimp -implicitDefEqProofs [-getElem?_pos, go_sem]) (by simp -dsimp -implicitDefEqProofs [-getElem?_pos, go_sem]) (by simp -dsimp -implicitDefEqProofs [-getElem?_pos, go_sem]) (by simp -dsimp -implicitDefEqProofs [-getElem?_pos, go_sem, hnb, lt3]) (by simp -dsimp -implicitDefEqProofs [-getElem?_pos, go_sem, hnb, lt4]) (by simp -dsimp -implicitDefEqProofs [-getElem?_pos, go_sem, hnb])
      · simp -dsimp -implicitDefEqProofs [-getElem?_pos, go_sem, hP, t13]
        refine callB_flat (up (oddQ_pf p src)) hP en_28 (args_same (by simp -dsimp -implicitDefEqProofs [-getElem?_pos, go_sem])) ⟨_, 0, rfl⟩ (by rintro r ⟨m, rfl⟩; exact .sc) ?_
        rintro r ⟨a1, rfl⟩
        simp -dsimp -implicitDefEqProofs [-getElem?_pos, go_sem, hP]
        exact fin ⟨g.Warrant, g.Payee, g.Amount, a1, g.Sub⟩ _ (by simp -dsimp -implicitDefEqProofs [-getElem?_pos, go_sem]) (by simp -dsimp -implicitDefEqProofs [-getElem?_pos, go_sem]) (by simp -dsimp -implicitDefEqProofs [-getElem?_pos, go_sem]) (by simp -dsimp -implicitDefEqProofs [-getElem?_pos, go_sem]) (by simp -dsimp -implicitDefEqProofs [-getElem?_pos, go_sem]) (by simp -dsimp -implicitDefEqProofs [-getElem?_pos, go_sem, hnb]) (by simp -dsimp -implicitDefEqProofs [-getElem?_pos, go_sem]) (by simp -dsimp -implicitDefEqProofs [-getElem?_pos, go_sem]) (by simp -dsimp -implicitDefEqProofs [-getElem?_pos, go_sem]) (by simp -dsimp -implicitDefEqProofs [-getElem?_pos, go_sem, hnb, lt3]) (by simp -dsimp -implicitDefEqProofs [-getElem?_pos, go_sem, hnb, lt4]) (by simp -dsimp -implicitDefEqProofs [-getElem?_pos, go_sem, hnb])
      · simp -dsimp -implicitDefEqProofs [-getElem?_pos, go_sem, hP, t13]
        refine callB_flat (up (oddQ_pf p src)) hP en_28 (args_same (by simp -dsimp -implicitDefEqProofs [-getElem?_pos, go_sem])) ⟨_, 0, rfl⟩ (by rintro r ⟨m, rfl⟩; exact .sc) ?_
        rintro r ⟨a1, rfl⟩
        simp -dsimp -implicitDefEqProofs [-getElem?_pos, go_sem, hP]
        exact fin ⟨g.Warrant, g.Payee, g.Amount, g.Due, a1⟩ _ (by simp -dsimp -implicitDefEqProofs [-getElem?_pos, go_sem]) (by simp -dsimp -implicitDefEqProofs [-getElem?_pos, go_sem]) (by simp -dsimp -implicitDefEqProofs [-getElem?_pos, go_sem]) (by simp -dsimp -implicitDefEqProofs [-getElem?_pos, go_sem]) (by simp -dsimp -implicitDefEqProofs [-getElem?_pos, go_sem]) (by simp -dsimp -implicitDefEqProofs [-getElem?_pos, go_sem, hnb]) (by simp -dsimp -implicitDefEqProofs [-getElem?_pos, go_sem]) (by simp -dsimp -implicitDefEqProofs [-getElem?_pos, go_sem]) (by simp -dsimp -implicitDefEqProofs [-getElem?_pos, go_sem]) (by simp -dsimp -implicitDefEqProofs [-getElem?_pos, go_sem, hnb, lt3]) (by simp -dsimp -implicitDefEqProofs [-getElem?_pos, go_sem, hnb, lt4]) (by simp -dsimp -implicitDefEqProofs [-getElem?_pos, go_sem, hnb])
      · simp -dsimp -implicitDefEqProofs [-getElem?_pos, go_sem, hP, z0, z1, z2, t13]
        refine callB_flat (up (oddQ_pf p src)) hP en_28 (args_same (by simp -dsimp -implicitDefEqProofs [-getElem?_pos, go_sem])) ⟨_, 0, rfl⟩ (by rintro r ⟨m, rfl⟩; exact .sc) ?_
        rintro r ⟨a1, rfl⟩
        simp -dsimp -implicitDefEqProofs [-getElem?_pos, go_sem, hP]
        exact fin ⟨a1, g.Payee, g.Amount, g.Due, g.Sub⟩ _ (by simp -dsimp -implicitDefEqProofs [-getElem?_pos, go_sem]) (by simp -dsimp -implicitDefEqProofs [-getElem?_pos, go_sem]) (by simp -dsimp -implicitDefEqProofs [-getElem?_pos, go_sem]) (by simp -dsimp -implicitDefEqProofs [-getElem?_pos, go_sem]) (by simp -dsimp -implicitDefEqProofs [-getElem?_pos, go_sem]) (by simp -dsimp -implicitDefEqProofs [-getElem?_pos, go_sem, hnb]) (by simp -dsimp -implicitDefEqProofs [-getElem?_pos, go_sem]) (by simp -dsimp -implicitDefEqProofs [-getElem?_pos, go_sem]) (by simp -dsimp -implicitDefEqProofs [-getElem?_pos, go_sem]) (by simp -dsimp -implicitDefEqProofs [-getElem?_pos, go_sem, hnb, lt3]) (by simp -dsimp -implicitDefEqProofs [-getElem?_pos, go_sem, hnb, lt4]) (by simp -dsimp -implicitDefEqProofs [-getElem?_pos, go_sem, hnb])
    · rw [hInv2]
      clear hInv2 Inv2 t3 t4 t5 t8 t13 t7 t14 t15 h3 h4 lt3 lt4 hnb n3 n4 hg
      rintro s ⟨b, t3, t4, t5, t8, t13, t16, t7, t14, t15, h3, h4, h5⟩
      have lt3 := (List.getElem?_eq_some_iff.1 h3).1
      have lt4 := (List.getElem?_eq_some_iff.1 h4).1
      have ib := imm_pay b
      rw [cPy] at ib
      refine awp_sound _ _ _ (by rw [hN]; kernel_rfl) ?_
      simp -dsimp -implicitDefEqProofs [-getElem?_pos, go_sem, hP, t14, t15, t7, h3, h4, lt3, lt4]
      have fr := small_fit c1
      obtain ⟨A3, hA3⟩ : ∃ A3 : AV, A3 = .agg [paysL q.Waiting, .list 1 (q.Known.map fun x => [iv x]), batsL q.Batches, paysL o.Waiting, .list 1 (o.Known.map fun x => [iv x]), batsL o.Batches, paysL raw.Waiting, .list 1 (raw.Known.map fun x => [iv x]), batsL raw.Batches] := ⟨_, rfl⟩
      obtain ⟨J, hJ⟩ : ∃ I : Nat → St → Prop, I = fun m s => ∃ k : Nat, k ≤ 3 ∧ m = 3 - k ∧ s.t 3 = .list 1 (l.map fun x => [iv x]) ∧ s.t 4 = iv w ∧ s.t 5 = iv day ∧ s.t 8 = .iref [iv pr.Warrant, iv pr.Payee, iv pr.Amount, iv pr.Due, iv pr.Sub] ∧ s.t 13 = sp p ∧ s.t 16 = .ref nb 0 0 ∧ s.t 123 = A3 ∧ s.t 124 = iv k ∧ s.H[nb]? = some (some ⟨34, 5, [[iv b.Warrant, iv b.Payee, iv b.Amount, iv b.Due, iv b.Sub]]⟩) := ⟨_, rfl⟩
      refine aloop0 J (3) (by rw [hN]; rfl) ?_ ?_
      · rw [hJ]
        exact ⟨0, by omega, by omega, by simp -dsimp -implicitDefEqProofs [-getElem?_pos, go_sem, t3], by simp -dsimp -implicitDefEqProofs [-getElem?_pos, go_sem, t4], by simp -dsimp -implicitDefEqProofs [-getElem?_pos, go_sem, t5], by simp -dsimp -implicitDefEqProofs [-getElem?_pos, go_sem, t8], by simp -dsimp -implicitDefEqProofs [-getElem?_pos, go_sem, t13], by simp -dsimp -implicitDefEqProofs [-getElem?_pos, go_sem, t16], by simp -dsimp -implicitDefEqProofs [-getElem?_pos, go_sem, hA3], by simp -dsimp -implicitDefEqProofs [-getElem?_pos, go_sem], by simp -dsimp -implicitDefEqProofs [-getElem?_pos, go_sem, h5]⟩
      clear t3 t4 t5 t8 t13 t16 t7 t14 t15 h3 h4 lt3 lt4 h5
      intro m s hs'
      rw [hJ] at hs'
      obtain ⟨k, hk, hm, t3, t4, t5, t8, t13, t16, t123, t124, hb5⟩ := hs'
      have ltb := (List.getElem?_eq_some_iff.1 hb5).1
      simp -dsimp -implicitDefEqProofs [-getElem?_pos, go_sem, hP, t124]
      refine condP (fun hh => ?_) (fun hh => ?_)
      rotate_left
      · simp -dsimp -implicitDefEqProofs [-getElem?_pos, go_sem, hP]
        refine saneB ?_
        simp -dsimp -implicitDefEqProofs [-getElem?_pos, go_sem, hP]
      have hk : k < 3 := by simp at hh; omega
      clear hh
      have wk := wrap_in ((k : Int) + 1) (by omega)
      obtain ⟨y, fy, hix⟩ : ∃ y : TQueue, FitQ y ∧ aixV Try.prog 58 A3 (iv k) = some (.agg [paysL y.Waiting, .list 1 (y.Known.map fun x => [iv x]), batsL y.Batches]) := by
        rw [hA3]
        rcases three25 hk with rfl | rfl | rfl
        · exact ⟨q, hf, by kernel_rfl⟩
        · exact ⟨o, fo, by kernel_rfl⟩
        · exact ⟨raw, fr, by kernel_rfl⟩
      clear hA3
      have iy := imm_que y
      have iyp := imm_pays y.Waiting
      have k1 := bcheck_pf y fy
      have k2 := rcheck25_pf y fy
      have s1 := bsum_pf y.Waiting (by have := fy.w; omega)
      have s2 := sum25_pf y.Waiting (by have := fy.w; omega)
      simp only [cQu, intsL] at k1 k2 iy
      obtain ⟨n, hn⟩ : ∃ n, n = s.H.length := ⟨_, rfl⟩
      have nbn : nb < n := by omega
      simp -dsimp -implicitDefEqProofs [-getElem?_pos, go_sem, hP, t123, t124, hix]
      refine adrawB (fun _ => true) [] hP (by kernel_rfl) (by kernel_rfl) ?_
      simp -dsimp -implicitDefEqProofs [-getElem?_pos, go_sem, hP]
      refine callB_is (k1.lift _ _) hP en_10 (by simpa using iy) .sc ?_
      simp -dsimp -implicitDefEqProofs [-getElem?_pos, go_sem, hP]
      refine callB_is (k2.lift _ _) hP en_29 (by simpa using iy) .sc ?_
      simp -dsimp -implicitDefEqProofs [-getElem?_pos, go_sem, hP]
      refine callB_is (s1.lift _ _) hP en_20 (by simpa using iyp) .sc ?_
      simp -dsimp -implicitDefEqProofs [-getElem?_pos, go_sem, hP]
      refine callB_is (s2.lift _ _) hP en_19 (by simpa using iyp) .sc ?_
      simp -dsimp -implicitDefEqProofs [-getElem?_pos, go_sem, hP]
      refine adrawB (fun _ => true) [] hP (by kernel_rfl) (by kernel_rfl) ?_
      simp -dsimp -implicitDefEqProofs [-getElem?_pos, go_sem, hP, t8, t16, hb5, ltb, t13]
      refine callB_isQ (up (gpay_pf p src)) hP en_11 (by simp [imm_sc]) PayQ_ex ?_
      rintro r ⟨g, rfl, hg⟩ _
      simp -dsimp -implicitDefEqProofs [-getElem?_pos, go_sem, hP, cPy]
      obtain ⟨B3, hB3⟩ : ∃ B3 : AV, B3 = .agg [iv pr.Warrant, iv pr.Payee, iv pr.Amount, iv pr.Due, iv pr.Sub, iv b.Warrant, iv b.Payee, iv b.Amount, iv b.Due, iv b.Sub, iv g.Warrant, iv g.Payee, iv g.Amount, iv g.Due, iv g.Sub] := ⟨_, rfl⟩
      obtain ⟨G, hG⟩ : ∃ I : Nat → St → Prop, I = fun m s => ∃ j : Nat, j ≤ 3 ∧ m = 3 - j ∧ s.t 3 = .list 1 (l.map fun x => [iv x]) ∧ s.t 4 = iv w ∧ s.t 5 = iv day ∧ s.t 8 = .iref [iv pr.Warrant, iv pr.Payee, iv pr.Amount, iv pr.Due, iv pr.Sub] ∧ s.t 13 = sp p ∧ s.t 16 = .ref nb 0 0 ∧ s.t 18 = .ref n 0 0 ∧ s.t 123 = A3 ∧ s.t 124 = iv k ∧ s.t 145 = B3 ∧ s.t 146 = iv j ∧ s.H[nb]? = some (some ⟨34, 5, [[iv b.Warrant, iv b.Payee, iv b.Amount, iv b.Due, iv b.Sub]]⟩) ∧ s.H[n]? = some (some ⟨28, 3, [[paysL y.Waiting, .list 1 (y.Known.map fun x => [iv x]), batsL y.Batches]]⟩) := ⟨_, rfl⟩
      refine aloop0 G (3) (by rw [hN]; rfl) ?_ ?_
      · rw [hG]
        exact ⟨0, by omega, by omega, by simp -dsimp -implicitDefEqProofs [-getElem?_pos, go_sem, t3], by simp -dsimp -implicitDefEqProofs [-getElem?_pos, go_sem, t4], by simp -dsimp -implicitDefEqProofs [-getElem?_pos, go_sem, t5], by simp -dsimp -implicitDefEqProofs [-getElem?_pos, go_sem, t8], by simp -dsimp -implicitDefEqProofs [-getElem?_pos, go_sem, t13], by simp -dsimp -implicitDefEqProofs [-getElem?_pos, go_sem, t16], by simp -dsimp -implicitDefEqProofs [-getElem?_pos, go_sem, hn], by simp -dsimp -implicitDefEqProofs [-getElem?_pos, go_sem, t123], by simp -dsimp -implicitDefEqProofs [-getElem?_pos, go_sem, t124], by simp -dsimp -implicitDefEqProofs [-getElem?_pos, go_sem, hB3], by simp -dsimp -implicitDefEqProofs [-getElem?_pos, go_sem], by simp -dsimp -implicitDefEqProofs [-getElem?_pos, go_sem, hb5, ltb], by simp -dsimp -implicitDefEqProofs [-getElem?_pos, go_sem, hn]⟩
      clear t3 t4 t5 t8 t13 t16 t123 t124 hb5 ltb
      clear hn
      intro m s hs'
      rw [hG] at hs'
      obtain ⟨j, hj, hmj, t3, t4, t5, t8, t13, t16, t18, t123, t124, t145, t146, hb5, hyn⟩ := hs'
      have ltb := (List.getElem?_eq_some_iff.1 hb5).1
      have lty := (List.getElem?_eq_some_iff.1 hyn).1
      simp -dsimp -implicitDefEqProofs [-getElem?_pos, go_sem, hP, t146]
      refine condP (fun hh => ?_) (fun hh => ?_)
      · have hj : j < 3 := by simp at hh; omega
        clear hh
        have wj := wrap_in ((j : Int) + 1) (by omega)
        obtain ⟨v, hiv⟩ : ∃ v : TPayment, aixV Try.prog 59 B3 (iv j) = some (.agg [iv v.Warrant, iv v.Payee, iv v.Amount, iv v.Due, iv v.Sub]) := by
          rw [hB3]
          rcases three25 hj with rfl | rfl | rfl
          · exact ⟨pr, by kernel_rfl⟩
          · exact ⟨b, by kernel_rfl⟩
          · exact ⟨g, by kernel_rfl⟩
        clear hB3
        have ivv := imm_pay v
        have a1 := badd_pf y v fy
        have a2 := add25_pf y v fy
        have b1 := bagain_pf y v fy
        have b2 := again25_pf y v fy
        have p1 := bpay_pf v
        have p2 := rpay_pf v
        have fa := addQ_fit y v
        have fb := againQ_fit y v
        generalize (addQ y v).1 = X at a1 a2 fa
        generalize (addQ y v).2 = e at a1 a2
        generalize (againQ y v).1 = Y at b1 b2 fb
        generalize (againQ y v).2 = e' at b1 b2
        have sX := same25_pf X X fa fa
        have sY := same25_pf Y Y fb fb
        have iX := imm_que X
        have iY := imm_que Y
        simp only [cQu, cPy, intsL, decide_true] at a1 a2 b1 b2 p1 p2 sX sY iX iY ivv
        obtain ⟨n2, hn2⟩ : ∃ n, n = s.H.length := ⟨_, rfl⟩
        simp -dsimp -implicitDefEqProofs [-getElem?_pos, go_sem, hP, t145, t146, hiv, t18, hyn, lty]
        refine callB_is (a1.lift _ _) hP en_12 (by simp; exact ⟨iy, ivv⟩) (imm_pair iX .sc) ?_
        simp -dsimp -implicitDefEqProofs [-getElem?_pos, go_sem, hP, t18, hyn, lty]
        refine callB_is (a2.lift _ _) hP en_30 (by simp; exact ⟨iy, ivv⟩) (imm_pair iX .sc) ?_
        simp -dsimp -implicitDefEqProofs [-getElem?_pos, go_sem, hP, t18, hyn, lty]
        refine callB_is (b1.lift _ _) hP en_31 (by simp; exact ⟨iy, ivv⟩) (imm_pair iY .sc) ?_
        simp -dsimp -implicitDefEqProofs [-getElem?_pos, go_sem, hP, t18, hyn, lty]
        refine callB_is (b2.lift _ _) hP en_32 (by simp; exact ⟨iy, ivv⟩) (imm_pair iY .sc) ?_
        simp -dsimp -implicitDefEqProofs [-getElem?_pos, go_sem, hP]
        refine adrawB (fun _ => true) [] hP (by kernel_rfl) (by kernel_rfl) ?_
        simp -dsimp -implicitDefEqProofs [-getElem?_pos, go_sem, hP]
        refine callB_is (p1.lift _ _) hP en_33 (by simpa using ivv) .sc ?_
        simp -dsimp -implicitDefEqProofs [-getElem?_pos, go_sem, hP]
        refine callB_is (p2.lift _ _) hP en_34 (by simpa using ivv) .sc ?_
        simp -dsimp -implicitDefEqProofs [-getElem?_pos, go_sem, hP]
        refine callB_is (sX.lift _ _) hP en_24 (by simpa using iX) .sc ?_
        simp -dsimp -implicitDefEqProofs [-getElem?_pos, go_sem, hP]
        refine callB_is (sY.lift _ _) hP en_24 (by simpa using iY) .sc ?_
        simp -dsimp -implicitDefEqProofs [-getElem?_pos, go_sem, hP]
        simp -dsimp -implicitDefEqProofs [-getElem?_pos, go_sem, hP, t146, wj]
        refine ⟨3 - (j + 1), by omega, ?_⟩
        rw [hG]
        exact ⟨j + 1, by omega, rfl, by simp -dsimp -implicitDefEqProofs [-getElem?_pos, go_sem, t3], by simp -dsimp -implicitDefEqProofs [-getElem?_pos, go_sem, t4], by simp -dsimp -implicitDefEqProofs [-getElem?_pos, go_sem, t5], by simp -dsimp -implicitDefEqProofs [-getElem?_pos, go_sem, t8], by simp -dsimp -implicitDefEqProofs [-getElem?_pos, go_sem, t13], by simp -dsimp -implicitDefEqProofs [-getElem?_pos, go_sem, t16], by simp -dsimp -implicitDefEqProofs [-getElem?_pos, go_sem, t18], by simp -dsimp -implicitDefEqProofs [-getElem?_pos, go_sem, t123], by simp -dsimp -implicitDefEqProofs [-getElem?_pos, go_sem, t124], by simp -dsimp -implicitDefEqProofs [-getElem?_pos, go_sem, t145], by simp -dsimp -implicitDefEqProofs [-getElem?_pos, go_sem], by simp -dsimp -implicitDefEqProofs [-getElem?_pos, go_sem, hb5, ltb], by simp -dsimp -implicitDefEqProofs [-getElem?_pos, go_sem, hyn, lty]⟩
      simp -dsimp -implicitDefEqProofs [-getElem?_pos, go_sem, hP, t4, t13]
      clear hG G hB3 t145 t146 hh
      refine callB_isQ (up (rangeQ_pf p src 1 12 (by omega) (by omega))) hP en_27 (by simp [imm_sc]) (RQ_ex (by omega)) ?_
      rintro r ⟨d1, rfl, _⟩ _
      simp -dsimp -implicitDefEqProofs [-getElem?_pos, go_sem, hP, t4, t13]
      refine callB_isQ (up (oddQ_pf p src)) hP en_28 (by simp [imm_sc]) OQ_ex ?_
      rintro r ⟨d2', rfl⟩ _
      simp -dsimp -implicitDefEqProofs [-getElem?_pos, go_sem, hP, t4]
      obtain ⟨C3, hC3⟩ : ∃ C3 : AV, C3 = .agg [iv w, iv d1, iv d2'] := ⟨_, rfl⟩
      obtain ⟨G, hG⟩ : ∃ I : Nat → St → Prop, I = fun m s => ∃ j : Nat, j ≤ 3 ∧ m = 3 - j ∧ s.t 3 = .list 1 (l.map fun x => [iv x]) ∧ s.t 4 = iv w ∧ s.t 5 = iv day ∧ s.t 8 = .iref [iv pr.Warrant, iv pr.Payee, iv pr.Amount, iv pr.Due, iv pr.Sub] ∧ s.t 13 = sp p ∧ s.t 16 = .ref nb 0 0 ∧ s.t 18 = .ref n 0 0 ∧ s.t 123 = A3 ∧ s.t 124 = iv k ∧ s.t 206 = C3 ∧ s.t 207 = iv j ∧ s.H[nb]? = some (some ⟨34, 5, [[iv b.Warrant, iv b.Payee, iv b.Amount, iv b.Due, iv b.Sub]]⟩) ∧ s.H[n]? = some (some ⟨28, 3, [[paysL y.Waiting, .list 1 (y.Known.map fun x => [iv x]), batsL y.Batches]]⟩) := ⟨_, rfl⟩
      refine aloop0 G (3) (by rw [hN]; rfl) ?_ ?_
      · rw [hG]
        exact ⟨0, by omega, by omega, by simp -dsimp -implicitDefEqProofs [-getElem?_pos, go_sem, t3], by simp -dsimp -implicitDefEqProofs [-getElem?_pos, go_sem, t4], by simp -dsimp -implicitDefEqProofs [-getElem?_pos, go_sem, t5], by simp -dsimp -implicitDefEqProofs [-getElem?_pos, go_sem, t8], by simp -dsimp -implicitDefEqProofs [-getElem?_pos, go_sem, t13], by simp -dsimp -implicitDefEqProofs [-getElem?_pos, go_sem, t16], by simp -dsimp -implicitDefEqProofs [-getElem?_pos, go_sem, t18], by simp -dsimp -implicitDefEqProofs [-getElem?_pos, go_sem, t123], by simp -dsimp -implicitDefEqProofs [-getElem?_pos, go_sem, t124], by simp -dsimp -implicitDefEqProofs [-getElem?_pos, go_sem, hC3], by simp -dsimp -implicitDefEqProofs [-getElem?_pos, go_sem], by simp -dsimp -implicitDefEqProofs [-getElem?_pos, go_sem, hb5, ltb], by simp -dsimp -implicitDefEqProofs [-getElem?_pos, go_sem, hyn, lty]⟩
      clear t3 t4 t5 t8 t13 t16 t18 t123 t124 hb5 hyn ltb lty
      intro m s hs'
      rw [hG] at hs'
      obtain ⟨j, hj, hmj, t3, t4, t5, t8, t13, t16, t18, t123, t124, t206, t207, hb5, hyn⟩ := hs'
      have ltb := (List.getElem?_eq_some_iff.1 hb5).1
      have lty := (List.getElem?_eq_some_iff.1 hyn).1
      simp -dsimp -implicitDefEqProofs [-getElem?_pos, go_sem, hP, t207]
      refine condP (fun hh => ?_) (fun hh => ?_)
      · have hj : j < 3 := by simp at hh; omega
        clear hh
        have wj := wrap_in ((j : Int) + 1) (by omega)
        obtain ⟨v, hiv⟩ : ∃ v : Int, aixV Try.prog 61 C3 (iv j) = some (iv v) := by
          rw [hC3]
          rcases three25 hj with rfl | rfl | rfl
          · exact ⟨w, by kernel_rfl⟩
          · exact ⟨d1, by kernel_rfl⟩
          · exact ⟨d2', by kernel_rfl⟩
        clear hC3
        have a1 := bdrop_pf y v fy
        have a2 := drop25_pf y v fy
        have fa := dropQ_fit y v
        generalize (dropQ y v).1 = X at a1 a2 fa
        generalize (dropQ y v).2 = e at a1 a2
        have sX := same25_pf X X fa fa
        have iX := imm_que X
        simp only [cQu, intsL, decide_true] at a1 a2 sX iX
        simp -dsimp -implicitDefEqProofs [-getElem?_pos, go_sem, hP, t206, t207, hiv, t18, hyn, lty]
        refine callB_is (a1.lift _ _) hP en_23 (by simp [imm_sc]; exact iy) (imm_pair iX .sc) ?_
        simp -dsimp -implicitDefEqProofs [-getElem?_pos, go_sem, hP, t18, hyn, lty]
        refine callB_is (a2.lift _ _) hP en_35 (by simp [imm_sc]; exact iy) (imm_pair iX .sc) ?_
        simp -dsimp -implicitDefEqProofs [-getElem?_pos, go_sem, hP]
        refine callB_is (sX.lift _ _) hP en_24 (by simpa using iX) .sc ?_
        simp -dsimp -implicitDefEqProofs [-getElem?_pos, go_sem, hP]
        simp -dsimp -implicitDefEqProofs [-getElem?_pos, go_sem, hP, t207, wj]
        refine ⟨3 - (j + 1), by omega, ?_⟩
        rw [hG]
        exact ⟨j + 1, by omega, rfl, by simp -dsimp -implicitDefEqProofs [-getElem?_pos, go_sem, t3], by simp -dsimp -implicitDefEqProofs [-getElem?_pos, go_sem, t4], by simp -dsimp -implicitDefEqProofs [-getElem?_pos, go_sem, t5], by simp -dsimp -implicitDefEqProofs [-getElem?_pos, go_sem, t8], by simp -dsimp -implicitDefEqProofs [-getElem?_pos, go_sem, t13], by simp -dsimp -implicitDefEqProofs [-getElem?_pos, go_sem, t16], by simp -dsimp -implicitDefEqProofs [-getElem?_pos, go_sem, t18], by simp -dsimp -implicitDefEqProofs [-getElem?_pos, go_sem, t123], by simp -dsimp -implicitDefEqProofs [-getElem?_pos, go_sem, t124], by simp -dsimp -implicitDefEqProofs [-getElem?_pos, go_sem, t206], by simp -dsimp -implicitDefEqProofs [-getElem?_pos, go_sem], by simp -dsimp -implicitDefEqProofs [-getElem?_pos, go_sem, hb5, ltb], by simp -dsimp -implicitDefEqProofs [-getElem?_pos, go_sem, hyn, lty]⟩
      simp -dsimp -implicitDefEqProofs [-getElem?_pos, go_sem, hP, t5, t13]
      clear hG G hC3 t206 t207 hh
      refine callB_isQ (up (N_pf p src 40 (by omega))) hP en_26 (by simp [imm_sc]) (N_exI _) ?_
      rintro r ⟨d3, rfl, _⟩ _
      simp -dsimp -implicitDefEqProofs [-getElem?_pos, go_sem, hP, t5]
      obtain ⟨D3, hD3⟩ : ∃ D3 : AV, D3 = .agg [iv day, iv d3, iv 36000] := ⟨_, rfl⟩
      obtain ⟨G, hG⟩ : ∃ I : Nat → St → Prop, I = fun m s => ∃ j : Nat, j ≤ 3 ∧ m = 3 - j ∧ s.t 3 = .list 1 (l.map fun x => [iv x]) ∧ s.t 4 = iv w ∧ s.t 5 = iv day ∧ s.t 8 = .iref [iv pr.Warrant, iv pr.Payee, iv pr.Amount, iv pr.Due, iv pr.Sub] ∧ s.t 13 = sp p ∧ s.t 16 = .ref nb 0 0 ∧ s.t 18 = .ref n 0 0 ∧ s.t 123 = A3 ∧ s.t 124 = iv k ∧ s.t 235 = D3 ∧ s.t 236 = iv j ∧ s.H[nb]? = some (some ⟨34, 5, [[iv b.Warrant, iv b.Payee, iv b.Amount, iv b.Due, iv b.Sub]]⟩) ∧ s.H[n]? = some (some ⟨28, 3, [[paysL y.Waiting, .list 1 (y.Known.map fun x => [iv x]), batsL y.Batches]]⟩) := ⟨_, rfl⟩
      refine aloop0 G (3) (by rw [hN]; rfl) ?_ ?_
      · rw [hG]
        exact ⟨0, by omega, by omega, by simp -dsimp -implicitDefEqProofs [-getElem?_pos, go_sem, t3], by simp -dsimp -implicitDefEqProofs [-getElem?_pos, go_sem, t4], by simp -dsimp -implicitDefEqProofs [-getElem?_pos, go_sem, t5], by simp -dsimp -implicitDefEqProofs [-getElem?_pos, go_sem, t8], by simp -dsimp -implicitDefEqProofs [-getElem?_pos, go_sem, t13], by simp -dsimp -implicitDefEqProofs [-getElem?_pos, go_sem, t16], by simp -dsimp -implicitDefEqProofs [-getElem?_pos, go_sem, t18], by simp -dsimp -implicitDefEqProofs [-getElem?_pos, go_sem, t123], by simp -dsimp -implicitDefEqProofs [-getElem?_pos, go_sem, t124], by simp -dsimp -implicitDefEqProofs [-getElem?_pos, go_sem, hD3], by simp -dsimp -implicitDefEqProofs [-getElem?_pos, go_sem], by simp -dsimp -implicitDefEqProofs [-getElem?_pos, go_sem, hb5, ltb], by simp -dsimp -implicitDefEqProofs [-getElem?_pos, go_sem, hyn, lty]⟩
      clear t3 t4 t5 t8 t13 t16 t18 t123 t124 hb5 hyn ltb lty
      intro m s hs'
      rw [hG] at hs'
      obtain ⟨j, hj, hmj, t3, t4, t5, t8, t13, t16, t18, t123, t124, t235, t236, hb5, hyn⟩ := hs'
      have ltb := (List.getElem?_eq_some_iff.1 hb5).1
      have lty := (List.getElem?_eq_some_iff.1 hyn).1
      simp -dsimp -implicitDefEqProofs [-getElem?_pos, go_sem, hP, t236]
      refine condP (fun hh => ?_) (fun hh => ?_)
      rotate_left
      · simp -dsimp -implicitDefEqProofs [-getElem?_pos, go_sem, hP, t124, wk]
        refine ⟨3 - (k + 1), by omega, ?_⟩
        rw [hJ]
        exact ⟨k + 1, by omega, rfl, by simp -dsimp -implicitDefEqProofs [-getElem?_pos, go_sem, t3], by simp -dsimp -implicitDefEqProofs [-getElem?_pos, go_sem, t4], by simp -dsimp -implicitDefEqProofs [-getElem?_pos, go_sem, t5], by simp -dsimp -implicitDefEqProofs [-getElem?_pos, go_sem, t8], by simp -dsimp -implicitDefEqProofs [-getElem?_pos, go_sem, t13], by simp -dsimp -implicitDefEqProofs [-getElem?_pos, go_sem, t16], by simp -dsimp -implicitDefEqProofs [-getElem?_pos, go_sem, t123], by simp -dsimp -implicitDefEqProofs [-getElem?_pos, go_sem], by simp -dsimp -implicitDefEqProofs [-getElem?_pos, go_sem, hb5]⟩
      have hj : j < 3 := by simp at hh; omega
      clear hh
      have wj := wrap_in ((j : Int) + 1) (by omega)
      obtain ⟨v, hiv⟩ : ∃ v : Int, aixV Try.prog 61 D3 (iv j) = some (iv v) := by
        rw [hD3]
        rcases three25 hj with rfl | rfl | rfl
        · exact ⟨day, by kernel_rfl⟩
        · exact ⟨d3, by kernel_rfl⟩
        · exact ⟨36000, by kernel_rfl⟩
      clear hD3
      have r1 := bready_pf y v fy
      have r2 := ready25_pf y v fy
      have rl := readyQ_len fy v
      generalize readyQ y v = R at r1 r2 rl
      have iR := imm_pays R
      have eR := listEq_pf_pays25 R R rl rl
      simp only [cQu, intsL, decide_true] at r1 r2 eR
      simp -dsimp -implicitDefEqProofs [-getElem?_pos, go_sem, hP, t235, t236, hiv]
      refine adrawB (fun _ => true) [] hP (by kernel_rfl) (by kernel_rfl) ?_
      simp -dsimp -implicitDefEqProofs [-getElem?_pos, go_sem, hP, t18, hyn, lty]
      refine callB_is (r1.lift _ _) hP en_17 (by simp [imm_sc]; exact iy) iR ?_
      simp -dsimp -implicitDefEqProofs [-getElem?_pos, go_sem, hP, t18, hyn, lty]
      refine callB_is (r2.lift _ _) hP en_36 (by simp [imm_sc]; exact iy) iR ?_
      simp -dsimp -implicitDefEqProofs [-getElem?_pos, go_sem, hP]
      refine callB_is (eR.lift _ _) hP en_22 (by simpa using iR) .sc ?_
      simp -dsimp -implicitDefEqProofs [-getElem?_pos, go_sem, hP, t13, t3]
      refine callB_isQ (up (rangeQ_pf p src 1 12 (by omega) (by omega))) hP en_27 (by simp [imm_sc]) (RQ_ex (by omega)) ?_
      rintro r ⟨e1, rfl, _⟩ _
      simp -dsimp -implicitDefEqProofs [-getElem?_pos, go_sem, hP, t13, t3]
      refine callB_isQ (up (rangeQ_pf p src 1 6 (by omega) (by omega))) hP en_27 (by simp [imm_sc]) (RQ_ex (by omega)) ?_
      rintro r ⟨e2, rfl, _⟩ _
      simp -dsimp -implicitDefEqProofs [-getElem?_pos, go_sem, hP, t13, t3]
      refine callB_isQ (up (rangeQ_pf p src 1 6 (by omega) (by omega))) hP en_27 (by simp [imm_sc]) (RQ_ex (by omega)) ?_
      rintro r ⟨e3, rfl, _⟩ _
      simp -dsimp -implicitDefEqProofs [-getElem?_pos, go_sem, hP, t3]
      obtain ⟨E3, hE3⟩ : ∃ E3 : AV, E3 = .agg [.list 1 (l.map fun x => [iv x]), .list 1 [[iv e1]], .list 1 [[iv e2], [iv e3]]] := ⟨_, rfl⟩
      obtain ⟨F, hF⟩ : ∃ I : Nat → St → Prop, I = fun m s => ∃ i : Nat, i ≤ 3 ∧ m = 3 - i ∧ s.t 3 = .list 1 (l.map fun x => [iv x]) ∧ s.t 4 = iv w ∧ s.t 5 = iv day ∧ s.t 8 = .iref [iv pr.Warrant, iv pr.Payee, iv pr.Amount, iv pr.Due, iv pr.Sub] ∧ s.t 13 = sp p ∧ s.t 16 = .ref nb 0 0 ∧ s.t 18 = .ref n 0 0 ∧ s.t 36 = iv v ∧ s.t 123 = A3 ∧ s.t 124 = iv k ∧ s.t 235 = D3 ∧ s.t 236 = iv j ∧ s.t 256 = E3 ∧ s.t 257 = iv i ∧ s.H[nb]? = some (some ⟨34, 5, [[iv b.Warrant, iv b.Payee, iv b.Amount, iv b.Due, iv b.Sub]]⟩) ∧ s.H[n]? = some (some ⟨28, 3, [[paysL y.Waiting, .list 1 (y.Known.map fun x => [iv x]), batsL y.Batches]]⟩) := ⟨_, rfl⟩
      refine aloop0 F (3) (by rw [hN]; rfl) ?_ ?_
      · rw [hF]
        exact ⟨0, by omega, by omega, by simp -dsimp -implicitDefEqProofs [-getElem?_pos, go_sem, t3], by simp -dsimp -implicitDefEqProofs [-getElem?_pos, go_sem, t4], by simp -dsimp -implicitDefEqProofs [-getElem?_pos, go_sem, t5], by simp -dsimp -implicitDefEqProofs [-getElem?_pos, go_sem, t8], by simp -dsimp -implicitDefEqProofs [-getElem?_pos, go_sem, t13], by simp -dsimp -implicitDefEqProofs [-getElem?_pos, go_sem, t16], by simp -dsimp -implicitDefEqProofs [-getElem?_pos, go_sem, t18], by simp -dsimp -implicitDefEqProofs [-getElem?_pos, go_sem], by simp -dsimp -implicitDefEqProofs [-getElem?_pos, go_sem, t123], by simp -dsimp -implicitDefEqProofs [-getElem?_pos, go_sem, t124], by simp -dsimp -implicitDefEqProofs [-getElem?_pos, go_sem, t235], by simp -dsimp -implicitDefEqProofs [-getElem?_pos, go_sem, t236], by simp -dsimp -implicitDefEqProofs [-getElem?_pos, go_sem, hE3], by simp -dsimp -implicitDefEqProofs [-getElem?_pos, go_sem], by simp -dsimp -implicitDefEqProofs [-getElem?_pos, go_sem, hb5, ltb], by simp -dsimp -implicitDefEqProofs [-getElem?_pos, go_sem, hyn, lty]⟩
      clear t3 t4 t5 t8 t13 t16 t18 t123 t124 t235 t236 hb5 hyn ltb lty
      intro m s hs'
      rw [hF] at hs'
      obtain ⟨i, hi, hmi, t3, t4, t5, t8, t13, t16, t18, t36, t123, t124, t235, t236, t256, t257, hb5, hyn⟩ := hs'
      have ltb := (List.getElem?_eq_some_iff.1 hb5).1
      have lty := (List.getElem?_eq_some_iff.1 hyn).1
      simp -dsimp -implicitDefEqProofs [-getElem?_pos, go_sem, hP, t257]
      refine condP (fun hh => ?_) (fun hh => ?_)
      rotate_left
      · simp -dsimp -implicitDefEqProofs [-getElem?_pos, go_sem, hP, t236, wj]
        refine ⟨3 - (j + 1), by omega, ?_⟩
        rw [hG]
        exact ⟨j + 1, by omega, rfl, by simp -dsimp -implicitDefEqProofs [-getElem?_pos, go_sem, t3], by simp -dsimp -implicitDefEqProofs [-getElem?_pos, go_sem, t4], by simp -dsimp -implicitDefEqProofs [-getElem?_pos, go_sem, t5], by simp -dsimp -implicitDefEqProofs [-getElem?_pos, go_sem, t8], by simp -dsimp -implicitDefEqProofs [-getElem?_pos, go_sem, t13], by simp -dsimp -implicitDefEqProofs [-getElem?_pos, go_sem, t16], by simp -dsimp -implicitDefEqProofs [-getElem?_pos, go_sem, t18], by simp -dsimp -implicitDefEqProofs [-getElem?_pos, go_sem, t123], by simp -dsimp -implicitDefEqProofs [-getElem?_pos, go_sem, t124], by simp -dsimp -implicitDefEqProofs [-getElem?_pos, go_sem, t235], by simp -dsimp -implicitDefEqProofs [-getElem?_pos, go_sem], by simp -dsimp -implicitDefEqProofs [-getElem?_pos, go_sem, hb5], by simp -dsimp -implicitDefEqProofs [-getElem?_pos, go_sem, hyn]⟩
      have hi : i < 3 := by simp at hh; omega
      clear hh
      have wi := wrap_in ((i : Int) + 1) (by omega)
      have hll : l.length ≤ 15 := by simp at d2; omega
      obtain ⟨ws, hws, hiw⟩ : ∃ ws : List Int, ws.length ≤ 15 ∧ aixV Try.prog 62 E3 (iv i) = some (.list 1 (ws.map fun x => [iv x])) := by
        rw [hE3]
        rcases three25 hi with rfl | rfl | rfl
        · exact ⟨l, hll, by kernel_rfl⟩
        · exact ⟨[e1], by simp, by kernel_rfl⟩
        · exact ⟨[e2, e3], by simp, by kernel_rfl⟩
      clear hE3
      have a1 := btake_pf y v ws fy (by omega)
      have a2 := take25_pf y v ws fy (by omega)
      obtain ⟨fa, fb⟩ := takeQ_fit y v ws
      generalize (takeQ y v ws).1 = X at a1 a2 fa
      generalize (takeQ y v ws).2.1 = Y at a1 a2 fb
      generalize (takeQ y v ws).2.2 = e at a1 a2
      have sX := same25_pf X X fa fa
      have sY := batch25_pf Y Y fb fb
      have iX := imm_que X
      have iY := imm_bat Y
      have iws := imm_ints ws
      simp only [cQu, cBt, intsL, decide_true] at a1 a2 sX sY iX iY iws
      simp -dsimp -implicitDefEqProofs [-getElem?_pos, go_sem, hP, t256, t257, hiw, t18, hyn, lty, t36]
      refine callB_is (a1.lift _ _) hP en_18 (by simp [imm_sc]; exact ⟨iy, iws⟩) (imm_trip iX iY .sc) ?_
      simp -dsimp -implicitDefEqProofs [-getElem?_pos, go_sem, hP, t18, hyn, lty, t36]
      refine callB_is (a2.lift _ _) hP en_37 (by simp [imm_sc]; exact ⟨iy, iws⟩) (imm_trip iX iY .sc) ?_
      simp -dsimp -implicitDefEqProofs [-getElem?_pos, go_sem, hP]
      refine callB_is (sX.lift _ _) hP en_24 (by simpa using iX) .sc ?_
      simp -dsimp -implicitDefEqProofs [-getElem?_pos, go_sem, hP]
      refine callB_is (sY.lift _ _) hP en_38 (by simpa using iY) .sc ?_
      simp -dsimp -implicitDefEqProofs [-getElem?_pos, go_sem, hP]
      simp -dsimp -implicitDefEqProofs [-getElem?_pos, go_sem, hP, t257, wi]
      refine ⟨3 - (i + 1), by omega, ?_⟩
      rw [hF]
      exact ⟨i + 1, by omega, rfl, by simp -dsimp -implicitDefEqProofs [-getElem?_pos, go_sem, t3], by simp -dsimp -implicitDefEqProofs [-getElem?_pos, go_sem, t4], by simp -dsimp -implicitDefEqProofs [-getElem?_pos, go_sem, t5], by simp -dsimp -implicitDefEqProofs [-getElem?_pos, go_sem, t8], by simp -dsimp -implicitDefEqProofs [-getElem?_pos, go_sem, t13], by simp -dsimp -implicitDefEqProofs [-getElem?_pos, go_sem, t16], by simp -dsimp -implicitDefEqProofs [-getElem?_pos, go_sem, t18], by simp -dsimp -implicitDefEqProofs [-getElem?_pos, go_sem, t36], by simp -dsimp -implicitDefEqProofs [-getElem?_pos, go_sem, t123], by simp -dsimp -implicitDefEqProofs [-getElem?_pos, go_sem, t124], by simp -dsimp -implicitDefEqProofs [-getElem?_pos, go_sem, t235], by simp -dsimp -implicitDefEqProofs [-getElem?_pos, go_sem, t236], by simp -dsimp -implicitDefEqProofs [-getElem?_pos, go_sem, t256], by simp -dsimp -implicitDefEqProofs [-getElem?_pos, go_sem], by simp -dsimp -implicitDefEqProofs [-getElem?_pos, go_sem, hb5, ltb], by simp -dsimp -implicitDefEqProofs [-getElem?_pos, go_sem, hyn, lty]⟩
end Go.Proofs.Ytmpncdlhmknkoaa
