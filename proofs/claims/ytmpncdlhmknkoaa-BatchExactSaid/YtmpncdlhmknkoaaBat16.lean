/- Queues: the reference's Take. -/
import Derived.Test.YtmpncdlhmknkoaaBat15
set_option linter.unusedSimpArgs false
set_option linter.unusedVariables false
namespace Go.Proofs.Ytmpncdlhmknkoaa
open Go.PA
open Go.RowKit

set_option maxHeartbeats 4000000 in
theorem take25_pf (q : TQueue) (day : Int) (ws : List Int) (hf : FitQ q) (hw : ws.length ≤ 100000) : PFun Try.prog none none 37 [.agg q.cells, iv day, intsL ws] (· = .tup [.agg (takeQ q day ws).1.cells, .agg (takeQ q day ws).2.1.cells, iv (takeQ q day ws).2.2]) := by
  refine pfun_introA Try.func37 rfl (by simp [Try.f37]) ?_
  intro E hP hr hs hW hN
  have ck := rcheck25_pf q hf
  have iq := imm_que q
  have ip := imm_pays q.Waiting
  have i2 := imm_ints q.Known
  have i3 := imm_bats q.Batches
  have iw := imm_ints ws
  have lb := hf.b
  have lw := hf.w
  rw [cQu] at ck iq
  simp only [intsL] at i2 ck iq iw
  refine awp_cut (by rw [hN]; kernel_rfl) ?_
  simp -dsimp -implicitDefEqProofs [-getElem?_pos, go_sem, hP, cQu, intsL]
  refine awp_cut (by rw [hN]; kernel_rfl) ?_
  simp -dsimp -implicitDefEqProofs [-getElem?_pos, go_sem, hP]
  refine callB_is (ck.lift _ _) hP en_29 (by simpa using iq) .sc ?_
  by_cases c1 : checkQ q = 0
  rotate_left
  · have : takeQ q day ws = (zeroQ, zeroB, checkQ q) := by rw [takeQ, if_neg c1]
    simp -dsimp -implicitDefEqProofs [-getElem?_pos, go_sem, hP, c1]
    refine done_zeroQ3 ?_
    rw [this]; rfl
  have hq := checkQ_iff.1 c1
  simp -dsimp -implicitDefEqProofs [-getElem?_pos, go_sem, hP, c1]
  refine awp_cut (by rw [hN]; kernel_rfl) ?_
  simp -dsimp -implicitDefEqProofs [-getElem?_pos, go_sem, hP]
  obtain ⟨Inv, hInv⟩ : ∃ Inv : St → Prop, Inv = fun s => busB day = true ∧ ¬ day < lastQ q ∧ ¬ ws.length = 0 ∧ ¬ 10 < ws.length ∧ ¬ 200 ≤ q.Batches.length ∧ s.t 1 = iv day ∧ s.t 2 = .list 1 (ws.map fun x => [iv x]) ∧ s.t 3 = .ref 0 0 0 ∧ s.t 6 = .ref 1 0 0 ∧ s.t 7 = .ref 2 0 0 ∧ s.t 10 = iv q.Batches.length ∧ s.H = [some ⟨28, 3, [[paysL q.Waiting, .list 1 (q.Known.map fun x => [iv x]), batsL q.Batches]]⟩, some ⟨28, 3, [[.nil, .nil, .nil]]⟩, some ⟨45, 3, [[iv 0, iv 0, .nil]]⟩] := ⟨_, rfl⟩
  refine awp_join Inv (by rw [hN]; kernel_rfl) ?_ ?_
  rotate_left
  · intro s hs'
    rw [hInv] at hs'
    obtain ⟨c2, c3, c4, c5, c6, t1, t2, t3, t6, t7, t10, hH⟩ := hs'
    have wl := wrap_in ((q.Batches.length : Int) + 1) (by omega)
    have f6 : dueB q day ws = false → takeQ q day ws = (zeroQ, zeroB, 6) := fun h => by rw [takeQ, if_pos c1, if_pos c2, if_neg c3, if_neg c4, if_neg (by omega), if_neg (by simp [h])]
    refine awp_cut (by rw [hN]; kernel_rfl) ?_
    simp -dsimp -implicitDefEqProofs [-getElem?_pos, go_sem, hP, t10, t1, wl, hH]
    obtain ⟨Inv1, hInv1⟩ : ∃ Inv : St → Prop, Inv = fun s => dueB q day ws = true ∧ s.t 1 = iv day ∧ s.t 2 = .list 1 (ws.map fun x => [iv x]) ∧ s.t 3 = .ref 0 0 0 ∧ s.t 6 = .ref 1 0 0 ∧ s.t 7 = .ref 2 0 0 ∧ s.t 11 = .ref 3 0 0 ∧ s.H = [some ⟨28, 3, [[paysL q.Waiting, .list 1 (q.Known.map fun x => [iv x]), batsL q.Batches]]⟩, some ⟨28, 3, [[.nil, .nil, .nil]]⟩, some ⟨45, 3, [[iv 0, iv 0, .nil]]⟩, some ⟨45, 3, [[iv ((q.Batches.length : Int) + 1), iv day, .nil]]⟩] := ⟨_, rfl⟩
    refine awp_join Inv1 (by rw [hN]; kernel_rfl) ?_ ?_
    rotate_left
    · intro s hs'
      rw [hInv1] at hs'
      obtain ⟨hdue, t1, t2, t3, t6, t7, t11, hH⟩ := hs'
      have htk : takeQ q day ws = (⟨q.Waiting.filter (fun p => !takenB ws p), q.Known, q.Batches ++ [takeB q day ws]⟩, takeB q day ws, 0) := by rw [takeQ, if_pos c1, if_pos c2, if_neg c3, if_neg c4, if_neg (by omega), if_pos hdue]
      rw [htk, takeB]
      obtain ⟨W, hWt⟩ : ∃ W, W = q.Waiting := ⟨_, rfl⟩
      obtain ⟨Kn, hKn⟩ : ∃ Kn, Kn = q.Known := ⟨_, rfl⟩
      obtain ⟨bs, hbs⟩ : ∃ bs, bs = q.Batches := ⟨_, rfl⟩
      rw [← hWt, ← hKn, ← hbs] at hH ⊢
      rw [← hWt] at lw ip
      rw [← hbs] at lb i3 wl
      rw [← hKn] at i2
      refine awp_cut (by rw [hN]; kernel_rfl) ?_
      simp -dsimp -implicitDefEqProofs [-getElem?_pos, go_sem, hP]
      obtain ⟨Inv2, hInv2⟩ : ∃ Inv : St → Prop, Inv = fun s => ∃ (id : Nat) (ys zs : List TPayment), ys = W.filter (fun p => !takenB ws p) ∧ zs = W.filter (takenB ws) ∧ 4 ≤ id ∧ s.t 1 = iv day ∧ s.t 3 = .ref 0 0 0 ∧ s.t 6 = .ref 1 0 0 ∧ s.t 7 = .ref 2 0 0 ∧ s.t 11 = .ref 3 0 0 ∧ s.t 17 = .sref id 0 ys.length ∧ s.H[0]? = some (some ⟨28, 3, [[paysL W, .list 1 (Kn.map fun x => [iv x]), batsL bs]]⟩) ∧ s.H[1]? = some (some ⟨28, 3, [[.nil, .nil, .nil]]⟩) ∧ s.H[2]? = some (some ⟨45, 3, [[iv 0, iv 0, .nil]]⟩) ∧ s.H[3]? = some (some ⟨45, 3, [[iv ((bs.length : Int) + 1), iv day, paysL zs]]⟩) ∧ s.H[id]? = some (some ⟨34, 5, encL TPayment.cells ys⟩) := ⟨_, rfl⟩
      refine awp_join Inv2 (by rw [hN]; kernel_rfl) ?_ ?_
      rotate_left
      · intro s hs'
        rw [hInv2] at hs'
        obtain ⟨id, ys, zs, hys, hzs, hid, t1, t3, t6, t7, t11, t17, h0, h1, h2, h3, hi⟩ := hs'
        have lt0 := (List.getElem?_eq_some_iff.1 h0).1
        have lt1 := (List.getElem?_eq_some_iff.1 h1).1
        have lt2 := (List.getElem?_eq_some_iff.1 h2).1
        have lt3 := (List.getElem?_eq_some_iff.1 h3).1
        have lti := (List.getElem?_eq_some_iff.1 hi).1
        refine awp_sound _ _ _ (by rw [hN]; kernel_rfl) ?_
        simp -dsimp -implicitDefEqProofs [-getElem?_pos, go_sem, hP, t17, t3, h0, lt0]
        refine adrawB (fun i => decide (i < 4)) [7] hP (by kernel_rfl) (by kernel_rfl) ?_
        have D : ∀ i, decide (i < 4) = true → i < 4 := fun i hi => by simpa using hi
        simp -dsimp -implicitDefEqProofs [-getElem?_pos, go_sem, hP, t3, t11, h3, lt3, lt0]
        refine ⟨by omega, by omega, fun i hi => ?_, by omega, by omega, fun i hi => ?_, ?_⟩
        · have := D i hi
          rw [List.getElem?_append_left (by simp; omega)]
        · have := D i hi
          rw [List.getElem?_append_left (by simp; omega), List.getElem?_append_left (by simp; omega)]
        have en : encL TBatch.cells bs ++ [[iv ((bs.length : Int) + 1), iv day, paysL zs]] = encL TBatch.cells (bs ++ [⟨bs.length + 1, day, zs⟩]) := encL_snoc TBatch.cells bs ⟨bs.length + 1, day, zs⟩
        rw [en]
        generalize hH9 : (_ ++ _ : Heap) = H9
        obtain ⟨b', hb'⟩ : ∃ b', b' = s.H.length + 1 := ⟨_, rfl⟩
        have y0 : H9[0]? = some (some ⟨28, 3, [[.sref id 0 ys.length, .list 1 (Kn.map fun x => [iv x]), .sref b' 0 (bs.length + 1)]]⟩) := by rw [← hH9, List.getElem?_append_left (by simp; omega), List.getElem?_set_self lt0, hb']
        have y1 : H9[1]? = s.H[1]? := by rw [← hH9, List.getElem?_append_left (by simp; omega), List.getElem?_set_ne (by omega)]
        have y2 : H9[2]? = s.H[2]? := by rw [← hH9, List.getElem?_append_left (by simp; omega), List.getElem?_set_ne (by omega)]
        have y3 : H9[3]? = s.H[3]? := by rw [← hH9, List.getElem?_append_left (by simp; omega), List.getElem?_set_ne (by omega)]
        have yi : H9[id]? = s.H[id]? := by rw [← hH9, List.getElem?_append_left (by simp; omega), List.getElem?_set_ne (by omega)]
        have yb : H9[b']? = some (some ⟨45, 3, encL TBatch.cells (bs ++ [⟨bs.length + 1, day, zs⟩])⟩) := by rw [← hH9, hb', List.getElem?_append_right (by simp)]; simp
        rw [h1] at y1
        rw [h2] at y2
        rw [h3] at y3
        rw [hi] at yi
        clear hH9
        have r0 := (List.getElem?_eq_some_iff.1 y0).1
        have r1 := (List.getElem?_eq_some_iff.1 y1).1
        have r2 := (List.getElem?_eq_some_iff.1 y2).1
        have r3 := (List.getElem?_eq_some_iff.1 y3).1
        refine adrawB (fun i => decide (i = 0) || decide (i = 3)) [] hP (by kernel_rfl) (by kernel_rfl) ?_
        simp -dsimp -implicitDefEqProofs [-getElem?_pos, go_sem, hP, t3, t11, t6, t7, y0, y1, y2, y3, r0, r1, r2, r3]
        refine ⟨fun i hi => ?_, fun i hi => ?_, ?_⟩
        · simp only [Bool.or_eq_true, decide_eq_true_eq] at hi
          rw [List.getElem?_set_ne (by omega)]
        · simp only [Bool.or_eq_true, decide_eq_true_eq] at hi
          rw [List.getElem?_set_ne (by omega)]
        have iB := imm_bat ⟨bs.length + 1, day, zs⟩
        refine done_trip (cs' := (TQueue.mk ys Kn (bs ++ [⟨bs.length + 1, day, zs⟩])).cells) (ds' := (TBatch.mk (bs.length + 1) day zs).cells) ?_ (cw_immL (imm_agg.1 iB)) (by rw [hys, hzs]; rfl)
        refine cw_sref (ty := 34) (es := encL TPayment.cells ys) ?_ (by rw [encL_len]) (imm_pays _) (cw_imm i2 (cw_sref (ty := 45) (es := encL TBatch.cells (bs ++ [⟨bs.length + 1, day, zs⟩])) ?_ (by rw [encL_len]; simp) (imm_bats _) .nil))
        · rw [List.getElem?_set_ne (by omega), List.getElem?_set_ne (by omega), yi]
        · rw [List.getElem?_set_ne (by omega), List.getElem?_set_ne (by omega), yb]
      have zne : W.filter (takenB ws) ≠ [] := fun h => by
        have := taken_len hq.asc.nd hdue
        rw [← hWt, h] at this
        exact c4 this.symm
      simp -dsimp -implicitDefEqProofs [-getElem?_pos, go_sem, hP, t3, hH]
      refine aloop_own 17 34 5 (by simp -dsimp -implicitDefEqProofs [-getElem?_pos, go_sem]) ?_
      obtain ⟨I, hI⟩ : ∃ I : Nat → St → Prop, I = fun m s => ∃ (k id : Nat) (x : AV) (ys zs : List TPayment), k ≤ W.length ∧ m = W.length - k ∧ ys = (W.take k).filter (fun p => !takenB ws p) ∧ zs = (W.take k).filter (takenB ws) ∧ ys.length ≤ k ∧ zs.length ≤ k ∧ 4 ≤ id ∧ s.t 1 = iv day ∧ s.t 2 = .list 1 (ws.map fun x => [iv x]) ∧ s.t 3 = .ref 0 0 0 ∧ s.t 6 = .ref 1 0 0 ∧ s.t 7 = .ref 2 0 0 ∧ s.t 11 = .ref 3 0 0 ∧ s.t 123 = paysL W ∧ s.t 124 = iv W.length ∧ s.t 125 = iv k ∧ s.t 17 = .sref id 0 ys.length ∧ s.H[0]? = some (some ⟨28, 3, [[paysL W, .list 1 (Kn.map fun x => [iv x]), batsL bs]]⟩) ∧ s.H[1]? = some (some ⟨28, 3, [[.nil, .nil, .nil]]⟩) ∧ s.H[2]? = some (some ⟨45, 3, [[iv 0, iv 0, .nil]]⟩) ∧ s.H[3]? = some (some ⟨45, 3, [[iv ((bs.length : Int) + 1), iv day, x]]⟩) ∧ s.H[id]? = some (some ⟨34, 5, encL TPayment.cells ys⟩) ∧ ((x = .nil ∧ zs = []) ∨ ∃ jd, 4 ≤ jd ∧ jd ≠ id ∧ x = .sref jd 0 zs.length ∧ s.H[jd]? = some (some ⟨34, 5, encL TPayment.cells zs⟩)) := ⟨_, rfl⟩
      refine aloop0 I (W.length) (by rw [hN]; rfl) ?_ ?_
      · rw [hI]
        exact ⟨0, 4, .nil, [], [], by omega, by omega, by simp, by simp, by simp, by simp, by omega, by simp -dsimp -implicitDefEqProofs [-getElem?_pos, go_sem, t1], by simp -dsimp -implicitDefEqProofs [-getElem?_pos, go_sem, t2], by simp -dsimp -implicitDefEqProofs [-getElem?_pos, go_sem, t3], by simp -dsimp -implicitDefEqProofs [-getElem?_pos, go_sem, t6], by simp -dsimp -implicitDefEqProofs [-getElem?_pos, go_sem, t7], by simp -dsimp -implicitDefEqProofs [-getElem?_pos, go_sem, t11], by simp -dsimp -implicitDefEqProofs [-getElem?_pos, go_sem], by simp -dsimp -implicitDefEqProofs [-getElem?_pos, go_sem], by simp -dsimp -implicitDefEqProofs [-getElem?_pos, go_sem], by simp -dsimp -implicitDefEqProofs [-getElem?_pos, go_sem, hH], by simp -dsimp -implicitDefEqProofs [-getElem?_pos, go_sem, hH], by simp -dsimp -implicitDefEqProofs [-getElem?_pos, go_sem, hH], by simp -dsimp -implicitDefEqProofs [-getElem?_pos, go_sem, hH], by simp -dsimp -implicitDefEqProofs [-getElem?_pos, go_sem, hH], by simp -dsimp -implicitDefEqProofs [-getElem?_pos, go_sem, hH], .inl ⟨rfl, rfl⟩⟩
      clear t1 t2 t3 t6 t7 t11 hH
      intro m s hs'
      rw [hI] at hs'
      obtain ⟨k, id, x, ys, zs, hk, hm, hys, hzs, hyl, hzl, hid, t1, t2, t3, t6, t7, t11, t123, t124, t125, t17, h0, h1, h2, h3, hi, hx⟩ := hs'
      have lt0 := (List.getElem?_eq_some_iff.1 h0).1
      have lt3 := (List.getElem?_eq_some_iff.1 h3).1
      have lti := (List.getElem?_eq_some_iff.1 hi).1
      simp -dsimp -implicitDefEqProofs [-getElem?_pos, go_sem, hP, t124, t125]
      refine condP (fun hh => ?_) (fun hh => ?_)
      rotate_left
      · have hk : k = W.length := by simp at hh; omega
        subst hk
        rw [List.take_length] at hys hzs
        rcases hx with ⟨rfl, hx⟩ | ⟨jd, hj4, hji, rfl, hjo⟩
        · exact absurd (hzs ▸ hx) zne
        have ltj := (List.getElem?_eq_some_iff.1 hjo).1
        simp -dsimp -implicitDefEqProofs [-getElem?_pos, go_sem, hP]
        refine ⟨_, weaker_frzcell (o := 3) (id := jd) (r := 0) (c := 2) (ty := 45) (k := 3) (es := [[iv ((bs.length : Int) + 1), iv day, .sref jd 0 zs.length]]) (e := [iv ((bs.length : Int) + 1), iv day, .sref jd 0 zs.length]) (ty' := 34) (kk := 5) (fs := encL TPayment.cells zs) (n := zs.length) hW (by simp -dsimp -implicitDefEqProofs [-getElem?_pos, go_sem, h3]) (by omega) rfl rfl (by simp -dsimp -implicitDefEqProofs [-getElem?_pos, go_sem, hjo]) (by rw [encL_len]) (imm_pays _) (by omega), ?_⟩
        rw [hInv2]
        refine ⟨id, ys, zs, hys, hzs, hid, by simp -dsimp -implicitDefEqProofs [-getElem?_pos, go_sem, t1], by simp -dsimp -implicitDefEqProofs [-getElem?_pos, go_sem, t3], by simp -dsimp -implicitDefEqProofs [-getElem?_pos, go_sem, t6], by simp -dsimp -implicitDefEqProofs [-getElem?_pos, go_sem, t7], by simp -dsimp -implicitDefEqProofs [-getElem?_pos, go_sem, t11], by simp -dsimp -implicitDefEqProofs [-getElem?_pos, go_sem, t17], ?_, ?_, ?_, ?_, ?_⟩
        · dsimp only
          rw [List.getElem?_set_ne (by omega), List.getElem?_set_ne (by omega), h0]
        · dsimp only
          rw [List.getElem?_set_ne (by omega), List.getElem?_set_ne (by omega), h1]
        · dsimp only
          rw [List.getElem?_set_ne (by omega), List.getElem?_set_ne (by omega), h2]
        · dsimp only
          rw [List.getElem?_set_self (by simp; omega)]
          rfl
        · dsimp only
          rw [List.getElem?_set_ne (by omega), List.getElem?_set_ne (by omega), hi]
      have hk : k < W.length := by simpa using hh
      obtain ⟨p, hp⟩ : ∃ p, W[k]? = some p := ⟨_, List.getElem?_eq_getElem hk⟩
      have wk := wrap_in ((k : Int) + 1) (by omega)
      have ny : (W.take (k + 1)).filter (fun p => !takenB ws p) = if takenB ws p then ys else ys ++ [p] := by
        rw [take_at hp, List.filter_append, ← hys]
        cases ht : takenB ws p <;> simp [ht]
      have nz : (W.take (k + 1)).filter (takenB ws) = if takenB ws p then zs ++ [p] else zs := by
        rw [take_at hp, List.filter_append, ← hzs]
        cases ht : takenB ws p <;> simp [ht]
      simp -dsimp -implicitDefEqProofs [-getElem?_pos, go_sem, hP, t125, t123, hp, cPy, t2]
      generalize hH1 : s.H ++ _ = H1
      obtain ⟨n, hn⟩ : ∃ n, n = s.H.length := ⟨_, rfl⟩
      have kk : Kept [] s.H H1 := by rw [← hH1]; exact kept_app _ _ _
      have ep : H1[n]? = some (some ⟨34, 5, [[iv p.Warrant, iv p.Payee, iv p.Amount, iv p.Due, iv p.Sub]]⟩) := by rw [← hH1, hn]; simp
      have e0 := kk _ _ (by simp) h0
      have e1 := kk _ _ (by simp) h1
      have e2 := kk _ _ (by simp) h2
      have e3 := kk _ _ (by simp) h3
      have ei := kk _ _ (by simp) hi
      have ltp := (List.getElem?_eq_some_iff.1 ep).1
      have ll1 : H1.length = n + 1 := by rw [← hH1, hn]; simp
      obtain ⟨J, hJ⟩ : ∃ I : Nat → St → Prop, I = fun m s => ∃ (j : Nat), j ≤ ws.length ∧ m = ws.length - j ∧ s.t 20 = bv (decide (p.Warrant ∈ ws.take j)) ∧ s.t 1 = iv day ∧ s.t 2 = .list 1 (ws.map fun x => [iv x]) ∧ s.t 3 = .ref 0 0 0 ∧ s.t 6 = .ref 1 0 0 ∧ s.t 7 = .ref 2 0 0 ∧ s.t 11 = .ref 3 0 0 ∧ s.t 123 = paysL W ∧ s.t 124 = iv W.length ∧ s.t 125 = iv k ∧ s.t 17 = .sref id 0 ys.length ∧ s.t 19 = .ref n 0 0 ∧ s.t 129 = .list 1 (ws.map fun x => [iv x]) ∧ s.t 130 = iv ws.length ∧ s.t 131 = iv j ∧ s.H = H1 := ⟨_, rfl⟩
      refine aloop0 J (ws.length) (by rw [hN]; rfl) ?_ ?_
      · rw [hJ]
        exact ⟨0, by omega, by omega, by simp -dsimp -implicitDefEqProofs [-getElem?_pos, go_sem], by simp -dsimp -implicitDefEqProofs [-getElem?_pos, go_sem, t1], by simp -dsimp -implicitDefEqProofs [-getElem?_pos, go_sem, t2], by simp -dsimp -implicitDefEqProofs [-getElem?_pos, go_sem, t3], by simp -dsimp -implicitDefEqProofs [-getElem?_pos, go_sem, t6], by simp -dsimp -implicitDefEqProofs [-getElem?_pos, go_sem, t7], by simp -dsimp -implicitDefEqProofs [-getElem?_pos, go_sem, t11], by simp -dsimp -implicitDefEqProofs [-getElem?_pos, go_sem, t123], by simp -dsimp -implicitDefEqProofs [-getElem?_pos, go_sem, t124], by simp -dsimp -implicitDefEqProofs [-getElem?_pos, go_sem, t125], by simp -dsimp -implicitDefEqProofs [-getElem?_pos, go_sem, t17], by simp -dsimp -implicitDefEqProofs [-getElem?_pos, go_sem, hn], by simp -dsimp -implicitDefEqProofs [-getElem?_pos, go_sem], by simp -dsimp -implicitDefEqProofs [-getElem?_pos, go_sem], by simp -dsimp -implicitDefEqProofs [-getElem?_pos, go_sem], rfl⟩
      clear t1 t2 t3 t6 t7 t11 t123 t124 t125 t17
      intro m s hs'
      rw [hJ] at hs'
      obtain ⟨j, hj, hm', t20, t1, t2, t3, t6, t7, t11, t123, t124, t125, t17, t19, t129, t130, t131, hH⟩ := hs'
      simp -dsimp -implicitDefEqProofs [-getElem?_pos, go_sem, hP, t130, t131]
      refine condP (fun hh => ?_) (fun hh => ?_)
      · have hj : j < ws.length := by simpa using hh
        obtain ⟨w, hw'⟩ : ∃ w, ws[j]? = some w := ⟨_, List.getElem?_eq_getElem hj⟩
        have wj := wrap_in ((j : Int) + 1) (by omega)
        have em : decide (p.Warrant ∈ ws.take (j + 1)) = (decide (p.Warrant ∈ ws.take j) || decide (w = p.Warrant)) := by
          rw [take_at hw']
          by_cases c : p.Warrant ∈ ws.take j <;> simp [c, eq_comm]
        have fin : ∀ s' : St, s'.t 20 = bv (decide (p.Warrant ∈ ws.take (j + 1))) → s'.t 1 = s.t 1 → s'.t 2 = s.t 2 → s'.t 3 = s.t 3 → s'.t 6 = s.t 6 → s'.t 7 = s.t 7 → s'.t 11 = s.t 11 → s'.t 123 = s.t 123 → s'.t 124 = s.t 124 → s'.t 125 = s.t 125 → s'.t 17 = s.t 17 → s'.t 19 = s.t 19 → s'.t 129 = s.t 129 → s'.t 130 = s.t 130 → s'.t 131 = iv ((j : Int) + 1) → s'.H = s.H → ∃ n', n' < m ∧ J n' s' := fun s' a1 a2 a3 a4 a5 a6 a7 a8 a9 a10 a11 a12 a13 a14 a15 a16 => by
          refine ⟨ws.length - (j + 1), by omega, ?_⟩
          rw [hJ]
          exact ⟨j + 1, by omega, rfl, a1, by rw [a2, t1], by rw [a3, t2], by rw [a4, t3], by rw [a5, t6], by rw [a6, t7], by rw [a7, t11], by rw [a8, t123], by rw [a9, t124], by rw [a10, t125], by rw [a11, t17], by rw [a12, t19], by rw [a13, t129], by rw [a14, t130], by rw [a15]; simp, by rw [a16, hH]⟩
        by_cases c9 : p.Warrant ∈ ws.take j
        · have d9 : decide (p.Warrant ∈ ws.take j) = true := decide_eq_true c9
          rw [d9] at em t20
          simp -dsimp -implicitDefEqProofs [-getElem?_pos, go_sem, hP, t131, t129, hw', t20, wj]
          exact fin _ (by rw [em]; simp -dsimp -implicitDefEqProofs [-getElem?_pos, go_sem]) (by simp -dsimp -implicitDefEqProofs [-getElem?_pos, go_sem]) (by simp -dsimp -implicitDefEqProofs [-getElem?_pos, go_sem]) (by simp -dsimp -implicitDefEqProofs [-getElem?_pos, go_sem]) (by simp -dsimp -implicitDefEqProofs [-getElem?_pos, go_sem]) (by simp -dsimp -implicitDefEqProofs [-getElem?_pos, go_sem]) (by simp -dsimp -implicitDefEqProofs [-getElem?_pos, go_sem]) (by simp -dsimp -implicitDefEqProofs [-getElem?_pos, go_sem]) (by simp -dsimp -implicitDefEqProofs [-getElem?_pos, go_sem]) (by simp -dsimp -implicitDefEqProofs [-getElem?_pos, go_sem]) (by simp -dsimp -implicitDefEqProofs [-getElem?_pos, go_sem]) (by simp -dsimp -implicitDefEqProofs [-getElem?_pos, go_sem]) (by simp -dsimp -implicitDefEqProofs [-getElem?_pos, go_sem]) (by simp -dsimp -implicitDefEqProofs [-getElem?_pos, go_sem]) (by simp -dsimp -implicitDefEqProofs [-getElem?_pos, go_sem]) (by simp -dsimp -implicitDefEqProofs [-getElem?_pos, go_sem])
        · have d9 : decide (p.Warrant ∈ ws.take j) = false := decide_eq_false c9
          rw [d9, Bool.false_or] at em
          rw [d9] at t20
          simp -dsimp -implicitDefEqProofs [-getElem?_pos, go_sem, hP, t131, t129, hw', t20, wj, t19, hH, ep, ltp]
          exact fin _ (by rw [em]; simp -dsimp -implicitDefEqProofs [-getElem?_pos, go_sem]) (by simp -dsimp -implicitDefEqProofs [-getElem?_pos, go_sem]) (by simp -dsimp -implicitDefEqProofs [-getElem?_pos, go_sem]) (by simp -dsimp -implicitDefEqProofs [-getElem?_pos, go_sem]) (by simp -dsimp -implicitDefEqProofs [-getElem?_pos, go_sem]) (by simp -dsimp -implicitDefEqProofs [-getElem?_pos, go_sem]) (by simp -dsimp -implicitDefEqProofs [-getElem?_pos, go_sem]) (by simp -dsimp -implicitDefEqProofs [-getElem?_pos, go_sem]) (by simp -dsimp -implicitDefEqProofs [-getElem?_pos, go_sem]) (by simp -dsimp -implicitDefEqProofs [-getElem?_pos, go_sem]) (by simp -dsimp -implicitDefEqProofs [-getElem?_pos, go_sem]) (by simp -dsimp -implicitDefEqProofs [-getElem?_pos, go_sem]) (by simp -dsimp -implicitDefEqProofs [-getElem?_pos, go_sem]) (by simp -dsimp -implicitDefEqProofs [-getElem?_pos, go_sem]) (by simp -dsimp -implicitDefEqProofs [-getElem?_pos, go_sem]) (by simp -dsimp -implicitDefEqProofs [-getElem?_pos, go_sem, hH])
      have hj : j = ws.length := by simp at hh; omega
      subst hj
      rw [List.take_length] at t20
      have etk : decide (p.Warrant ∈ ws) = takenB ws p := rfl
      rw [etk] at t20
      cases ht : takenB ws p
      · rw [ht] at ny nz t20
        have nid : ¬ id = n := by omega
        simp -dsimp -implicitDefEqProofs [-getElem?_pos, go_sem, hP, t20, t17, t19, hH, ep, ltp, ei, nid, t125, wk]
        refine ⟨by omega, by omega, ?_⟩
        refine ⟨W.length - (k + 1), by omega, ?_⟩
        rw [hI]
        refine ⟨k + 1, n + 1, x, ys ++ [p], zs, by omega, rfl, ny.symm, nz.symm, by simp; omega, by omega, by omega, by simp -dsimp -implicitDefEqProofs [-getElem?_pos, go_sem, t1], by simp -dsimp -implicitDefEqProofs [-getElem?_pos, go_sem, t2], by simp -dsimp -implicitDefEqProofs [-getElem?_pos, go_sem, t3], by simp -dsimp -implicitDefEqProofs [-getElem?_pos, go_sem, t6], by simp -dsimp -implicitDefEqProofs [-getElem?_pos, go_sem, t7], by simp -dsimp -implicitDefEqProofs [-getElem?_pos, go_sem, t11], by simp -dsimp -implicitDefEqProofs [-getElem?_pos, go_sem, t123], by simp -dsimp -implicitDefEqProofs [-getElem?_pos, go_sem, t124], by simp -dsimp -implicitDefEqProofs [-getElem?_pos, go_sem], by simp -dsimp -implicitDefEqProofs [-getElem?_pos, go_sem, ll1], ?_, ?_, ?_, ?_, ?_, ?_⟩
        · dsimp only
          rw [List.getElem?_append_left (by simp; omega), List.getElem?_set_ne (by omega), e0]
        · dsimp only
          rw [List.getElem?_append_left (by simp; omega), List.getElem?_set_ne (by omega), e1]
        · dsimp only
          rw [List.getElem?_append_left (by simp; omega), List.getElem?_set_ne (by omega), e2]
        · dsimp only
          rw [List.getElem?_append_left (by simp; omega), List.getElem?_set_ne (by omega), e3]
        · dsimp only
          rw [List.getElem?_append_right (by simp; omega), ← encL_snoc]
          simp -dsimp -implicitDefEqProofs [-getElem?_pos, go_sem, ll1, cPy]
        · rcases hx with hx | ⟨jd, hj4, hji, rfl, hjo⟩
          · exact .inl hx
          · have hjo' := kk _ _ (by simp) hjo
            have ltj := (List.getElem?_eq_some_iff.1 hjo).1
            refine .inr ⟨jd, hj4, by omega, rfl, ?_⟩
            dsimp only
            rw [List.getElem?_append_left (by simp; omega), List.getElem?_set_ne (by omega), hjo']
      · rw [ht] at ny nz t20
        have l3 : 3 < H1.length := by omega
        have n3 : ¬ n = 3 := by omega
        rcases hx with ⟨rfl, hx⟩ | ⟨jd, hj4, hji, rfl, hjo⟩
        · rw [hx, List.nil_append] at nz
          simp -dsimp -implicitDefEqProofs [-getElem?_pos, go_sem, hP, t20, t19, t11, hH, ep, ltp, e3, t125, wk, l3]
          refine ⟨W.length - (k + 1), by omega, ?_⟩
          rw [hI]
          refine ⟨k + 1, id, .sref (n + 1) 0 1, ys, [p], by omega, rfl, ny.symm, nz.symm, by omega, by simp, by omega, by simp -dsimp -implicitDefEqProofs [-getElem?_pos, go_sem, t1], by simp -dsimp -implicitDefEqProofs [-getElem?_pos, go_sem, t2], by simp -dsimp -implicitDefEqProofs [-getElem?_pos, go_sem, t3], by simp -dsimp -implicitDefEqProofs [-getElem?_pos, go_sem, t6], by simp -dsimp -implicitDefEqProofs [-getElem?_pos, go_sem, t7], by simp -dsimp -implicitDefEqProofs [-getElem?_pos, go_sem, t11], by simp -dsimp -implicitDefEqProofs [-getElem?_pos, go_sem, t123], by simp -dsimp -implicitDefEqProofs [-getElem?_pos, go_sem, t124], by simp -dsimp -implicitDefEqProofs [-getElem?_pos, go_sem], by simp -dsimp -implicitDefEqProofs [-getElem?_pos, go_sem, t17], ?_, ?_, ?_, ?_, ?_, .inr ⟨n + 1, by omega, by omega, rfl, ?_⟩⟩
          · dsimp only
            rw [List.getElem?_append_left (by simp; omega)]
            repeat rw [List.getElem?_set_ne (by omega)]
            exact e0
          · dsimp only
            rw [List.getElem?_append_left (by simp; omega)]
            repeat rw [List.getElem?_set_ne (by omega)]
            exact e1
          · dsimp only
            rw [List.getElem?_append_left (by simp; omega)]
            repeat rw [List.getElem?_set_ne (by omega)]
            exact e2
          · dsimp only
            rw [List.getElem?_append_left (by simp; omega), List.getElem?_set_self (by omega), ll1]
          · dsimp only
            rw [List.getElem?_append_left (by simp; omega)]
            repeat rw [List.getElem?_set_ne (by omega)]
            exact ei
          · dsimp only
            rw [List.getElem?_append_right (by simp; omega)]
            show _ = some (some (⟨34, 5, [p.cells]⟩ : AObj))
            simp -dsimp -implicitDefEqProofs [-getElem?_pos, go_sem, ll1, cPy]
        · have hjo' := kk _ _ (by simp) hjo
          have ltj := (List.getElem?_eq_some_iff.1 hjo).1
          have ltj1 := (List.getElem?_eq_some_iff.1 hjo').1
          have nj3 : ¬ jd = 3 := by omega
          have nj3' : ¬ 3 = jd := by omega
          simp -dsimp -implicitDefEqProofs [-getElem?_pos, go_sem, hP, t20, t19, t11, hH, ep, ltp, e3, t125, wk, hjo', ltj1, nj3, nj3', l3]
          refine ⟨by omega, by omega, ?_⟩
          refine ⟨W.length - (k + 1), by omega, ?_⟩
          rw [hI]
          refine ⟨k + 1, id, .sref (n + 1) 0 (zs.length + 1), ys, (zs ++ [p]), by omega, rfl, ny.symm, nz.symm, by omega, by rw [List.length_append]; simp; omega, by omega, by simp -dsimp -implicitDefEqProofs [-getElem?_pos, go_sem, t1], by simp -dsimp -implicitDefEqProofs [-getElem?_pos, go_sem, t2], by simp -dsimp -implicitDefEqProofs [-getElem?_pos, go_sem, t3], by simp -dsimp -implicitDefEqProofs [-getElem?_pos, go_sem, t6], by simp -dsimp -implicitDefEqProofs [-getElem?_pos, go_sem, t7], by simp -dsimp -implicitDefEqProofs [-getElem?_pos, go_sem, t11], by simp -dsimp -implicitDefEqProofs [-getElem?_pos, go_sem, t123], by simp -dsimp -implicitDefEqProofs [-getElem?_pos, go_sem, t124], by simp -dsimp -implicitDefEqProofs [-getElem?_pos, go_sem], by simp -dsimp -implicitDefEqProofs [-getElem?_pos, go_sem, t17], ?_, ?_, ?_, ?_, ?_, .inr ⟨n + 1, by omega, by omega, by rw [List.length_append]; rfl, ?_⟩⟩
          · dsimp only
            rw [List.getElem?_append_left (by simp; omega)]
            repeat rw [List.getElem?_set_ne (by omega)]
            exact e0
          · dsimp only
            rw [List.getElem?_append_left (by simp; omega)]
            repeat rw [List.getElem?_set_ne (by omega)]
            exact e1
          · dsimp only
            rw [List.getElem?_append_left (by simp; omega)]
            repeat rw [List.getElem?_set_ne (by omega)]
            exact e2
          · dsimp only
            rw [List.getElem?_append_left (by simp; omega), List.getElem?_set_self (by simp; omega), ll1]
          · dsimp only
            rw [List.getElem?_append_left (by simp; omega)]
            repeat rw [List.getElem?_set_ne (by omega)]
            exact ei
          · dsimp only
            rw [List.getElem?_append_right (by simp; omega)]
            rw [← encL_snoc]
            simp -dsimp -implicitDefEqProofs [-getElem?_pos, go_sem, ll1, cPy]
    simp -dsimp -implicitDefEqProofs [-getElem?_pos, go_sem, hP, t2]
    obtain ⟨I, hI⟩ : ∃ I : Nat → St → Prop, I = fun m s => ∃ (k : Nat), k ≤ ws.length ∧ m = ws.length - k ∧ (ws.take k).Nodup ∧ (∀ w, w ∈ ws.take k → ∃ p, p ∈ q.Waiting ∧ p.Warrant = w ∧ p.Due ≤ day) ∧ s.t 1 = iv day ∧ s.t 2 = .list 1 (ws.map fun x => [iv x]) ∧ s.t 3 = .ref 0 0 0 ∧ s.t 6 = .ref 1 0 0 ∧ s.t 7 = .ref 2 0 0 ∧ s.t 11 = .ref 3 0 0 ∧ s.t 83 = .list 1 (ws.map fun x => [iv x]) ∧ s.t 84 = iv ws.length ∧ s.t 85 = iv k ∧ s.H = [some ⟨28, 3, [[paysL q.Waiting, .list 1 (q.Known.map fun x => [iv x]), batsL q.Batches]]⟩, some ⟨28, 3, [[.nil, .nil, .nil]]⟩, some ⟨45, 3, [[iv 0, iv 0, .nil]]⟩, some ⟨45, 3, [[iv ((q.Batches.length : Int) + 1), iv day, .nil]]⟩] := ⟨_, rfl⟩
    refine aloop0 I (ws.length) (by rw [hN]; rfl) ?_ ?_
    · rw [hI]
      exact ⟨0, by omega, by omega, by simp, by simp, by simp -dsimp -implicitDefEqProofs [-getElem?_pos, go_sem, t1], by simp -dsimp -implicitDefEqProofs [-getElem?_pos, go_sem, t2], by simp -dsimp -implicitDefEqProofs [-getElem?_pos, go_sem, t3], by simp -dsimp -implicitDefEqProofs [-getElem?_pos, go_sem, t6], by simp -dsimp -implicitDefEqProofs [-getElem?_pos, go_sem, t7], by simp -dsimp -implicitDefEqProofs [-getElem?_pos, go_sem], by simp -dsimp -implicitDefEqProofs [-getElem?_pos, go_sem], by simp -dsimp -implicitDefEqProofs [-getElem?_pos, go_sem], by simp -dsimp -implicitDefEqProofs [-getElem?_pos, go_sem], by simp -dsimp -implicitDefEqProofs [-getElem?_pos, go_sem]⟩
    clear t1 t2 t3 t6 t7 t10 hH
    intro m s hs'
    rw [hI] at hs'
    obtain ⟨k, hk, hm, hnd, hall, t1, t2, t3, t6, t7, t11, t83, t84, t85, hH⟩ := hs'
    simp -dsimp -implicitDefEqProofs [-getElem?_pos, go_sem, hP, t84, t85]
    refine condP (fun hh => ?_) (fun hh => ?_)
    rotate_left
    · have hk : k = ws.length := by simp at hh; omega
      subst hk
      rw [List.take_length] at hnd hall
      simp -dsimp -implicitDefEqProofs [-getElem?_pos, go_sem, hP]
      refine ⟨_, Weaker.refl _, ?_⟩
      rw [hInv1]
      exact ⟨dueB_iff.2 ⟨hnd, hall⟩, by simp -dsimp -implicitDefEqProofs [-getElem?_pos, go_sem, t1], by simp -dsimp -implicitDefEqProofs [-getElem?_pos, go_sem, t2], by simp -dsimp -implicitDefEqProofs [-getElem?_pos, go_sem, t3], by simp -dsimp -implicitDefEqProofs [-getElem?_pos, go_sem, t6], by simp -dsimp -implicitDefEqProofs [-getElem?_pos, go_sem, t7], by simp -dsimp -implicitDefEqProofs [-getElem?_pos, go_sem, t11], by simp -dsimp -implicitDefEqProofs [-getElem?_pos, go_sem, hH]⟩
    have hk : k < ws.length := by simpa using hh
    obtain ⟨w, hw'⟩ : ∃ w, ws[k]? = some w := ⟨_, List.getElem?_eq_getElem hk⟩
    have wk := wrap_in ((k : Int) + 1) (by omega)
    have wt := rwaits_pf q w (by omega)
    rw [cQu] at wt
    simp only [intsL] at wt
    simp -dsimp -implicitDefEqProofs [-getElem?_pos, go_sem, hP, t85, t83, hw', t3, hH]
    refine callB_is (wt.lift _ _) hP en_62 (by simpa [imm_sc] using iq) .sc ?_
    by_cases c7 : waitQ q w < 0
    · have d7 : decide (waitQ q w < 0) = true := decide_eq_true c7
      have := f6 (Bool.eq_false_iff.2 fun h => by
        obtain ⟨p, hp, e, _⟩ := (dueB_iff.1 h).2 w (List.mem_of_getElem? hw')
        exact waitQ_none.1 c7 p hp e)
      simp -dsimp -implicitDefEqProofs [-getElem?_pos, go_sem, hP, d7, t6, t7, hH]
      refine done_zeroQ3 ?_
      rw [this]; rfl
    have d7 : decide (waitQ q w < 0) = false := decide_eq_false c7
    obtain ⟨i, p, hi, hip, hpw, hil⟩ := waitQ_some c7
    have d7' := d7
    rw [hi] at d7'
    by_cases c8 : day < p.Due
    · have d8 : decide (day < p.Due) = true := decide_eq_true c8
      have := f6 (Bool.eq_false_iff.2 fun h => by
        obtain ⟨p', hp', e, hd⟩ := (dueB_iff.1 h).2 w (List.mem_of_getElem? hw')
        have := uniqW hq.asc.nd hp' (List.mem_of_getElem? hip) (e.trans hpw.symm)
        subst this
        omega)
      simp -dsimp -implicitDefEqProofs [-getElem?_pos, go_sem, hP, hi, d7', t6, t7, hH, t3, hip, cPy, t1, d8]
      refine done_zeroQ3 ?_
      rw [this]; rfl
    have d8 : decide (day < p.Due) = false := decide_eq_false c8
    obtain ⟨T, hT⟩ : ∃ T, T = ws.take k := ⟨_, rfl⟩
    have g1 : (ws.map fun x => [iv x]).take k = T.map fun x => [iv x] := by rw [hT, List.map_take]
    have hk' : k ≤ ws.length := by omega
    have lk : T.length = k := by rw [hT, List.length_take]; omega
    simp -dsimp -implicitDefEqProofs [-getElem?_pos, go_sem, hP, hi, d7', hH, t3, hip, cPy, t1, d8, t2, asliceOp, bound, aslice, hk', g1, lk]
    obtain ⟨J, hJ⟩ : ∃ I : Nat → St → Prop, I = fun m s => ∃ (j : Nat), j ≤ k ∧ m = k - j ∧ (∀ x, x ∈ T.take j → x ≠ w) ∧ s.t 1 = iv day ∧ s.t 2 = .list 1 (ws.map fun x => [iv x]) ∧ s.t 3 = .ref 0 0 0 ∧ s.t 6 = .ref 1 0 0 ∧ s.t 7 = .ref 2 0 0 ∧ s.t 11 = .ref 3 0 0 ∧ s.t 13 = iv w ∧ s.t 83 = .list 1 (ws.map fun x => [iv x]) ∧ s.t 84 = iv ws.length ∧ s.t 85 = iv k ∧ s.t 109 = .list 1 (T.map fun x => [iv x]) ∧ s.t 110 = iv k ∧ s.t 111 = iv j ∧ s.H = [some ⟨28, 3, [[paysL q.Waiting, .list 1 (q.Known.map fun x => [iv x]), batsL q.Batches]]⟩, some ⟨28, 3, [[.nil, .nil, .nil]]⟩, some ⟨45, 3, [[iv 0, iv 0, .nil]]⟩, some ⟨45, 3, [[iv ((q.Batches.length : Int) + 1), iv day, .nil]]⟩] := ⟨_, rfl⟩
    refine aloop0 J (k) (by rw [hN]; rfl) ?_ ?_
    · rw [hJ]
      exact ⟨0, by omega, by omega, by simp, by simp -dsimp -implicitDefEqProofs [-getElem?_pos, go_sem, t1], by simp -dsimp -implicitDefEqProofs [-getElem?_pos, go_sem, t2], by simp -dsimp -implicitDefEqProofs [-getElem?_pos, go_sem, t3], by simp -dsimp -implicitDefEqProofs [-getElem?_pos, go_sem, t6], by simp -dsimp -implicitDefEqProofs [-getElem?_pos, go_sem, t7], by simp -dsimp -implicitDefEqProofs [-getElem?_pos, go_sem, t11], by simp -dsimp -implicitDefEqProofs [-getElem?_pos, go_sem], by simp -dsimp -implicitDefEqProofs [-getElem?_pos, go_sem, t83], by simp -dsimp -implicitDefEqProofs [-getElem?_pos, go_sem, t84], by simp -dsimp -implicitDefEqProofs [-getElem?_pos, go_sem, t85], by simp -dsimp -implicitDefEqProofs [-getElem?_pos, go_sem], by simp -dsimp -implicitDefEqProofs [-getElem?_pos, go_sem, lk], by simp -dsimp -implicitDefEqProofs [-getElem?_pos, go_sem], by simp -dsimp -implicitDefEqProofs [-getElem?_pos, go_sem, hH]⟩
    clear t1 t2 t3 t6 t7 t11 t83 t84 t85 hH
    intro m s hs'
    rw [hJ] at hs'
    obtain ⟨j, hj, hm, hne, t1, t2, t3, t6, t7, t11, t13, t83, t84, t85, t109, t110, t111, hH⟩ := hs'
    simp -dsimp -implicitDefEqProofs [-getElem?_pos, go_sem, hP, t110, t111]
    refine condP (fun hh => ?_) (fun hh => ?_)
    · have hj : j < k := by simpa using hh
      obtain ⟨x, hx⟩ : ∃ x, T[j]? = some x := ⟨_, List.getElem?_eq_getElem (by omega)⟩
      have wj := wrap_in ((j : Int) + 1) (by omega)
      by_cases c9 : x = w
      · have d9 : decide (x = w) = true := decide_eq_true c9
        have := f6 (Bool.eq_false_iff.2 fun h => by
          have hn := (dueB_iff.1 h).1
          have e1 : (ws.take (k + 1)).Nodup := hn.sublist (List.take_sublist _ _)
          rw [take_at hw', ← hT, List.nodup_append] at e1
          exact e1.2.2 x (List.mem_of_getElem? hx) w (by simp) c9)
        simp -dsimp -implicitDefEqProofs [-getElem?_pos, go_sem, hP, t111, t109, hx, t13, d9, c9, t6, t7, hH]
        refine done_zeroQ3 ?_
        rw [this]; rfl
      · have d9 : decide (x = w) = false := decide_eq_false c9
        simp -dsimp -implicitDefEqProofs [-getElem?_pos, go_sem, hP, t111, t109, hx, t13, d9, c9, wj]
        refine ⟨k - (j + 1), by omega, ?_⟩
        rw [hJ]
        refine ⟨j + 1, by omega, rfl, ?_, by simp -dsimp -implicitDefEqProofs [-getElem?_pos, go_sem, t1], by simp -dsimp -implicitDefEqProofs [-getElem?_pos, go_sem, t2], by simp -dsimp -implicitDefEqProofs [-getElem?_pos, go_sem, t3], by simp -dsimp -implicitDefEqProofs [-getElem?_pos, go_sem, t6], by simp -dsimp -implicitDefEqProofs [-getElem?_pos, go_sem, t7], by simp -dsimp -implicitDefEqProofs [-getElem?_pos, go_sem, t11], by simp -dsimp -implicitDefEqProofs [-getElem?_pos, go_sem, t13], by simp -dsimp -implicitDefEqProofs [-getElem?_pos, go_sem, t83], by simp -dsimp -implicitDefEqProofs [-getElem?_pos, go_sem, t84], by simp -dsimp -implicitDefEqProofs [-getElem?_pos, go_sem, t85], by simp -dsimp -implicitDefEqProofs [-getElem?_pos, go_sem, t109], by simp -dsimp -implicitDefEqProofs [-getElem?_pos, go_sem, t110], by simp -dsimp -implicitDefEqProofs [-getElem?_pos, go_sem], by simp -dsimp -implicitDefEqProofs [-getElem?_pos, go_sem, hH]⟩
        intro y hy
        rw [take_at hx] at hy
        rcases List.mem_append.1 hy with hy | hy
        · exact hne y hy
        · simp at hy; subst hy; exact c9
    · have hj : j = k := by simp at hh; omega
      subst hj
      rw [List.take_of_length_le (by omega)] at hne
      simp -dsimp -implicitDefEqProofs [-getElem?_pos, go_sem, hP, t85, wk]
      refine ⟨ws.length - (j + 1), by omega, ?_⟩
      rw [hI]
      refine ⟨j + 1, by omega, rfl, ?_, ?_, by simp -dsimp -implicitDefEqProofs [-getElem?_pos, go_sem, t1], by simp -dsimp -implicitDefEqProofs [-getElem?_pos, go_sem, t2], by simp -dsimp -implicitDefEqProofs [-getElem?_pos, go_sem, t3], by simp -dsimp -implicitDefEqProofs [-getElem?_pos, go_sem, t6], by simp -dsimp -implicitDefEqProofs [-getElem?_pos, go_sem, t7], by simp -dsimp -implicitDefEqProofs [-getElem?_pos, go_sem, t11], by simp -dsimp -implicitDefEqProofs [-getElem?_pos, go_sem, t83], by simp -dsimp -implicitDefEqProofs [-getElem?_pos, go_sem, t84], by simp -dsimp -implicitDefEqProofs [-getElem?_pos, go_sem], by simp -dsimp -implicitDefEqProofs [-getElem?_pos, go_sem, hH]⟩
      · rw [take_at hw', ← hT, List.nodup_append]
        refine ⟨hT ▸ hnd, by simp, fun a ha b hb => ?_⟩
        simp at hb
        subst hb
        exact hne a ha
      · intro y hy
        rw [take_at hw'] at hy
        rcases List.mem_append.1 hy with hy | hy
        · exact hall y hy
        · simp at hy; subst hy
          exact ⟨p, List.mem_of_getElem? hip, hpw, by omega⟩
  have bad66 : busB day = false → takeQ q day ws = (zeroQ, zeroB, 66) := fun c2 => by rw [takeQ, if_pos c1, if_neg (by simp [c2])]
  by_cases c2a : day < 0
  · have d2 : decide (day < 0) = true := decide_eq_true c2a
    have := bad66 (by rw [busB, amg_no (by omega)]; rfl)
    simp -dsimp -implicitDefEqProofs [-getElem?_pos, go_sem, hP, d2]
    refine done_zeroQ3 ?_
    rw [this]; rfl
  have d2a : decide (day < 0) = false := decide_eq_false c2a
  by_cases c2b : 36000 < day
  · have d2 : decide (36000 < day) = true := decide_eq_true c2b
    have := bad66 (by rw [busB, amg_no (by omega)]; rfl)
    simp -dsimp -implicitDefEqProofs [-getElem?_pos, go_sem, hP, d2a, d2]
    refine done_zeroQ3 ?_
    rw [this]; rfl
  have d2b : decide (36000 < day) = false := decide_eq_false c2b
  simp -dsimp -implicitDefEqProofs [-getElem?_pos, go_sem, hP, d2a, d2b]
  refine callB_is ((r02business_pf day).lift _ _) hP en_60 (by simp [imm_sc]) .sc ?_
  cases c2 : busB day
  · have := bad66 c2
    simp -dsimp -implicitDefEqProofs [-getElem?_pos, go_sem, hP, c2]
    refine done_zeroQ3 ?_
    rw [this]; rfl
  have c7 : ∀ P : Prop, (q.Batches.length = 0 → day < lastQ q → False) := fun _ h1 h2 => by
    have : q.Batches = [] := List.eq_nil_of_length_eq_zero h1
    rw [lastQ, this] at h2
    simp at h2
    omega
  by_cases c3 : day < lastQ q
  · have : takeQ q day ws = (zeroQ, zeroB, 8) := by rw [takeQ, if_pos c1, if_pos c2, if_pos c3]
    have hpos : ¬ q.Batches.length = 0 := fun h => c7 True h c3
    obtain ⟨b, hlast⟩ : ∃ b, q.Batches.getLast? = some b := ⟨_, List.getLast?_eq_some_getLast (by intro h; simp [h] at hpos)⟩
    have l0 : lastQ q = b.Day := by rw [lastQ, hlast]
    have hb : q.Batches[q.Batches.length - 1]? = some b := by rw [← List.getLast?_eq_getElem?]; exact hlast
    have d0 : decide ((0 : Int) < (q.Batches.length : Int)) = true := decide_eq_true (by omega)
    have w1 : IntKind.i64.wrap ((q.Batches.length : Int) - 1) = ((q.Batches.length - 1 : Nat) : Int) := by rw [wrap_in _ (by omega)]; omega
    have d3 : decide (day < b.Day) = true := decide_eq_true (by omega)
    have hp0 : 0 < q.Batches.length := by omega
    simp -dsimp -implicitDefEqProofs [-getElem?_pos, go_sem, hP, c2, d0, w1, hb, cBt, d3, hp0]
    refine done_zeroQ3 ?_
    rw [this]; rfl
  by_cases c0 : q.Batches.length = 0
  · have d0 : decide ((0 : Int) < (q.Batches.length : Int)) = false := decide_eq_false (by omega)
    have d0n : decide (0 < q.Batches.length) = false := decide_eq_false (by omega)
    by_cases c4 : ws.length = 0
    · have d4 : decide ((ws.length : Int) = 0) = true := decide_eq_true (by omega)
      have : takeQ q day ws = (zeroQ, zeroB, 10) := by rw [takeQ, if_pos c1, if_pos c2, if_neg c3, if_pos c4]
      simp -dsimp -implicitDefEqProofs [-getElem?_pos, go_sem, hP, c2, d0, d0n, d4, c4]
      refine done_zeroQ3 ?_
      rw [this]; rfl
    have d4 : decide ((ws.length : Int) = 0) = false := decide_eq_false (by omega)
    by_cases c5 : 10 < ws.length
    · have d5 : decide ((10 : Int) < (ws.length : Int)) = true := decide_eq_true (by omega)
      have : takeQ q day ws = (zeroQ, zeroB, 3) := by rw [takeQ, if_pos c1, if_pos c2, if_neg c3, if_neg c4, if_pos (.inl c5)]
      simp -dsimp -implicitDefEqProofs [-getElem?_pos, go_sem, hP, c2, d0, d0n, d4, c4, d5]
      refine done_zeroQ3 ?_
      rw [this]; rfl
    have d5 : decide ((10 : Int) < (ws.length : Int)) = false := decide_eq_false (by omega)
    by_cases c6 : 200 ≤ q.Batches.length
    · have d6 : decide ((200 : Int) ≤ (q.Batches.length : Int)) = true := decide_eq_true (by omega)
      have : takeQ q day ws = (zeroQ, zeroB, 3) := by rw [takeQ, if_pos c1, if_pos c2, if_neg c3, if_neg c4, if_pos (.inr c6)]
      simp -dsimp -implicitDefEqProofs [-getElem?_pos, go_sem, hP, c2, d0, d0n, d4, c4, d5, d6]
      refine done_zeroQ3 ?_
      rw [this]; rfl
    have d6 : decide ((200 : Int) ≤ (q.Batches.length : Int)) = false := decide_eq_false (by omega)
    simp -dsimp -implicitDefEqProofs [-getElem?_pos, go_sem, hP, c2, d0, d0n, d4, c4, d5, d6]
    refine ⟨_, Weaker.refl _, ?_⟩
    rw [hInv]
    exact ⟨c2, c3, c4, c5, c6, by simp -dsimp -implicitDefEqProofs [-getElem?_pos, go_sem], by simp -dsimp -implicitDefEqProofs [-getElem?_pos, go_sem], by simp -dsimp -implicitDefEqProofs [-getElem?_pos, go_sem], by simp -dsimp -implicitDefEqProofs [-getElem?_pos, go_sem], by simp -dsimp -implicitDefEqProofs [-getElem?_pos, go_sem], by simp -dsimp -implicitDefEqProofs [-getElem?_pos, go_sem], rfl⟩
  · obtain ⟨b, hlast⟩ : ∃ b, q.Batches.getLast? = some b := ⟨_, List.getLast?_eq_some_getLast (by intro h; simp [h] at c0)⟩
    have l0 : lastQ q = b.Day := by rw [lastQ, hlast]
    have hb : q.Batches[q.Batches.length - 1]? = some b := by rw [← List.getLast?_eq_getElem?]; exact hlast
    have d0 : decide ((0 : Int) < (q.Batches.length : Int)) = true := decide_eq_true (by omega)
    have w1 : IntKind.i64.wrap ((q.Batches.length : Int) - 1) = ((q.Batches.length - 1 : Nat) : Int) := by rw [wrap_in _ (by omega)]; omega
    have d3 : decide (day < b.Day) = false := decide_eq_false (by omega)
    have hp0 : 0 < q.Batches.length := by omega
    by_cases c4 : ws.length = 0
    · have d4 : decide ((ws.length : Int) = 0) = true := decide_eq_true (by omega)
      have : takeQ q day ws = (zeroQ, zeroB, 10) := by rw [takeQ, if_pos c1, if_pos c2, if_neg c3, if_pos c4]
      simp -dsimp -implicitDefEqProofs [-getElem?_pos, go_sem, hP, c2, d0, w1, hb, cBt, d3, hp0, d4, c4]
      refine done_zeroQ3 ?_
      rw [this]; rfl
    have d4 : decide ((ws.length : Int) = 0) = false := decide_eq_false (by omega)
    by_cases c5 : 10 < ws.length
    · have d5 : decide ((10 : Int) < (ws.length : Int)) = true := decide_eq_true (by omega)
      have : takeQ q day ws = (zeroQ, zeroB, 3) := by rw [takeQ, if_pos c1, if_pos c2, if_neg c3, if_neg c4, if_pos (.inl c5)]
      simp -dsimp -implicitDefEqProofs [-getElem?_pos, go_sem, hP, c2, d0, w1, hb, cBt, d3, hp0, d4, c4, d5]
      refine done_zeroQ3 ?_
      rw [this]; rfl
    have d5 : decide ((10 : Int) < (ws.length : Int)) = false := decide_eq_false (by omega)
    by_cases c6 : 200 ≤ q.Batches.length
    · have d6 : decide ((200 : Int) ≤ (q.Batches.length : Int)) = true := decide_eq_true (by omega)
      have : takeQ q day ws = (zeroQ, zeroB, 3) := by rw [takeQ, if_pos c1, if_pos c2, if_neg c3, if_neg c4, if_pos (.inr c6)]
      simp -dsimp -implicitDefEqProofs [-getElem?_pos, go_sem, hP, c2, d0, w1, hb, cBt, d3, hp0, d4, c4, d5, d6]
      refine done_zeroQ3 ?_
      rw [this]; rfl
    have d6 : decide ((200 : Int) ≤ (q.Batches.length : Int)) = false := decide_eq_false (by omega)
    simp -dsimp -implicitDefEqProofs [-getElem?_pos, go_sem, hP, c2, d0, w1, hb, cBt, d3, hp0, d4, c4, d5, d6]
    refine ⟨_, Weaker.refl _, ?_⟩
    rw [hInv]
    exact ⟨c2, c3, c4, c5, c6, by simp -dsimp -implicitDefEqProofs [-getElem?_pos, go_sem], by simp -dsimp -implicitDefEqProofs [-getElem?_pos, go_sem], by simp -dsimp -implicitDefEqProofs [-getElem?_pos, go_sem], by simp -dsimp -implicitDefEqProofs [-getElem?_pos, go_sem], by simp -dsimp -implicitDefEqProofs [-getElem?_pos, go_sem], by simp -dsimp -implicitDefEqProofs [-getElem?_pos, go_sem], rfl⟩
end Go.Proofs.Ytmpncdlhmknkoaa
