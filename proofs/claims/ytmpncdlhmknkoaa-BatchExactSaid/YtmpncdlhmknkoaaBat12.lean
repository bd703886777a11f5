/- Queues: the program's Take. -/
import Derived.Test.YtmpncdlhmknkoaaBat11
set_option linter.unusedSimpArgs false
set_option linter.unusedVariables false
namespace Go.Proofs.Ytmpncdlhmknkoaa
open Go.PA
open Go.RowKit

@[go_sem] theorem fze : zeros Try.prog 60 = some [.sc .nilFunc] := by kernel_rfl

set_option maxHeartbeats 4000000 in
theorem btake_pf (q : TQueue) (day : Int) (ws : List Int) (hf : FitQ q) (hw : ws.length ≤ 100000) : PFun Try.prog none none 18 [.agg q.cells, iv day, intsL ws] (· = .tup [.agg (takeQ q day ws).1.cells, .agg (takeQ q day ws).2.1.cells, iv (takeQ q day ws).2.2]) := by
  refine pfun_introA Try.func18 rfl (by simp [Try.f18]) ?_
  intro E hP hr hs hW hN
  have ck := bcheck_pf q hf
  have iq := imm_que q
  have ip := imm_pays q.Waiting
  have i2 := imm_ints q.Known
  have i3 := imm_bats q.Batches
  have iw := imm_ints ws
  have lb := hf.b
  rw [cQu] at ck iq
  simp only [intsL] at i2 ck iq iw
  refine awp_cut (by rw [hN]; kernel_rfl) ?_
  simp -dsimp -implicitDefEqProofs [-getElem?_pos, go_sem, hP, cQu, intsL]
  refine awp_cut (by rw [hN]; kernel_rfl) ?_
  simp -dsimp -implicitDefEqProofs [-getElem?_pos, go_sem, hP]
  refine callB_is (ck.lift _ _) hP en_10 (by simpa using iq) .sc ?_
  by_cases c1 : checkQ q = 0
  rotate_left
  · have : takeQ q day ws = (zeroQ, zeroB, checkQ q) := by rw [takeQ, if_neg c1]
    simp -dsimp -implicitDefEqProofs [-getElem?_pos, go_sem, hP, c1]
    refine done_zeroQ3 ?_
    rw [this]; rfl
  have hq := checkQ_iff.1 c1
  simp -dsimp -implicitDefEqProofs [-getElem?_pos, go_sem, hP, c1]
  refine awp_cut (by rw [hN]; kernel_rfl) ?_
  simp -dsimp -implicitDefEqProofs [-getElem?_pos, go_sem, hP]
  obtain ⟨Inv, hInv⟩ : ∃ Inv : St → Prop, Inv = fun s => s.t 1 = iv day ∧ s.t 3 = .ref 0 0 0 ∧ s.t 5 = .ref 1 0 0 ∧ s.t 6 = .ref 2 0 0 ∧ s.t 7 = .ref 3 0 0 ∧ s.t 10 = iv (lastQ q) ∧ s.H = [some ⟨28, 3, [[paysL q.Waiting, .list 1 (q.Known.map fun x => [iv x]), batsL q.Batches]]⟩, some ⟨22, 1, [[.list 1 (ws.map fun x => [iv x])]]⟩, some ⟨28, 3, [[.nil, .nil, .nil]]⟩, some ⟨45, 3, [[iv 0, iv 0, .nil]]⟩] := ⟨_, rfl⟩
  refine awp_join Inv (by rw [hN]; kernel_rfl) ?_ ?_
  · cases hlast : q.Batches.getLast? with
    | none =>
      have hnil : q.Batches = [] := by simpa using hlast
      have l0 : lastQ q = 0 := by rw [lastQ, hlast]
      simp -dsimp -implicitDefEqProofs [-getElem?_pos, go_sem, hP, hnil]
      refine ⟨_, Weaker.refl _, ?_⟩
      rw [hInv]
      exact ⟨by simp -dsimp -implicitDefEqProofs [-getElem?_pos, go_sem], by simp -dsimp -implicitDefEqProofs [-getElem?_pos, go_sem], by simp -dsimp -implicitDefEqProofs [-getElem?_pos, go_sem], by simp -dsimp -implicitDefEqProofs [-getElem?_pos, go_sem], by simp -dsimp -implicitDefEqProofs [-getElem?_pos, go_sem], by simp -dsimp -implicitDefEqProofs [-getElem?_pos, go_sem, l0], by rw [hnil]⟩
    | some b =>
      have l0 : lastQ q = b.Day := by rw [lastQ, hlast]
      have hpos : 0 < q.Batches.length := by
        cases h : q.Batches with
        | nil => simp [h] at hlast
        | cons _ _ => simp
      have hb : q.Batches[q.Batches.length - 1]? = some b := by rw [← List.getLast?_eq_getElem?]; exact hlast
      have d0 : decide ((0 : Int) < (q.Batches.length : Int)) = true := decide_eq_true (by omega)
      have w1 : IntKind.i64.wrap ((q.Batches.length : Int) - 1) = ((q.Batches.length - 1 : Nat) : Int) := by rw [wrap_in _ (by omega)]; omega
      simp -dsimp -implicitDefEqProofs [-getElem?_pos, go_sem, hP, d0, hpos]
      simp -dsimp -implicitDefEqProofs [-getElem?_pos, go_sem, hP, w1, hb, cBt]
      refine ⟨_, Weaker.refl _, ?_⟩
      rw [hInv]
      exact ⟨by simp -dsimp -implicitDefEqProofs [-getElem?_pos, go_sem], by simp -dsimp -implicitDefEqProofs [-getElem?_pos, go_sem], by simp -dsimp -implicitDefEqProofs [-getElem?_pos, go_sem], by simp -dsimp -implicitDefEqProofs [-getElem?_pos, go_sem], by simp -dsimp -implicitDefEqProofs [-getElem?_pos, go_sem], by simp -dsimp -implicitDefEqProofs [-getElem?_pos, go_sem, l0], rfl⟩
  intro s hs'
  rw [hInv] at hs'
  obtain ⟨t1, t3, t5, t6, t7, t10, hH⟩ := hs'
  refine awp_cut (by rw [hN]; kernel_rfl) ?_
  simp -dsimp -implicitDefEqProofs [-getElem?_pos, go_sem, hP, t1]
  refine callB_is ((cbusiness_pf day).lift _ _) hP en_52 (by simp [imm_sc]) .sc ?_
  cases c2 : busB day
  · have : takeQ q day ws = (zeroQ, zeroB, 66) := by rw [takeQ, if_pos c1, if_neg (by simp [c2])]
    simp -dsimp -implicitDefEqProofs [-getElem?_pos, go_sem, hP, c2, t6, t7, hH]
    refine done_zeroQ3 ?_
    rw [this]; rfl
  by_cases c3 : day < lastQ q
  · have d3 : decide (day < lastQ q) = true := decide_eq_true c3
    have : takeQ q day ws = (zeroQ, zeroB, 8) := by rw [takeQ, if_pos c1, if_pos c2, if_pos c3]
    simp -dsimp -implicitDefEqProofs [-getElem?_pos, go_sem, hP, c2, t6, t7, hH, t1, t10, d3]
    refine done_zeroQ3 ?_
    rw [this]; rfl
  have d3 : decide (day < lastQ q) = false := decide_eq_false c3
  by_cases c4 : ws.length = 0
  · have d4 : decide ((ws.length : Int) = 0) = true := decide_eq_true (by omega)
    have : takeQ q day ws = (zeroQ, zeroB, 10) := by rw [takeQ, if_pos c1, if_pos c2, if_neg c3, if_pos c4]
    simp -dsimp -implicitDefEqProofs [-getElem?_pos, go_sem, hP, c2, t6, t7, hH, t1, t10, d3, t5, c4]
    refine done_zeroQ3 ?_
    rw [this]; rfl
  have d4 : decide ((ws.length : Int) = 0) = false := decide_eq_false (by omega)
  by_cases c5 : 10 < ws.length
  · have d5 : decide ((10 : Int) < (ws.length : Int)) = true := decide_eq_true (by omega)
    have : takeQ q day ws = (zeroQ, zeroB, 3) := by rw [takeQ, if_pos c1, if_pos c2, if_neg c3, if_neg c4, if_pos (.inl c5)]
    simp -dsimp -implicitDefEqProofs [-getElem?_pos, go_sem, hP, c2, t6, t7, hH, t1, t10, d3, t5, t3, c4, d4, d5]
    refine done_zeroQ3 ?_
    rw [this]; rfl
  have d5 : decide ((10 : Int) < (ws.length : Int)) = false := decide_eq_false (by omega)
  by_cases c6 : 200 ≤ q.Batches.length
  · have d6 : decide ((200 : Int) ≤ (q.Batches.length : Int)) = true := decide_eq_true (by omega)
    have : takeQ q day ws = (zeroQ, zeroB, 3) := by rw [takeQ, if_pos c1, if_pos c2, if_neg c3, if_neg c4, if_pos (.inr c6)]
    simp -dsimp -implicitDefEqProofs [-getElem?_pos, go_sem, hP, c2, t6, t7, hH, t1, t10, d3, t5, t3, c4, d4, d5, d6]
    refine done_zeroQ3 ?_
    rw [this]; rfl
  have d6 : decide ((200 : Int) ≤ (q.Batches.length : Int)) = false := decide_eq_false (by omega)
  simp -dsimp -implicitDefEqProofs [-getElem?_pos, go_sem, hP, c2, t6, t7, hH, t1, t10, d3, t5, t3, c4, d4, d5, d6]
  refine awp_cut (by rw [hN]; kernel_rfl) ?_
  simp -dsimp -implicitDefEqProofs [-getElem?_pos, go_sem, hP, t5, hH]
  refine awp_cut (by rw [hN]; kernel_rfl) ?_
  obtain ⟨H2, hH2⟩ : ∃ H2 : Heap, H2 = [some ⟨28, 3, [[paysL q.Waiting, .list 1 (q.Known.map fun x => [iv x]), batsL q.Batches]]⟩, some ⟨22, 1, [[.list 1 (ws.map fun x => [iv x])]]⟩, some ⟨28, 3, [[.nil, .nil, .nil]]⟩, some ⟨45, 3, [[iv 0, iv 0, .nil]]⟩, some ⟨60, 1, [[.fn 53 [.ref 1 0 0]]]⟩] := ⟨_, rfl⟩
  have b0 : H2[0]? = some (some ⟨28, 3, [[paysL q.Waiting, .list 1 (q.Known.map fun x => [iv x]), batsL q.Batches]]⟩) := by rw [hH2]; rfl
  have b1 : H2[1]? = some (some ⟨22, 1, [[intsL ws]]⟩) := by rw [hH2]; rfl
  have b2 : H2[2]? = some (some ⟨28, 3, [[.nil, .nil, .nil]]⟩) := by rw [hH2]; rfl
  have b3 : H2[3]? = some (some ⟨45, 3, [[iv 0, iv 0, .nil]]⟩) := by rw [hH2]; rfl
  have b4 : H2[4]? = some (some ⟨60, 1, [[.fn 53 [.ref 1 0 0]]]⟩) := by rw [hH2]; rfl
  have l2 : H2.length = 5 := by rw [hH2]; rfl
  simp only [← hH2]
  clear hH
  have rd := fun {row src : Option Nat} => bready_m (row := row) (src := src) q day H2 hf c1
  rw [cQu] at rd
  simp only [intsL] at rd
  simp -dsimp -implicitDefEqProofs [-getElem?_pos, go_sem, hP, t3, t1, b0, l2]
  refine callB_m (by rw [hr, hs]; exact rd) hP en_17 ?_
  rintro r H3 ⟨id, tl, rfl, hid, ho, hk3⟩
  have e0 := hk3 _ _ (by simp) b0
  have e1 := hk3 _ _ (by simp) b1
  have e2 := hk3 _ _ (by simp) b2
  have e3 := hk3 _ _ (by simp) b3
  have e4 := hk3 _ _ (by simp) b4
  obtain ⟨R, hR⟩ : ∃ R, R = readyQ q day := ⟨_, rfl⟩
  have hRf : R = q.Waiting.filter (fun p => decide (p.Due ≤ day)) := by rw [hR, readyQ, if_pos c1]
  have hRl : R.length ≤ 100000 := by
    have := hf.w
    have := List.length_filter_le (fun p : TPayment => decide (p.Due ≤ day)) q.Waiting
    rw [hRf]
    omega
  rw [← hR] at ho ⊢
  simp -dsimp -implicitDefEqProofs [-getElem?_pos, go_sem, hP]
  refine callB_m (by rw [hr, hs]; exact deleteFuncM_pay R tl id H3 55 [.ref 4 0 0] (fun p => !takenB ws p) hRl ho en_55 (fun p _ H' hk' => take2_m p ws 1 4 _ _ H' (by omega) (hk' _ _ (by simp; omega) e1) (hk' _ _ (by simp; omega) e4))) hP en_49 ?_
  rintro r H4 ⟨tl4, rfl, ho4, hk4⟩
  have f0 := hk4 _ _ (by simp; omega) e0
  have f1 := hk4 _ _ (by simp; omega) e1
  have f2 := hk4 _ _ (by simp; omega) e2
  have f3 := hk4 _ _ (by simp; omega) e3
  have f4 := hk4 _ _ (by simp; omega) e4
  obtain ⟨L, hL⟩ : ∃ L, L = R.filter (fun a => !!takenB ws a) := ⟨_, rfl⟩
  have hLf : L = R.filter (takenB ws) := by rw [hL]; simp
  rw [← hL] at ho4 ⊢
  have iL := imm_pays L
  simp -dsimp -implicitDefEqProofs [-getElem?_pos, go_sem, hP]
  refine AWp.weaken (weaker_frz hW 13 (id := id) (lo := 0) (n := L.length) (o := ⟨34, 5, encL TPayment.cells L ++ tl4⟩) (by simp -dsimp -implicitDefEqProofs [-getElem?_pos, go_sem]) (by simp -dsimp -implicitDefEqProofs [-getElem?_pos, go_sem, ho4]) ?_) ?_
  · have : ((encL TPayment.cells L ++ tl4).drop 0).take L.length = encL TPayment.cells L := by simp [List.take_append_of_le_length, encL_len, List.take_of_length_le]
    dsimp only
    rw [this]
    exact iL
  have hrows : ((encL TPayment.cells L ++ tl4).drop 0).take L.length = encL TPayment.cells L := by simp [List.take_append_of_le_length, encL_len, List.take_of_length_le]
  simp only [hrows]
  generalize hH5 : List.set H4 id none = H5
  have g0 : H5[0]? = H4[0]? := by rw [← hH5, List.getElem?_set_ne (by omega)]
  have g1 : H5[1]? = H4[1]? := by rw [← hH5, List.getElem?_set_ne (by omega)]
  have g2 : H5[2]? = H4[2]? := by rw [← hH5, List.getElem?_set_ne (by omega)]
  have g3 : H5[3]? = H4[3]? := by rw [← hH5, List.getElem?_set_ne (by omega)]
  have g4 : H5[4]? = H4[4]? := by rw [← hH5, List.getElem?_set_ne (by omega)]
  rw [f0] at g0
  rw [f1] at g1
  rw [f2] at g2
  rw [f3] at g3
  rw [f4] at g4
  have n0 := (List.getElem?_eq_some_iff.1 g0).1
  have n1 := (List.getElem?_eq_some_iff.1 g1).1
  have n2 := (List.getElem?_eq_some_iff.1 g2).1
  have n3 := (List.getElem?_eq_some_iff.1 g3).1
  have n4 := (List.getElem?_eq_some_iff.1 g4).1
  clear hH5 f0 f1 f2 f3 f4 e0 e1 e2 e3 e4 b0 b1 b2 b3 b4 hk3 hk4 ho ho4
  refine awp_cut (by rw [hN]; kernel_rfl) ?_
  have hdl := dueB_len (day := day) (ws := ws) hq.asc.nd
  rw [← hRf, ← hLf] at hdl
  have g1' := g1
  simp only [intsL] at g1'
  by_cases c7 : dueB q day ws = true
  rotate_left
  · have c7' : ¬ L.length = ws.length := mt hdl.1 c7
    have d7 : decide ((L.length : Int) = (ws.length : Int)) = false := decide_eq_false (by omega)
    have : takeQ q day ws = (zeroQ, zeroB, 6) := by rw [takeQ, if_pos c1, if_pos c2, if_neg c3, if_neg c4, if_neg (by omega), if_neg c7]
    simp -dsimp -implicitDefEqProofs [-getElem?_pos, go_sem, hP, t5, g1', n1, d7, c7', t6, t7, g2, n2, g3, n3]
    refine done_zeroQ3 ?_
    rw [this]; rfl
  have c7' : L.length = ws.length := hdl.2 c7
  have hLW : L = q.Waiting.filter (takenB ws) := by rw [hLf, hRf]; exact dueB_filter hq.asc.nd c7
  have htk : takeQ q day ws = (⟨q.Waiting.filter (fun p => !takenB ws p), q.Known, q.Batches ++ [takeB q day ws]⟩, takeB q day ws, 0) := by rw [takeQ, if_pos c1, if_pos c2, if_neg c3, if_neg c4, if_neg (by omega), if_pos c7]
  have htb : takeB q day ws = ⟨q.Batches.length + 1, day, L⟩ := by rw [takeB, ← hLW]
  rw [htk, htb]
  simp -dsimp -implicitDefEqProofs [-getElem?_pos, go_sem, hP, t5, g1', n1, c7', t3, g0, n0]
  refine awp_cut (by rw [hN]; kernel_rfl) ?_
  simp -dsimp -implicitDefEqProofs [-getElem?_pos, go_sem, hP, t5, g1', n1, c7', t3, g0, n0]
  refine callB_m (by rw [hr, hs]; exact bcopy_m q H5 hf) hP en_47 ?_
  rintro r H6 ⟨j1, j2, x, rfl, hj1, hj2, n12, o1, o2, ⟨B, hB1, hB2, hg⟩, hk6⟩
  have e0 := hk6 _ _ (by simp) g0
  have e1 := hk6 _ _ (by simp) g1
  have e2 := hk6 _ _ (by simp) g2
  have e3 := hk6 _ _ (by simp) g3
  have e4 := hk6 _ _ (by simp) g4
  have u0 := (List.getElem?_eq_some_iff.1 e0).1
  have u4 := (List.getElem?_eq_some_iff.1 e4).1
  have hc := hg.cellish
  have m10 : ¬ j1 = 0 := by omega
  have m20 : ¬ j2 = 0 := by omega
  have z4 : ¬ (4 = 0) := by omega
  simp -dsimp -implicitDefEqProofs [-getElem?_pos, go_sem, hP, t3, e0, u0, hc, e4, u4]
  generalize hH7 : List.set H6 0 _ = H7
  have v0 : H7[0]? = some (some ⟨28, 3, [[.sref j1 0 q.Waiting.length, .sref j2 0 q.Known.length, x]]⟩) := by rw [← hH7, List.getElem?_set_self u0]
  have v1 : H7[1]? = H6[1]? := by rw [← hH7, List.getElem?_set_ne (by omega)]
  have v2 : H7[2]? = H6[2]? := by rw [← hH7, List.getElem?_set_ne (by omega)]
  have v3 : H7[3]? = H6[3]? := by rw [← hH7, List.getElem?_set_ne (by omega)]
  have vj : H7[j1]? = H6[j1]? := by rw [← hH7, List.getElem?_set_ne (by omega)]
  have vj2 : H7[j2]? = H6[j2]? := by rw [← hH7, List.getElem?_set_ne (by omega)]
  rw [e1] at v1
  rw [e2] at v2
  rw [e3] at v3
  rw [o1] at vj
  rw [o2] at vj2
  have k7 : Kept [0] H6 H7 := by rw [← hH7]; exact kept_set _ (by simp) (kept_refl _ _)
  have hg7 := hg.kept k7 (by simp; omega)
  have y4 : H7[4]? = H6[4]? := by rw [← hH7, List.getElem?_set_ne (by omega)]
  rw [e4] at y4
  have p0 := (List.getElem?_eq_some_iff.1 v0).1
  have p4 := (List.getElem?_eq_some_iff.1 y4).1
  refine awp_cut (by rw [hN]; kernel_rfl) ?_
  simp -dsimp -implicitDefEqProofs [-getElem?_pos, go_sem, hP, t3, v0, y4, p0, p4]
  refine callB_m (by rw [hr, hs]; exact deleteFuncM_pay q.Waiting [] j1 H7 53 [.ref 1 0 0] (takenB ws) (by have := hf.w; omega) (by rw [List.append_nil]; exact vj) en_53 (fun p _ H' hk' => take1_m p ws 1 _ H' (by omega) (hk' _ _ (by simp; omega) v1))) hP en_49 ?_
  rintro r H8 ⟨tl8, rfl, ho8, hk8⟩
  obtain ⟨M, hM⟩ : ∃ M, M = q.Waiting.filter (fun a => !takenB ws a) := ⟨_, rfl⟩
  rw [← hM] at ho8 ⊢
  have w0 := hk8 _ _ (by simp; omega) v0
  have w2 := hk8 _ _ (by simp; omega) v2
  have w3 := hk8 _ _ (by simp; omega) v3
  have wj2 := hk8 _ _ (by simp; omega) vj2
  have hg8 := hg7.kept hk8 (by simp; omega)
  have s0 := (List.getElem?_eq_some_iff.1 w0).1
  have s2 := (List.getElem?_eq_some_iff.1 w2).1
  have s3 := (List.getElem?_eq_some_iff.1 w3).1
  have sj1 := (List.getElem?_eq_some_iff.1 ho8).1
  have sj2 := (List.getElem?_eq_some_iff.1 wj2).1
  have wl := wrap_in ((q.Batches.length : Int) + 1) (by omega)
  simp -dsimp -implicitDefEqProofs [-getElem?_pos, go_sem, hP, t3, w0, s0, hc]
  obtain ⟨Inv2, hInv2⟩ : ∃ Inv : St → Prop, Inv = fun s => ∃ b' : Nat, 5 ≤ b' ∧ s.t 1 = iv day ∧ s.t 3 = .ref 0 0 0 ∧ s.t 6 = .ref 2 0 0 ∧ s.t 7 = .ref 3 0 0 ∧ s.t 13 = paysL L ∧ s.H[0]? = some (some ⟨28, 3, [[.sref j1 0 M.length, .sref j2 0 q.Known.length, .sref b' 0 (q.Batches.length + 1)]]⟩) ∧ s.H[2]? = some (some ⟨28, 3, [[.nil, .nil, .nil]]⟩) ∧ s.H[3]? = some (some ⟨45, 3, [[iv 0, iv 0, .nil]]⟩) ∧ s.H[j1]? = some (some ⟨34, 5, encL TPayment.cells M ++ tl8⟩) ∧ s.H[j2]? = some (some ⟨3, 1, intRows q.Known⟩) ∧ s.H[b']? = some (some ⟨45, 3, encL TBatch.cells (q.Batches ++ [⟨q.Batches.length + 1, day, L⟩])⟩) := ⟨_, rfl⟩
  refine awp_join Inv2 (by rw [hN]; kernel_rfl) ?_ ?_
  · have en : encL TBatch.cells q.Batches ++ [[iv ((q.Batches.length : Int) + 1), iv day, paysL L]] = encL TBatch.cells (q.Batches ++ [⟨q.Batches.length + 1, day, L⟩]) := encL_snoc TBatch.cells q.Batches ⟨q.Batches.length + 1, day, L⟩
    rcases hg8 with ⟨rfl, h⟩ | ⟨jd, hjd, rfl, h⟩
    · have hl0 : q.Batches.length = 0 := by have := congrArg List.length h; rwa [encL_len] at this
      rw [h, hl0] at en
      have w01 : IntKind.i64.wrap 1 = 1 := wrap_in _ (by omega)
      have w01' : IntKind.i64.wrap (0 + 1) = 1 := wrap_in _ (by omega)
      simp -dsimp -implicitDefEqProofs [-getElem?_pos, go_sem, hP, t3, t1, s0, wl, hl0, w01, w01']
      refine ⟨_, Weaker.refl _, ?_⟩
      rw [hInv2]
      refine ⟨H8.length, by omega, by simp -dsimp -implicitDefEqProofs [-getElem?_pos, go_sem, t1], by simp -dsimp -implicitDefEqProofs [-getElem?_pos, go_sem, t3], by simp -dsimp -implicitDefEqProofs [-getElem?_pos, go_sem, t6], by simp -dsimp -implicitDefEqProofs [-getElem?_pos, go_sem, t7], by simp -dsimp -implicitDefEqProofs [-getElem?_pos, go_sem], by simp -dsimp -implicitDefEqProofs [-getElem?_pos, go_sem, s0, hl0], ?_, ?_, ?_, ?_, ?_⟩
      · dsimp only
        rw [List.getElem?_append_left (by simp; omega), List.getElem?_set_ne (by omega)]
        try rw [List.getElem?_set_ne (by omega)]
        exact w2
      · dsimp only
        rw [List.getElem?_append_left (by simp; omega), List.getElem?_set_ne (by omega)]
        try rw [List.getElem?_set_ne (by omega)]
        exact w3
      · dsimp only
        rw [List.getElem?_append_left (by simp; omega), List.getElem?_set_ne (by omega)]
        try rw [List.getElem?_set_ne (by omega)]
        exact ho8
      · dsimp only
        rw [List.getElem?_append_left (by simp; omega), List.getElem?_set_ne (by omega)]
        try rw [List.getElem?_set_ne (by omega)]
        exact wj2
      · dsimp only
        rw [hl0, ← en]
        simp -dsimp -implicitDefEqProofs [-getElem?_pos, go_sem]
    · have sjd := (List.getElem?_eq_some_iff.1 h).1
      have nd0 : ¬ jd = 0 := by omega
      have nd0' : ¬ 0 = jd := by omega
      rw [encL_len]
      simp -dsimp -implicitDefEqProofs [-getElem?_pos, go_sem, hP, t3, t1, s0, wl, h, sjd, nd0, nd0', encL_len]
      refine ⟨by omega, by omega, ?_⟩
      refine ⟨_, Weaker.refl _, ?_⟩
      rw [hInv2]
      refine ⟨H8.length, by omega, by simp -dsimp -implicitDefEqProofs [-getElem?_pos, go_sem, t1], by simp -dsimp -implicitDefEqProofs [-getElem?_pos, go_sem, t3], by simp -dsimp -implicitDefEqProofs [-getElem?_pos, go_sem, t6], by simp -dsimp -implicitDefEqProofs [-getElem?_pos, go_sem, t7], by simp -dsimp -implicitDefEqProofs [-getElem?_pos, go_sem], by simp -dsimp -implicitDefEqProofs [-getElem?_pos, go_sem, s0, nd0], ?_, ?_, ?_, ?_, ?_⟩
      · dsimp only
        rw [List.getElem?_append_left (by simp; omega)]
        repeat rw [List.getElem?_set_ne (by omega)]
        exact w2
      · dsimp only
        rw [List.getElem?_append_left (by simp; omega)]
        repeat rw [List.getElem?_set_ne (by omega)]
        exact w3
      · dsimp only
        rw [List.getElem?_append_left (by simp; omega)]
        repeat rw [List.getElem?_set_ne (by omega)]
        exact ho8
      · dsimp only
        rw [List.getElem?_append_left (by simp; omega)]
        repeat rw [List.getElem?_set_ne (by omega)]
        exact wj2
      · dsimp only
        rw [← en]
        simp -dsimp -implicitDefEqProofs [-getElem?_pos, go_sem]
  intro s hs'
  rw [hInv2] at hs'
  obtain ⟨b', hb', t1, t3, t6, t7, t13, h0, h2, h3, h4, h5, h6⟩ := hs'
  have r0 := (List.getElem?_eq_some_iff.1 h0).1
  have r2 := (List.getElem?_eq_some_iff.1 h2).1
  have r3 := (List.getElem?_eq_some_iff.1 h3).1
  refine awp_sound _ _ _ (by rw [hN]; kernel_rfl) ?_
  simp -dsimp -implicitDefEqProofs [-getElem?_pos, go_sem, hP]
  refine adrawB (fun i => decide (i = 0) || decide (i = b')) [] hP (by kernel_rfl) (by kernel_rfl) ?_
  simp -dsimp -implicitDefEqProofs [-getElem?_pos, go_sem, hP, t1, t3, t6, t7, t13, h0, r0, h6]
  refine callB_is ((clone_pf_pay L (by omega)).lift _ _) hP en_50 (by simpa using iL) iL ?_
  have n22 : ¬ b' = 2 := by omega
  have n33 : ¬ b' = 3 := by omega
  simp -dsimp -implicitDefEqProofs [-getElem?_pos, go_sem, hP, t1, t13, t6, t7, h2, r2, h3, r3]
  refine ⟨fun i hi => ?_, fun i hi => ?_, ?_⟩
  · simp only [Bool.or_eq_true, decide_eq_true_eq] at hi
    rw [List.getElem?_set_ne (by omega)]
  · simp only [Bool.or_eq_true, decide_eq_true_eq] at hi
    rw [List.getElem?_set_ne (by omega)]
  have iB := imm_bat ⟨q.Batches.length + 1, day, L⟩
  refine done_trip (cs' := (TQueue.mk M q.Known (q.Batches ++ [⟨q.Batches.length + 1, day, L⟩])).cells) (ds' := (TBatch.mk (q.Batches.length + 1) day L).cells) ?_ (cw_immL (imm_agg.1 iB)) rfl
  refine cw_srefT (ty := 34) (tl := tl8) ?_ (by rw [encL_len]) (imm_pays _) (cw_sref (ty := 3) (es := intRows q.Known) ?_ (by rw [intRows_len]) (imm_ints _) (cw_sref (ty := 45) (es := encL TBatch.cells (q.Batches ++ [⟨q.Batches.length + 1, day, L⟩])) ?_ (by rw [encL_len]; simp) (imm_bats _) .nil))
  · rw [List.getElem?_set_ne (by omega), List.getElem?_set_ne (by omega), h4]
  · rw [List.getElem?_set_ne (by omega), List.getElem?_set_ne (by omega), h5]
  · rw [List.getElem?_set_ne (by omega), List.getElem?_set_ne (by omega), h6]
end Go.Proofs.Ytmpncdlhmknkoaa
