/- Several texts of this claim, joined: Bat11 Bat12 Bat13 Bat14 Bat15 Bat16 PaPf Rec2 Rec3 Rec4 Rec5 Rec6 Rec7 Rec11 Rec12 Rec13 Rec14 Rec15 AccNet Rec9 Rec10 Rec16 Rec17 Rec18 PlayOdd. -/
import Derived.Test.YtmpncdlhmknkoaaGreatPk5
set_option linter.unusedSimpArgs false
set_option linter.unusedVariables false
namespace Go.Proofs.YtmpncdlhmknkoaaGreat
open Go.PA
open Go.RowKit
theorem imm_trip {a b c : AV} (ha : Imm a) (hb : Imm b) (hc : Imm c) : Imm (.tup [a, b, c]) := by
  refine .tup fun x hx => ?_
  simp only [List.mem_cons, List.not_mem_nil, or_false] at hx
  rcases hx with rfl | rfl | rfl <;> assumption
theorem weak_tup3 {a b c a' b' c' : AV} (ha : Weak a a') (hb : Weak b b') (hc : Weak c c') : Weak (.tup [a, b, c]) (.tup [a', b', c']) := by
  refine .tup rfl fun i x y hx hy => ?_
  match i, hx, hy with
  | 0, hx, hy => simp at hx hy; subst hx; subst hy; exact ha
  | 1, hx, hy => simp at hx hy; subst hx; subst hy; exact hb
  | 2, hx, hy => simp at hx hy; subst hx; subst hy; exact hc
  | i + 3, hx, hy => simp at hx
theorem done_trip {H : Heap} {cs cs' ds ds' : List AV} {v : Value} {Q : AV → Prop} {b : Bx Q} (h : CW H cs cs') (h2 : CW H ds ds') (hq : Q (.tup [.agg cs', .agg ds', .sc v])) : Done H (.tup [.agg cs, .agg ds, .sc v]) Q b :=
  done_weak (imm_trip h.imm h2.imm .sc) (imm_trip h.imm' h2.imm' .sc) (weak_tup3 h.weak h2.weak (.refl _)) hq
theorem cw_zeroB {H : Heap} : CW H [iv 0, iv 0, .nil] zeroB.cells := cw_imm .sc (cw_imm .sc (cw_nil .nil))
theorem done_zeroQ3 {H : Heap} {n : Int} {Q : AV → Prop} {b : Bx Q} (h : Q (.tup [.agg zeroQ.cells, .agg zeroB.cells, iv n])) : Done H (.tup [.agg [.nil, .nil, .nil], .agg [iv 0, iv 0, .nil], iv n]) Q b := done_trip cw_zeroQ cw_zeroB h
theorem cw_immL {H : Heap} : ∀ {cs : List AV}, (∀ a, a ∈ cs → Imm a) → CW H cs cs
  | [], _ => .nil
  | a :: cs, h => cw_imm (h a (by simp)) (cw_immL fun x hx => h x (List.mem_cons_of_mem _ hx))
@[go_sem] theorem fsz : szOf Tryz.prog 114 = 1 := by kernel_rfl
@[go_sem] theorem fkn : knownT Tryz.prog 114 = true := by kernel_rfl
@[go_sem] theorem fag : aggOf Tryz.prog 114 = false := by kernel_rfl
@[go_sem] theorem fus : (Tryz.prog.underlying 114).isSome = true := by kernel_rfl
theorem ready1_m {row src : Option Nat} (p : TPayment) (day : Int) (o : Nat) (ty : TypeId) (H : Heap) (ho : H[o]? = some (some ⟨ty, 1, [[iv day]]⟩)) : MFun Tryz.prog row src 127 [.agg p.cells, .ref o 0 0] H (fun r H' => r = bv (decide (day < p.Due)) ∧ Kept [] H H') := by
  refine mfun_intro Tryz.func127 rfl (by simp [Tryz.f127]) (by kernel_rfl) (⟨_, H, rfl, kept_refl _ _⟩) ?_
  intro E hP hr hs hN
  have lt := (List.getElem?_eq_some_iff.1 ho).1
  simp -dsimp -implicitDefEqProofs [-getElem?_pos, go_sem, hP, cPy, ho, lt]
  exact kept_app _ _ _
theorem take1_m {row src : Option Nat} (p : TPayment) (ws : List Int) (o : Nat) (ty : TypeId) (H : Heap) (hw : ws.length ≤ 1000000) (ho : H[o]? = some (some ⟨ty, 1, [[intsL ws]]⟩)) : MFun Tryz.prog row src 130 [.agg p.cells, .ref o 0 0] H (fun r H' => r = bv (takenB ws p) ∧ Kept [] H H') := by
  refine mfun_intro Tryz.func130 rfl (by simp [Tryz.f130]) (by kernel_rfl) (⟨_, H, rfl, kept_refl _ _⟩) ?_
  intro E hP hr hs hN
  have lt := (List.getElem?_eq_some_iff.1 ho).1
  have iw := imm_ints ws
  simp -dsimp -implicitDefEqProofs [-getElem?_pos, go_sem, hP, cPy, ho, lt]
  refine callB_is ((containsInt_pf ws p.Warrant hw).lift _ _) hP en_131 (by simp [iw, imm_sc]) .sc ?_
  simp -dsimp -implicitDefEqProofs [-getElem?_pos, go_sem, hP, takenB]
  exact kept_app _ _ _
theorem take2_m {row src : Option Nat} (p : TPayment) (ws : List Int) (o o2 : Nat) (ty ty2 : TypeId) (H : Heap) (hw : ws.length ≤ 1000000) (ho : H[o]? = some (some ⟨ty, 1, [[intsL ws]]⟩)) (ho2 : H[o2]? = some (some ⟨ty2, 1, [[.fn 130 [.ref o 0 0]]]⟩)) :
    MFun Tryz.prog row src 132 [.agg p.cells, .ref o2 0 0] H (fun r H' => r = bv (!takenB ws p) ∧ Kept [] H H') := by
  refine mfun_intro Tryz.func132 rfl (by simp [Tryz.f132]) (by kernel_rfl) (⟨_, H, rfl, kept_refl _ _⟩) ?_
  intro E hP hr hs hN
  have lt := (List.getElem?_eq_some_iff.1 ho).1
  have lt2 := (List.getElem?_eq_some_iff.1 ho2).1
  simp -dsimp -implicitDefEqProofs [-getElem?_pos, go_sem, hP, cPy, ho2, lt2]
  generalize hH2 : H ++ _ = H2
  have k2 : Kept [] H H2 := by rw [← hH2]; exact kept_app _ _ _
  have tm := fun {row src : Option Nat} => take1_m (row := row) (src := src) p ws o ty H2 hw (k2 _ _ (by simp) ho)
  rw [cPy] at tm
  refine callB_m (by rw [hr, hs]; exact tm) hP en_130 ?_
  rintro r H3 ⟨rfl, hk3⟩
  simp -dsimp -implicitDefEqProofs [-getElem?_pos, go_sem, hP]
  exact k2.trans hk3
set_option maxHeartbeats 1000000 in
theorem bready_m {row src : Option Nat} (q : TQueue) (day : Int) (H : Heap) (hf : FitQ q) (c1 : checkQ q = 0) : MFun Tryz.prog row src 60 [.agg q.cells, iv day] H (fun r H' => ∃ id tl, r = .sref id 0 (readyQ q day).length ∧ H.length ≤ id ∧ H'[id]? = some (some ⟨44, 5, encL TPayment.cells (readyQ q day) ++ tl⟩) ∧ Kept [] H H') := by
  obtain ⟨L, hL⟩ : ∃ L, L = readyQ q day := ⟨_, rfl⟩
  have hrd : L = q.Waiting.filter (fun p => decide (p.Due ≤ day)) := by rw [hL, readyQ, if_pos c1]
  rw [← hL]
  obtain ⟨C, hC⟩ : ∃ C : AV → Heap → Prop, C = fun r H' => ∃ id tl, r = .sref id 0 L.length ∧ H.length ≤ id ∧ H'[id]? = some (some ⟨44, 5, encL TPayment.cells L ++ tl⟩) ∧ Kept [] H H' := ⟨_, rfl⟩
  rw [← hC]
  have ex : ∃ r H', C r H' := ⟨.sref H.length 0 L.length, H ++ [some ⟨44, 5, encL TPayment.cells L ++ []⟩], by
    rw [hC]
    exact ⟨H.length, [], rfl, Nat.le_refl _, by simp, kept_app _ _ _⟩⟩
  refine mfun_intro Tryz.func60 rfl (by simp [Tryz.f60]) (by kernel_rfl) (ex) ?_
  intro E hP hr hs hN
  have ck := bcheck_pf q hf
  have iq := imm_que q
  have ip := imm_pays q.Waiting
  have i2 := imm_ints q.Known
  have i3 := imm_bats q.Batches
  rw [cQu] at ck iq
  simp only [intsL] at i2 ck iq
  simp -dsimp -implicitDefEqProofs [-getElem?_pos, go_sem, hP, cQu, intsL]
  refine callB_is (ck.lift _ _) hP en_53 (by simpa using iq) .sc ?_
  simp -dsimp -implicitDefEqProofs [-getElem?_pos, go_sem, hP, c1]
  generalize hH2 : H ++ _ = H2
  have l2 : H2.length = H.length + 2 := by rw [← hH2]; simp
  have k2 : Kept [] H H2 := by rw [← hH2]; exact kept_app _ _ _
  have b1 : H2[H.length + 1]? = some (some ⟨3, 1, [[iv day]]⟩) := by rw [← hH2, List.getElem?_append_right (by omega)]; simp
  refine callB_m (by rw [hr, hs]; exact clone_m_pay q.Waiting H2 (by have := hf.w; omega)) hP en_126 ?_
  rintro r H3 ⟨id, rfl, hid, ho, hk⟩
  have e1 := hk _ _ (by simp) b1
  simp -dsimp -implicitDefEqProofs [-getElem?_pos, go_sem, hP]
  refine callB_m (by rw [hr, hs]; exact deleteFuncM_pay q.Waiting [] id H3 127 [.ref (H.length + 1) 0 0] (fun p => decide (day < p.Due)) (by have := hf.w; omega) (by rw [List.append_nil]; exact ho) en_127 (fun p _ H' hk' => ready1_m p day (H.length + 1) _ H' (hk' _ _ (by simp; omega) e1))) hP en_125 ?_
  rintro r H4 ⟨tl, rfl, ho4, hk4⟩
  have ef : (q.Waiting.filter fun a => !decide (day < a.Due)) = L := by
    rw [hrd]
    refine List.filter_congr fun p _ => ?_
    by_cases h : day < p.Due
    · simp [h, show ¬ p.Due ≤ day by omega]
    · simp [h, show p.Due ≤ day by omega]
  rw [ef] at ho4
  simp -dsimp -implicitDefEqProofs [-getElem?_pos, go_sem, hP, ef]
  rw [hC]
  refine ⟨id, tl, rfl, by omega, ho4, fun j o hj hoj => ?_⟩
  have hjl := (List.getElem?_eq_some_iff.1 hoj).1
  exact hk4 j o (by simp; omega) (hk j o (by simp) (k2 j o (by simp) hoj))
open Go.PA
open Go.RowKit
@[go_sem] theorem fze : zeros Tryz.prog 114 = some [.sc .nilFunc] := by kernel_rfl
set_option maxHeartbeats 4000000 in
theorem btake_pf (q : TQueue) (day : Int) (ws : List Int) (hf : FitQ q) (hw : ws.length ≤ 100000) : PFun Tryz.prog none none 63 [.agg q.cells, iv day, intsL ws] (· = .tup [.agg (takeQ q day ws).1.cells, .agg (takeQ q day ws).2.1.cells, iv (takeQ q day ws).2.2]) := by
  refine pfun_introA Tryz.func63 rfl (by simp [Tryz.f63]) ?_
  intro E hP hr hs hW hN
  have ck := bcheck_pf q hf
  have iq := imm_que q
  have ip := imm_pays q.Waiting
  have i2 := imm_ints q.Known
  have i3 := imm_bats q.Batches
  have iw := imm_ints ws
  have lb := hf.b
  rw [cQu] at ck iq
  simp only [intsL] at i2 ck iq iw
  refine awp_cut (by rw [hN]; kernel_rfl) ?_
  simp -dsimp -implicitDefEqProofs [-getElem?_pos, go_sem, hP, cQu, intsL]
  refine awp_cut (by rw [hN]; kernel_rfl) ?_
  simp -dsimp -implicitDefEqProofs [-getElem?_pos, go_sem, hP]
  refine callB_is (ck.lift _ _) hP en_53 (by simpa using iq) .sc ?_
  by_cases c1 : checkQ q = 0
  rotate_left
  · have : takeQ q day ws = (zeroQ, zeroB, checkQ q) := by rw [takeQ, if_neg c1]
    simp -dsimp -implicitDefEqProofs [-getElem?_pos, go_sem, hP, c1]
    refine done_zeroQ3 ?_
    rw [this]; rfl
  have hq := checkQ_iff.1 c1
  simp -dsimp -implicitDefEqProofs [-getElem?_pos, go_sem, hP, c1]
  refine awp_cut (by rw [hN]; kernel_rfl) ?_
  simp -dsimp -implicitDefEqProofs [-getElem?_pos, go_sem, hP]
  obtain ⟨Inv, hInv⟩ : ∃ Inv : St → Prop, Inv = fun s => s.t 1 = iv day ∧ s.t 3 = .ref 0 0 0 ∧ s.t 5 = .ref 1 0 0 ∧ s.t 6 = .ref 2 0 0 ∧ s.t 7 = .ref 3 0 0 ∧ s.t 10 = iv (lastQ q) ∧ s.H = [some ⟨32, 3, [[paysL q.Waiting, .list 1 (q.Known.map fun x => [iv x]), batsL q.Batches]]⟩, some ⟨22, 1, [[.list 1 (ws.map fun x => [iv x])]]⟩, some ⟨32, 3, [[.nil, .nil, .nil]]⟩, some ⟨55, 3, [[iv 0, iv 0, .nil]]⟩] := ⟨_, rfl⟩
  refine awp_join Inv (by rw [hN]; kernel_rfl) ?_ ?_
  · cases hlast : q.Batches.getLast? with
    | none =>
      have hnil : q.Batches = [] := by simpa using hlast
      have l0 : lastQ q = 0 := by rw [lastQ, hlast]
      simp -dsimp -implicitDefEqProofs [-getElem?_pos, go_sem, hP, hnil]
      refine ⟨_, Weaker.refl _, ?_⟩
      rw [hInv]
      exact ⟨by simp -dsimp -implicitDefEqProofs [-getElem?_pos, go_sem], by simp -dsimp -implicitDefEqProofs [-getElem?_pos, go_sem], by simp -dsimp -implicitDefEqProofs [-getElem?_pos, go_sem], by simp -dsimp -implicitDefEqProofs [-getElem?_pos, go_sem], by simp -dsimp -implicitDefEqProofs [-getElem?_pos, go_sem], by simp -dsimp -implicitDefEqProofs [-getElem?_pos, go_sem, l0], by rw [hnil]⟩
    | some b =>
      have l0 : lastQ q = b.Day := by rw [lastQ, hlast]
      have hpos : 0 < q.Batches.length := by
        cases h : q.Batches with
        | nil => simp [h] at hlast
        | cons _ _ => simp
      have hb : q.Batches[q.Batches.length - 1]? = some b := by rw [← List.getLast?_eq_getElem?]; exact hlast
      have d0 : decide ((0 : Int) < (q.Batches.length : Int)) = true := decide_eq_true (by omega)
      have w1 : IntKind.i64.wrap ((q.Batches.length : Int) - 1) = ((q.Batches.length - 1 : Nat) : Int) := by rw [wrap_in _ (by omega)]; omega
      simp -dsimp -implicitDefEqProofs [-getElem?_pos, go_sem, hP, d0, hpos]
      simp -dsimp -implicitDefEqProofs [-getElem?_pos, go_sem, hP, w1, hb, cBt]
      refine ⟨_, Weaker.refl _, ?_⟩
      rw [hInv]
      exact ⟨by simp -dsimp -implicitDefEqProofs [-getElem?_pos, go_sem], by simp -dsimp -implicitDefEqProofs [-getElem?_pos, go_sem], by simp -dsimp -implicitDefEqProofs [-getElem?_pos, go_sem], by simp -dsimp -implicitDefEqProofs [-getElem?_pos, go_sem], by simp -dsimp -implicitDefEqProofs [-getElem?_pos, go_sem], by simp -dsimp -implicitDefEqProofs [-getElem?_pos, go_sem, l0], rfl⟩
  intro s hs'
  rw [hInv] at hs'
  obtain ⟨t1, t3, t5, t6, t7, t10, hH⟩ := hs'
  refine awp_cut (by rw [hN]; kernel_rfl) ?_
  simp -dsimp -implicitDefEqProofs [-getElem?_pos, go_sem, hP, t1]
  refine callB_is ((cbusiness_pf day).lift _ _) hP en_58 (by simp [imm_sc]) .sc ?_
  cases c2 : busB day
  · have : takeQ q day ws = (zeroQ, zeroB, 66) := by rw [takeQ, if_pos c1, if_neg (by simp [c2])]
    simp -dsimp -implicitDefEqProofs [-getElem?_pos, go_sem, hP, c2, t6, t7, hH]
    refine done_zeroQ3 ?_
    rw [this]; rfl
  by_cases c3 : day < lastQ q
  · have d3 : decide (day < lastQ q) = true := decide_eq_true c3
    have : takeQ q day ws = (zeroQ, zeroB, 8) := by rw [takeQ, if_pos c1, if_pos c2, if_pos c3]
    simp -dsimp -implicitDefEqProofs [-getElem?_pos, go_sem, hP, c2, t6, t7, hH, t1, t10, d3]
    refine done_zeroQ3 ?_
    rw [this]; rfl
  have d3 : decide (day < lastQ q) = false := decide_eq_false c3
  by_cases c4 : ws.length = 0
  · have d4 : decide ((ws.length : Int) = 0) = true := decide_eq_true (by omega)
    have : takeQ q day ws = (zeroQ, zeroB, 10) := by rw [takeQ, if_pos c1, if_pos c2, if_neg c3, if_pos c4]
    simp -dsimp -implicitDefEqProofs [-getElem?_pos, go_sem, hP, c2, t6, t7, hH, t1, t10, d3, t5, c4]
    refine done_zeroQ3 ?_
    rw [this]; rfl
  have d4 : decide ((ws.length : Int) = 0) = false := decide_eq_false (by omega)
  by_cases c5 : 10 < ws.length
  · have d5 : decide ((10 : Int) < (ws.length : Int)) = true := decide_eq_true (by omega)
    have : takeQ q day ws = (zeroQ, zeroB, 3) := by rw [takeQ, if_pos c1, if_pos c2, if_neg c3, if_neg c4, if_pos (.inl c5)]
    simp -dsimp -implicitDefEqProofs [-getElem?_pos, go_sem, hP, c2, t6, t7, hH, t1, t10, d3, t5, t3, c4, d4, d5]
    refine done_zeroQ3 ?_
    rw [this]; rfl
  have d5 : decide ((10 : Int) < (ws.length : Int)) = false := decide_eq_false (by omega)
  by_cases c6 : 200 ≤ q.Batches.length
  · have d6 : decide ((200 : Int) ≤ (q.Batches.length : Int)) = true := decide_eq_true (by omega)
    have : takeQ q day ws = (zeroQ, zeroB, 3) := by rw [takeQ, if_pos c1, if_pos c2, if_neg c3, if_neg c4, if_pos (.inr c6)]
    simp -dsimp -implicitDefEqProofs [-getElem?_pos, go_sem, hP, c2, t6, t7, hH, t1, t10, d3, t5, t3, c4, d4, d5, d6]
    refine done_zeroQ3 ?_
    rw [this]; rfl
  have d6 : decide ((200 : Int) ≤ (q.Batches.length : Int)) = false := decide_eq_false (by omega)
  simp -dsimp -implicitDefEqProofs [-getElem?_pos, go_sem, hP, c2, t6, t7, hH, t1, t10, d3, t5, t3, c4, d4, d5, d6]
  refine awp_cut (by rw [hN]; kernel_rfl) ?_
  simp -dsimp -implicitDefEqProofs [-getElem?_pos, go_sem, hP, t5, hH]
  refine awp_cut (by rw [hN]; kernel_rfl) ?_
  obtain ⟨H2, hH2⟩ : ∃ H2 : Heap, H2 = [some ⟨32, 3, [[paysL q.Waiting, .list 1 (q.Known.map fun x => [iv x]), batsL q.Batches]]⟩, some ⟨22, 1, [[.list 1 (ws.map fun x => [iv x])]]⟩, some ⟨32, 3, [[.nil, .nil, .nil]]⟩, some ⟨55, 3, [[iv 0, iv 0, .nil]]⟩, some ⟨114, 1, [[.fn 130 [.ref 1 0 0]]]⟩] := ⟨_, rfl⟩
  have b0 : H2[0]? = some (some ⟨32, 3, [[paysL q.Waiting, .list 1 (q.Known.map fun x => [iv x]), batsL q.Batches]]⟩) := by rw [hH2]; rfl
  have b1 : H2[1]? = some (some ⟨22, 1, [[intsL ws]]⟩) := by rw [hH2]; rfl
  have b2 : H2[2]? = some (some ⟨32, 3, [[.nil, .nil, .nil]]⟩) := by rw [hH2]; rfl
  have b3 : H2[3]? = some (some ⟨55, 3, [[iv 0, iv 0, .nil]]⟩) := by rw [hH2]; rfl
  have b4 : H2[4]? = some (some ⟨114, 1, [[.fn 130 [.ref 1 0 0]]]⟩) := by rw [hH2]; rfl
  have l2 : H2.length = 5 := by rw [hH2]; rfl
  simp only [← hH2]
  clear hH
  have rd := fun {row src : Option Nat} => bready_m (row := row) (src := src) q day H2 hf c1
  rw [cQu] at rd
  simp only [intsL] at rd
  simp -dsimp -implicitDefEqProofs [-getElem?_pos, go_sem, hP, t3, t1, b0, l2]
  refine callB_m (by rw [hr, hs]; exact rd) hP en_60 ?_
  rintro r H3 ⟨id, tl, rfl, hid, ho, hk3⟩
  have e0 := hk3 _ _ (by simp) b0
  have e1 := hk3 _ _ (by simp) b1
  have e2 := hk3 _ _ (by simp) b2
  have e3 := hk3 _ _ (by simp) b3
  have e4 := hk3 _ _ (by simp) b4
  obtain ⟨R, hR⟩ : ∃ R, R = readyQ q day := ⟨_, rfl⟩
  have hRf : R = q.Waiting.filter (fun p => decide (p.Due ≤ day)) := by rw [hR, readyQ, if_pos c1]
  have hRl : R.length ≤ 100000 := by
    have := hf.w
    have := List.length_filter_le (fun p : TPayment => decide (p.Due ≤ day)) q.Waiting
    rw [hRf]
    omega
  rw [← hR] at ho ⊢
  simp -dsimp -implicitDefEqProofs [-getElem?_pos, go_sem, hP]
  refine callB_m (by rw [hr, hs]; exact deleteFuncM_pay R tl id H3 132 [.ref 4 0 0] (fun p => !takenB ws p) hRl ho en_132 (fun p _ H' hk' => take2_m p ws 1 4 _ _ H' (by omega) (hk' _ _ (by simp; omega) e1) (hk' _ _ (by simp; omega) e4))) hP en_125 ?_
  rintro r H4 ⟨tl4, rfl, ho4, hk4⟩
  have f0 := hk4 _ _ (by simp; omega) e0
  have f1 := hk4 _ _ (by simp; omega) e1
  have f2 := hk4 _ _ (by simp; omega) e2
  have f3 := hk4 _ _ (by simp; omega) e3
  have f4 := hk4 _ _ (by simp; omega) e4
  obtain ⟨L, hL⟩ : ∃ L, L = R.filter (fun a => !!takenB ws a) := ⟨_, rfl⟩
  have hLf : L = R.filter (takenB ws) := by rw [hL]; simp
  rw [← hL] at ho4 ⊢
  have iL := imm_pays L
  simp -dsimp -implicitDefEqProofs [-getElem?_pos, go_sem, hP]
  refine AWp.weaken (weaker_frz hW 13 (id := id) (lo := 0) (n := L.length) (o := ⟨44, 5, encL TPayment.cells L ++ tl4⟩) (by simp -dsimp -implicitDefEqProofs [-getElem?_pos, go_sem]) (by simp -dsimp -implicitDefEqProofs [-getElem?_pos, go_sem, ho4]) ?_) ?_
  · have : ((encL TPayment.cells L ++ tl4).drop 0).take L.length = encL TPayment.cells L := by simp [List.take_append_of_le_length, encL_len, List.take_of_length_le]
    dsimp only
    rw [this]
    exact iL
  have hrows : ((encL TPayment.cells L ++ tl4).drop 0).take L.length = encL TPayment.cells L := by simp [List.take_append_of_le_length, encL_len, List.take_of_length_le]
  simp only [hrows]
  generalize hH5 : List.set H4 id none = H5
  have g0 : H5[0]? = H4[0]? := by rw [← hH5, List.getElem?_set_ne (by omega)]
  have g1 : H5[1]? = H4[1]? := by rw [← hH5, List.getElem?_set_ne (by omega)]
  have g2 : H5[2]? = H4[2]? := by rw [← hH5, List.getElem?_set_ne (by omega)]
  have g3 : H5[3]? = H4[3]? := by rw [← hH5, List.getElem?_set_ne (by omega)]
  have g4 : H5[4]? = H4[4]? := by rw [← hH5, List.getElem?_set_ne (by omega)]
  rw [f0] at g0
  rw [f1] at g1
  rw [f2] at g2
  rw [f3] at g3
  rw [f4] at g4
  have n0 := (List.getElem?_eq_some_iff.1 g0).1
  have n1 := (List.getElem?_eq_some_iff.1 g1).1
  have n2 := (List.getElem?_eq_some_iff.1 g2).1
  have n3 := (List.getElem?_eq_some_iff.1 g3).1
  have n4 := (List.getElem?_eq_some_iff.1 g4).1
  clear hH5 f0 f1 f2 f3 f4 e0 e1 e2 e3 e4 b0 b1 b2 b3 b4 hk3 hk4 ho ho4
  refine awp_cut (by rw [hN]; kernel_rfl) ?_
  have hdl := dueB_len (day := day) (ws := ws) hq.asc.nd
  rw [← hRf, ← hLf] at hdl
  have g1' := g1
  simp only [intsL] at g1'
  by_cases c7 : dueB q day ws = true
  rotate_left
  · have c7' : ¬ L.length = ws.length := mt hdl.1 c7
    have d7 : decide ((L.length : Int) = (ws.length : Int)) = false := decide_eq_false (by omega)
    have : takeQ q day ws = (zeroQ, zeroB, 6) := by rw [takeQ, if_pos c1, if_pos c2, if_neg c3, if_neg c4, if_neg (by omega), if_neg c7]
    simp -dsimp -implicitDefEqProofs [-getElem?_pos, go_sem, hP, t5, g1', n1, d7, c7', t6, t7, g2, n2, g3, n3]
    refine done_zeroQ3 ?_
    rw [this]; rfl
  have c7' : L.length = ws.length := hdl.2 c7
  have hLW : L = q.Waiting.filter (takenB ws) := by rw [hLf, hRf]; exact dueB_filter hq.asc.nd c7
  have htk : takeQ q day ws = (⟨q.Waiting.filter (fun p => !takenB ws p), q.Known, q.Batches ++ [takeB q day ws]⟩, takeB q day ws, 0) := by rw [takeQ, if_pos c1, if_pos c2, if_neg c3, if_neg c4, if_neg (by omega), if_pos c7]
  have htb : takeB q day ws = ⟨q.Batches.length + 1, day, L⟩ := by rw [takeB, ← hLW]
  rw [htk, htb]
  simp -dsimp -implicitDefEqProofs [-getElem?_pos, go_sem, hP, t5, g1', n1, c7', t3, g0, n0]
  refine awp_cut (by rw [hN]; kernel_rfl) ?_
  simp -dsimp -implicitDefEqProofs [-getElem?_pos, go_sem, hP, t5, g1', n1, c7', t3, g0, n0]
  refine callB_m (by rw [hr, hs]; exact bcopy_m q H5 hf) hP en_123 ?_
  rintro r H6 ⟨j1, j2, x, rfl, hj1, hj2, n12, o1, o2, ⟨B, hB1, hB2, hg⟩, hk6⟩
  have e0 := hk6 _ _ (by simp) g0
  have e1 := hk6 _ _ (by simp) g1
  have e2 := hk6 _ _ (by simp) g2
  have e3 := hk6 _ _ (by simp) g3
  have e4 := hk6 _ _ (by simp) g4
  have u0 := (List.getElem?_eq_some_iff.1 e0).1
  have u4 := (List.getElem?_eq_some_iff.1 e4).1
  have hc := hg.cellish
  have m10 : ¬ j1 = 0 := by omega
  have m20 : ¬ j2 = 0 := by omega
  have z4 : ¬ (4 = 0) := by omega
  simp -dsimp -implicitDefEqProofs [-getElem?_pos, go_sem, hP, t3, e0, u0, hc, e4, u4]
  generalize hH7 : List.set H6 0 _ = H7
  have v0 : H7[0]? = some (some ⟨32, 3, [[.sref j1 0 q.Waiting.length, .sref j2 0 q.Known.length, x]]⟩) := by rw [← hH7, List.getElem?_set_self u0]
  have v1 : H7[1]? = H6[1]? := by rw [← hH7, List.getElem?_set_ne (by omega)]
  have v2 : H7[2]? = H6[2]? := by rw [← hH7, List.getElem?_set_ne (by omega)]
  have v3 : H7[3]? = H6[3]? := by rw [← hH7, List.getElem?_set_ne (by omega)]
  have vj : H7[j1]? = H6[j1]? := by rw [← hH7, List.getElem?_set_ne (by omega)]
  have vj2 : H7[j2]? = H6[j2]? := by rw [← hH7, List.getElem?_set_ne (by omega)]
  rw [e1] at v1
  rw [e2] at v2
  rw [e3] at v3
  rw [o1] at vj
  rw [o2] at vj2
  have k7 : Kept [0] H6 H7 := by rw [← hH7]; exact kept_set _ (by simp) (kept_refl _ _)
  have hg7 := hg.kept k7 (by simp; omega)
  have y4 : H7[4]? = H6[4]? := by rw [← hH7, List.getElem?_set_ne (by omega)]
  rw [e4] at y4
  have p0 := (List.getElem?_eq_some_iff.1 v0).1
  have p4 := (List.getElem?_eq_some_iff.1 y4).1
  refine awp_cut (by rw [hN]; kernel_rfl) ?_
  simp -dsimp -implicitDefEqProofs [-getElem?_pos, go_sem, hP, t3, v0, y4, p0, p4]
  refine callB_m (by rw [hr, hs]; exact deleteFuncM_pay q.Waiting [] j1 H7 130 [.ref 1 0 0] (takenB ws) (by have := hf.w; omega) (by rw [List.append_nil]; exact vj) en_130 (fun p _ H' hk' => take1_m p ws 1 _ H' (by omega) (hk' _ _ (by simp; omega) v1))) hP en_125 ?_
  rintro r H8 ⟨tl8, rfl, ho8, hk8⟩
  obtain ⟨M, hM⟩ : ∃ M, M = q.Waiting.filter (fun a => !takenB ws a) := ⟨_, rfl⟩
  rw [← hM] at ho8 ⊢
  have w0 := hk8 _ _ (by simp; omega) v0
  have w2 := hk8 _ _ (by simp; omega) v2
  have w3 := hk8 _ _ (by simp; omega) v3
  have wj2 := hk8 _ _ (by simp; omega) vj2
  have hg8 := hg7.kept hk8 (by simp; omega)
  have s0 := (List.getElem?_eq_some_iff.1 w0).1
  have s2 := (List.getElem?_eq_some_iff.1 w2).1
  have s3 := (List.getElem?_eq_some_iff.1 w3).1
  have sj1 := (List.getElem?_eq_some_iff.1 ho8).1
  have sj2 := (List.getElem?_eq_some_iff.1 wj2).1
  have wl := wrap_in ((q.Batches.length : Int) + 1) (by omega)
  simp -dsimp -implicitDefEqProofs [-getElem?_pos, go_sem, hP, t3, w0, s0, hc]
  obtain ⟨Inv2, hInv2⟩ : ∃ Inv : St → Prop, Inv = fun s => ∃ b' : Nat, 5 ≤ b' ∧ s.t 1 = iv day ∧ s.t 3 = .ref 0 0 0 ∧ s.t 6 = .ref 2 0 0 ∧ s.t 7 = .ref 3 0 0 ∧ s.t 13 = paysL L ∧ s.H[0]? = some (some ⟨32, 3, [[.sref j1 0 M.length, .sref j2 0 q.Known.length, .sref b' 0 (q.Batches.length + 1)]]⟩) ∧ s.H[2]? = some (some ⟨32, 3, [[.nil, .nil, .nil]]⟩) ∧ s.H[3]? = some (some ⟨55, 3, [[iv 0, iv 0, .nil]]⟩) ∧ s.H[j1]? = some (some ⟨44, 5, encL TPayment.cells M ++ tl8⟩) ∧ s.H[j2]? = some (some ⟨3, 1, intRows q.Known⟩) ∧ s.H[b']? = some (some ⟨55, 3, encL TBatch.cells (q.Batches ++ [⟨q.Batches.length + 1, day, L⟩])⟩) := ⟨_, rfl⟩
  refine awp_join Inv2 (by rw [hN]; kernel_rfl) ?_ ?_
  · have en : encL TBatch.cells q.Batches ++ [[iv ((q.Batches.length : Int) + 1), iv day, paysL L]] = encL TBatch.cells (q.Batches ++ [⟨q.Batches.length + 1, day, L⟩]) := encL_snoc TBatch.cells q.Batches ⟨q.Batches.length + 1, day, L⟩
    rcases hg8 with ⟨rfl, h⟩ | ⟨jd, hjd, rfl, h⟩
    · have hl0 : q.Batches.length = 0 := by have := congrArg List.length h; rwa [encL_len] at this
      rw [h, hl0] at en
      have w01 : IntKind.i64.wrap 1 = 1 := wrap_in _ (by omega)
      have w01' : IntKind.i64.wrap (0 + 1) = 1 := wrap_in _ (by omega)
      simp -dsimp -implicitDefEqProofs [-getElem?_pos, go_sem, hP, t3, t1, s0, wl, hl0, w01, w01']
      refine ⟨_, Weaker.refl _, ?_⟩
      rw [hInv2]
      refine ⟨H8.length, by omega, by simp -dsimp -implicitDefEqProofs [-getElem?_pos, go_sem, t1], by simp -dsimp -implicitDefEqProofs [-getElem?_pos, go_sem, t3], by simp -dsimp -implicitDefEqProofs [-getElem?_pos, go_sem, t6], by simp -dsimp -implicitDefEqProofs [-getElem?_pos, go_sem, t7], by simp -dsimp -implicitDefEqProofs [-getElem?_pos, go_sem], by simp -dsimp -implicitDefEqProofs [-getElem?_pos, go_sem, s0, hl0], ?_, ?_, ?_, ?_, ?_⟩
      · dsimp only
        rw [List.getElem?_append_left (by simp; omega), List.getElem?_set_ne (by omega)]
        try rw [List.getElem?_set_ne (by omega)]
        exact w2
      · dsimp only
        rw [List.getElem?_append_left (by simp; omega), List.getElem?_set_ne (by omega)]
        try rw [List.getElem?_set_ne (by omega)]
        exact w3
      · dsimp only
        rw [List.getElem?_append_left (by simp; omega), List.getElem?_set_ne (by omega)]
        try rw [List.getElem?_set_ne (by omega)]
        exact ho8
      · dsimp only
        rw [List.getElem?_append_left (by simp; omega), List.getElem?_set_ne (by omega)]
        try rw [List.getElem?_set_ne (by omega)]
        exact wj2
      · dsimp only
        rw [hl0, ← en]
        simp -dsimp -implicitDefEqProofs [-getElem?_pos, go_sem]
    · have sjd := (List.getElem?_eq_some_iff.1 h).1
      have nd0 : ¬ jd = 0 := by omega
      have nd0' : ¬ 0 = jd := by omega
      rw [encL_len]
      simp -dsimp -implicitDefEqProofs [-getElem?_pos, go_sem, hP, t3, t1, s0, wl, h, sjd, nd0, nd0', encL_len]
      refine ⟨by omega, by omega, ?_⟩
      refine ⟨_, Weaker.refl _, ?_⟩
      rw [hInv2]
      refine ⟨H8.length, by omega, by simp -dsimp -implicitDefEqProofs [-getElem?_pos, go_sem, t1], by simp -dsimp -implicitDefEqProofs [-getElem?_pos, go_sem, t3], by simp -dsimp -implicitDefEqProofs [-getElem?_pos, go_sem, t6], by simp -dsimp -implicitDefEqProofs [-getElem?_pos, go_sem, t7], by simp -dsimp -implicitDefEqProofs [-getElem?_pos, go_sem], by simp -dsimp -implicitDefEqProofs [-getElem?_pos, go_sem, s0, nd0], ?_, ?_, ?_, ?_, ?_⟩
      · dsimp only
        rw [List.getElem?_append_left (by simp; omega)]
        repeat rw [List.getElem?_set_ne (by omega)]
        exact w2
      · dsimp only
        rw [List.getElem?_append_left (by simp; omega)]
        repeat rw [List.getElem?_set_ne (by omega)]
        exact w3
      · dsimp only
        rw [List.getElem?_append_left (by simp; omega)]
        repeat rw [List.getElem?_set_ne (by omega)]
        exact ho8
      · dsimp only
        rw [List.getElem?_append_left (by simp; omega)]
        repeat rw [List.getElem?_set_ne (by omega)]
        exact wj2
      · dsimp only
        rw [← en]
        simp -dsimp -implicitDefEqProofs [-getElem?_pos, go_sem]
  intro s hs'
  rw [hInv2] at hs'
  obtain ⟨b', hb', t1, t3, t6, t7, t13, h0, h2, h3, h4, h5, h6⟩ := hs'
  have r0 := (List.getElem?_eq_some_iff.1 h0).1
  have r2 := (List.getElem?_eq_some_iff.1 h2).1
  have r3 := (List.getElem?_eq_some_iff.1 h3).1
  refine awp_sound _ _ _ (by rw [hN]; kernel_rfl) ?_
  simp -dsimp -implicitDefEqProofs [-getElem?_pos, go_sem, hP]
  refine adrawB (fun i => decide (i = 0) || decide (i = b')) [] hP (by kernel_rfl) (by kernel_rfl) ?_
  simp -dsimp -implicitDefEqProofs [-getElem?_pos, go_sem, hP, t1, t3, t6, t7, t13, h0, r0, h6]
  refine callB_is ((clone_pf_pay L (by omega)).lift _ _) hP en_126 (by simpa using iL) iL ?_
  have n22 : ¬ b' = 2 := by omega
  have n33 : ¬ b' = 3 := by omega
  simp -dsimp -implicitDefEqProofs [-getElem?_pos, go_sem, hP, t1, t13, t6, t7, h2, r2, h3, r3]
  refine ⟨fun i hi => ?_, fun i hi => ?_, ?_⟩
  · simp only [Bool.or_eq_true, decide_eq_true_eq] at hi
    rw [List.getElem?_set_ne (by omega)]
  · simp only [Bool.or_eq_true, decide_eq_true_eq] at hi
    rw [List.getElem?_set_ne (by omega)]
  have iB := imm_bat ⟨q.Batches.length + 1, day, L⟩
  refine done_trip (cs' := (TQueue.mk M q.Known (q.Batches ++ [⟨q.Batches.length + 1, day, L⟩])).cells) (ds' := (TBatch.mk (q.Batches.length + 1) day L).cells) ?_ (cw_immL (imm_agg.1 iB)) rfl
  refine cw_srefT (ty := 44) (tl := tl8) ?_ (by rw [encL_len]) (imm_pays _) (cw_sref (ty := 3) (es := intRows q.Known) ?_ (by rw [intRows_len]) (imm_ints _) (cw_sref (ty := 55) (es := encL TBatch.cells (q.Batches ++ [⟨q.Batches.length + 1, day, L⟩])) ?_ (by rw [encL_len]; simp) (imm_bats _) .nil))
  · rw [List.getElem?_set_ne (by omega), List.getElem?_set_ne (by omega), h4]
  · rw [List.getElem?_set_ne (by omega), List.getElem?_set_ne (by omega), h5]
  · rw [List.getElem?_set_ne (by omega), List.getElem?_set_ne (by omega), h6]
open Go.PA
open Go.RowKit
open Go.PA
open Go.RowKit
open Go.PA
open Go.RowKit
open Go.PA
open Go.RowKit
end Go.Proofs.YtmpncdlhmknkoaaGreat
namespace Go.PA
open Go.RowKit
theorem pfun_of_mfun {P : Program} {row src : Option Nat} {f : FuncId} {args : List AV} {C : AV → Heap → Prop} {Q : AV → Prop} (h : MFun P row src f args [] C)
    (hC : ∀ r H', C r H' → ∃ x, Weak (view H' r) x ∧ Imm (view H' r) ∧ Imm x ∧ Q x) : PFun P row src f args Q := by
  intro w ok vs h1 h2 h3 h4
  let E : Env := { P := P, w0 := w, okA := ok, row := row, src := src, N := 0, W := fun _ => False, ρ0 := fun _ => none, H0 := [] }
  have g : Good E w (fun _ => none) [] ok := ⟨rfl, rfl, rfl, Nat.le_refl _, fun _ _ _ _ => rfl, h2, fun b hb => ⟨(h1 b hb).1, (h1 b hb).2, .inl hb⟩, by simp, by simp, by simp, by simp⟩
  refine ((h E rfl rfl rfl).2 w (fun _ => none) ok vs g h3 h4).mono ?_
  rintro e w' ⟨v, r, H', ρ, ok', rfl, hc, g', _, hrep⟩
  obtain ⟨x, hwk, hi, hix, hx⟩ := hC r H' hc
  refine ⟨v, x, rfl, hx, hix, ?_, ⟨g'.os, g'.tape, g'.output, g'.size, fun k hk hne => g'.blk k hk (fun h => h) hne⟩, ?_⟩
  · refine Rep.weak hwk ((view_sound g' hrep hi).imm (fun b hb => ?_) hi)
    rcases hb with hb | ⟨_, _, _, ho, hρ⟩
    · obtain ⟨b1, _, b3⟩ := g'.oks b hb
      exact b3.imp id fun h => ⟨h, b1⟩
    · have hobj := g'.obj _ _ ho
      rw [hρ] at hobj
      obtain ⟨_, _, b3⟩ := g'.own _ _ b _ ho hρ
      exact .inr ⟨b3.resolve_left (fun h => h), hobj.lt⟩
  · refine ⟨h2.1, fun p hp => ?_⟩
    exact g'.inv.2 p hp
theorem pfun_of_mfun_agg {P : Program} {row src : Option Nat} {f : FuncId} {args : List AV} {C : AV → Heap → Prop} {cs : List AV} (h : MFun P row src f args [] C)
    (hi : Imm (.agg cs)) (hC : ∀ r H', C r H' → ∃ xs, r = .agg xs ∧ CW H' xs cs) : PFun P row src f args (· = .agg cs) :=
  pfun_of_mfun h fun r H' hc => by
    obtain ⟨xs, rfl, hw⟩ := hC r H' hc
    exact ⟨.agg cs, hw.weak, hw.imm, hi, rfl⟩
end Go.PA
namespace Go.Proofs.YtmpncdlhmknkoaaGreat
open Go.PA
open Go.RowKit
theorem index_pf_entry (l : List TEntry) (g : FuncId) (caps : List AV) (p : TEntry → Bool) (hl : l.length ≤ 1000000) (hen : enterable Tryz.prog g = true) (hcap : ∀ a, a ∈ caps → Imm a)
    (hg : ∀ a, a ∈ l → PFun Tryz.prog none none g (.agg (TEntry.cells a) :: caps) (· = bv (p a))) :
    PFun Tryz.prog none none 134 [.list 6 (encL TEntry.cells l), .fn g caps] (· = iv (idxI p l)) := by
  refine pfun_intro Tryz.func134 rfl (by simp [Tryz.f134]) (by kernel_rfl) ?_
  intro E hP hr hs hW hN
  simp -dsimp -implicitDefEqProofs [-getElem?_pos, go_sem, hP]
  obtain ⟨I, hI⟩ : ∃ I : Nat → St → Prop, I = fun m s => ∃ k : Nat, k ≤ l.length ∧ m = l.length - k ∧ idxI p l = idxFrom p k (l.drop k) ∧ s.t 0 = .list 6 (encL TEntry.cells l) ∧ s.t 1 = .fn g caps ∧ s.t 7 = iv l.length ∧ s.t 8 = iv k := ⟨_, rfl⟩
  refine aloop0 I (l.length) (by rw [hN]; rfl) ?_ ?_
  · rw [hI]
    exact ⟨0, by omega, by omega, by simp [idxI], by simp -dsimp -implicitDefEqProofs [-getElem?_pos, go_sem], by simp -dsimp -implicitDefEqProofs [-getElem?_pos, go_sem], by simp -dsimp -implicitDefEqProofs [-getElem?_pos, go_sem], by simp -dsimp -implicitDefEqProofs [-getElem?_pos, go_sem]⟩
  intro m s hs'
  rw [hI] at hs'
  obtain ⟨k, hk, hm, hi, t0, t1, t7, t8⟩ := hs'
  simp -dsimp -implicitDefEqProofs [-getElem?_pos, go_sem, hP, t7, t8]
  refine condP (fun h => ?_) (fun h => ?_)
  · have hk : k < l.length := by simpa using h
    obtain ⟨a, ha⟩ : ∃ a, l[k]? = some a := ⟨_, List.getElem?_eq_getElem hk⟩
    have wk := wrap_in ((k : Int) + 1) (by omega)
    have hz : (TEntry.cells a).take 6 = TEntry.cells a := List.take_of_length_le (by rw [TEntry.len]; omega)
    have hd : l.drop k = a :: l.drop (k + 1) := by
      rw [List.getElem?_eq_getElem hk] at ha
      rw [List.drop_eq_getElem_cons hk, Option.some.inj ha]
    simp -dsimp -implicitDefEqProofs [-getElem?_pos, go_sem, hP, t8, t1, t0, ha, TEntry.len, hz]
    refine callB_is ((hg a (List.mem_of_getElem? ha)).lift _ _) hP hen (fun x hx => ?_) .sc ?_
    · rcases List.mem_cons.1 hx with rfl | hx
      · exact imm_agg.2 (TEntry.imm a)
      · exact hcap x hx
    rw [hd] at hi
    simp only [idxFrom] at hi
    simp -dsimp -implicitDefEqProofs [-getElem?_pos, go_sem, hP]
    refine condP (fun hp => ?_) (fun hp => ?_)
    · rw [if_pos hp] at hi
      simp -dsimp -implicitDefEqProofs [-getElem?_pos, go_sem, hP]
      exact hi.symm
    · rw [hp, if_neg (by simp)] at hi
      simp -dsimp -implicitDefEqProofs [-getElem?_pos, go_sem, hP, t8, wk]
      refine ⟨l.length - (k + 1), by omega, ?_⟩
      rw [hI]
      exact ⟨k + 1, by omega, rfl, hi, by simp -dsimp -implicitDefEqProofs [-getElem?_pos, go_sem, t0], by simp -dsimp -implicitDefEqProofs [-getElem?_pos, go_sem, t1], by simp -dsimp -implicitDefEqProofs [-getElem?_pos, go_sem, t7], by simp -dsimp -implicitDefEqProofs [-getElem?_pos, go_sem]⟩
  · have hk : k = l.length := by simp at h; omega
    subst hk
    rw [List.drop_length] at hi
    simp -dsimp -implicitDefEqProofs [-getElem?_pos, go_sem, hP]
    exact hi.symm
theorem clone_m_item {row src : Option Nat} (l : List TItem) (H : Heap) (hl : l.length ≤ 1000000) : MFun Tryz.prog row src 124 [.list 7 (encL TItem.cells l)] H (fun r H' => ∃ id, r = .sref id 0 l.length ∧ H.length ≤ id ∧ H'[id]? = some (some ⟨46, 7, encL TItem.cells l⟩) ∧ Kept [] H H') := by
  have own : MFun Tryz.prog row src 124 [.list 7 (encL TItem.cells l)] H (fun r H' => (r = .nil ∧ l = [] ∧ H' = H) ∨ ∃ id, r = .sref id 0 l.length ∧ H.length ≤ id ∧ H'[id]? = some (some ⟨46, 7, encL TItem.cells l⟩) ∧ Kept [] H H') := by
    cases l with
    | nil =>
      refine mfun_list_nil fun A c => ?_
      refine mfun_intro Tryz.func124 rfl (by simp [Tryz.f124]) (by kernel_rfl) ⟨.nil, H, .inl ⟨rfl, rfl, rfl⟩⟩ ?_
      intro E hP hr hs hN
      cases A with
      | none => simp -dsimp -implicitDefEqProofs [-getElem?_pos, go_sem, hP]
      | some a =>
        simp -dsimp -implicitDefEqProofs [-getElem?_pos, go_sem, hP]
        exact kept_app _ _ _
    | cons a l =>
      refine mfun_intro Tryz.func124 rfl (by simp [Tryz.f124]) (by kernel_rfl) ⟨_, H ++ [some ⟨46, 7, encL TItem.cells (a :: l)⟩], .inr ⟨H.length, rfl, Nat.le_refl _, by simp, kept_push _ (kept_refl _ _)⟩⟩ ?_
      intro E hP hr hs hN
      simp only [List.length_cons] at hl
      have e : encL TItem.cells (a :: l) = TItem.cells a :: encL TItem.cells l := rfl
      simp -dsimp -implicitDefEqProofs [-getElem?_pos, go_sem, hP, e]
      refine ⟨by omega, by omega, ?_⟩
      exact kept_app _ _ _
  refine (own.ownNil 46 7).mono ?_
  rintro r H' (⟨H0, h0, rfl, rfl⟩ | ⟨hne, h⟩)
  · rcases h0 with ⟨_, rfl, rfl⟩ | ⟨id, h, _⟩
    · exact ⟨_, rfl, Nat.le_refl _, by simp [encL], kept_push _ (kept_refl _ _)⟩
    · cases h
  · rcases h with ⟨h, _⟩ | h
    · exact absurd h hne
    · exact h
theorem cQn (q : TQueue) : q.cells = [paysL q.Waiting, numsL q.Known, batsL q.Batches] := rfl
theorem cDn (d : TDesk) : d.cells = [iv d.Account.Credit, subsL d.Account.Subs, entsL d.Account.Entries, paysL d.Queue.Waiting, numsL d.Queue.Known, batsL d.Queue.Batches, itemsL d.Items] := rfl
theorem equalInts_pf (a b : List Int) (ha : a.length ≤ 100000) (hb : b.length ≤ 100000) :
    PFun Tryz.prog none none 55 [.list 1 (encL encI a), .list 1 (encL encI b)] (· = bv (decide (a = b))) := by
  refine pfun_intro Tryz.func55 rfl (by simp [Tryz.f55]) (by kernel_rfl) ?_
  intro E hP hr hs hW hN
  by_cases hlen : a.length = b.length
  rotate_left
  · have hne : ¬ a = b := fun h => hlen (by rw [h])
    have hl : decide ((a.length : Int) = (b.length : Int)) = false := by simp; omega
    simp -dsimp -implicitDefEqProofs [-getElem?_pos, go_sem, hP, hl, hne]
  have hl : decide ((a.length : Int) = (b.length : Int)) = true := by simp; omega
  simp -dsimp -implicitDefEqProofs [-getElem?_pos, go_sem, hP, hl]
  obtain ⟨I, hI⟩ : ∃ I : Nat → St → Prop, I = fun m s => ∃ k : Nat, k ≤ a.length ∧ m = a.length - k ∧ s.t 0 = .list 1 (encL encI a) ∧ s.t 1 = .list 1 (encL encI b) ∧ s.t 12 = iv a.length ∧ s.t 13 = iv k ∧ a.take k = b.take k := ⟨_, rfl⟩
  refine aloop0 I (a.length) (by rw [hN]; rfl) ?_ ?_
  · rw [hI]
    exact ⟨0, by omega, by omega, by simp -dsimp -implicitDefEqProofs [-getElem?_pos, go_sem], by simp -dsimp -implicitDefEqProofs [-getElem?_pos, go_sem], by simp -dsimp -implicitDefEqProofs [-getElem?_pos, go_sem], by simp -dsimp -implicitDefEqProofs [-getElem?_pos, go_sem], by simp⟩
  intro m s hs'
  rw [hI] at hs'
  obtain ⟨k, hk, hm, t0, t1, t12, t13, heq⟩ := hs'
  simp -dsimp -implicitDefEqProofs [-getElem?_pos, go_sem, hP, t12, t13]
  refine condP (fun h => ?_) (fun h => ?_)
  · have hk : k < a.length := by simpa using h
    obtain ⟨x, hx⟩ : ∃ x, a[k]? = some x := ⟨_, List.getElem?_eq_getElem hk⟩
    obtain ⟨y, hy⟩ : ∃ y, b[k]? = some y := ⟨_, List.getElem?_eq_getElem (by omega)⟩
    have wk := wrap_in ((k : Int) + 1) (by omega)
    have tx : a.take (k + 1) = a.take k ++ [x] := by rw [List.take_add_one, hx]; rfl
    have ty : b.take (k + 1) = b.take k ++ [y] := by rw [List.take_add_one, hy]; rfl
    simp -dsimp -implicitDefEqProofs [-getElem?_pos, go_sem, hP, t13]
    refine adrawB (fun _ => true) [] hP (by kernel_rfl) (by kernel_rfl) ?_
    by_cases hxy : x = y
    · subst hxy
      simp -dsimp -implicitDefEqProofs [-getElem?_pos, go_sem, hP, t0, t1, hx, hy, encI, t13, wk]
      refine ⟨a.length - (k + 1), by omega, ?_⟩
      rw [hI]
      exact ⟨k + 1, by omega, rfl, by simp -dsimp -implicitDefEqProofs [-getElem?_pos, go_sem, t0], by simp -dsimp -implicitDefEqProofs [-getElem?_pos, go_sem, t1], by simp -dsimp -implicitDefEqProofs [-getElem?_pos, go_sem, t12], by simp -dsimp -implicitDefEqProofs [-getElem?_pos, go_sem], by rw [tx, ty, heq]⟩
    · have hne : ¬ a = b := fun h => by
        subst h
        rw [hx] at hy
        exact hxy (Option.some.inj hy)
      have dxy : decide (x = y) = false := decide_eq_false hxy
      simp -dsimp -implicitDefEqProofs [-getElem?_pos, go_sem, hP, t0, t1, hx, hy, encI, t13, wk, dxy, hne]
  · have hk : k = a.length := by simp at h; omega
    subst hk
    rw [List.take_length] at heq
    rw [hlen, List.take_length] at heq
    simp -dsimp -implicitDefEqProofs [-getElem?_pos, go_sem, hP, heq]
theorem indexPay_pf (l : List TPayment) (v : TPayment) (hl : l.length ≤ 1000000) : PFun Tryz.prog none none 160 [paysL l, .agg v.cells] (· = iv (idxI (fun x => decide (v = x)) l)) := by
  refine pfun_intro Tryz.func160 rfl (by simp [Tryz.f160]) (by kernel_rfl) ?_
  intro E hP hr hs hW hN
  simp -dsimp -implicitDefEqProofs [-getElem?_pos, go_sem, hP, cPy]
  obtain ⟨I, hI⟩ : ∃ I : Nat → St → Prop, I = fun m s => ∃ k : Nat, k ≤ l.length ∧ m = l.length - k ∧ idxI (fun x => decide (v = x)) l = idxFrom (fun x => decide (v = x)) k (l.drop k) ∧ s.t 0 = paysL l ∧ s.t 3 = .ref 0 0 0 ∧ s.t 7 = iv l.length ∧ s.t 8 = iv k ∧ s.H[0]? = some (some ⟨44, 5, [[iv v.Warrant, iv v.Payee, iv v.Amount, iv v.Due, iv v.Sub]]⟩) := ⟨_, rfl⟩
  refine aloop0 I (l.length) (by rw [hN]; rfl) ?_ ?_
  · rw [hI]
    exact ⟨0, by omega, by omega, by simp [idxI], by simp -dsimp -implicitDefEqProofs [-getElem?_pos, go_sem], by simp -dsimp -implicitDefEqProofs [-getElem?_pos, go_sem], by simp -dsimp -implicitDefEqProofs [-getElem?_pos, go_sem], by simp -dsimp -implicitDefEqProofs [-getElem?_pos, go_sem], by simp -dsimp -implicitDefEqProofs [-getElem?_pos, go_sem]⟩
  intro m s hs'
  rw [hI] at hs'
  obtain ⟨k, hk, hm, hi, t0, t3, t7, t8, h0⟩ := hs'
  have lt0 := (List.getElem?_eq_some_iff.1 h0).1
  simp -dsimp -implicitDefEqProofs [-getElem?_pos, go_sem, hP, t7, t8]
  refine condP (fun h => ?_) (fun h => ?_)
  · have hk : k < l.length := by simpa using h
    obtain ⟨a, ha⟩ : ∃ a, l[k]? = some a := ⟨_, List.getElem?_eq_getElem hk⟩
    have wk := wrap_in ((k : Int) + 1) (by omega)
    rw [drop_at ha] at hi
    simp only [idxFrom] at hi
    simp -dsimp -implicitDefEqProofs [-getElem?_pos, go_sem, hP, t8]
    refine adrawB (fun _ => true) [] hP (by kernel_rfl) (by kernel_rfl) ?_
    by_cases hp : v = a
    · subst hp
      rw [if_pos (by simp)] at hi
      simp -dsimp -implicitDefEqProofs [-getElem?_pos, go_sem, hP, t8, t3, t0, ha, h0, lt0, cPy]
      exact hi.symm
    · rw [if_neg (by simpa using hp)] at hi
      simp -dsimp -implicitDefEqProofs [-getElem?_pos, go_sem, hP, t8, t3, t0, ha, h0, lt0, cPy, wk]
      refine condP (fun h => ?_) (fun h => ?_)
      · exact absurd (by cases v; cases a; simp at h; simp [h]) hp
      · simp -dsimp -implicitDefEqProofs [-getElem?_pos, go_sem, hP, t8, wk]
        refine ⟨l.length - (k + 1), by omega, ?_⟩
        rw [hI]
        exact ⟨k + 1, by omega, rfl, hi, by simp -dsimp -implicitDefEqProofs [-getElem?_pos, go_sem, t0], by simp -dsimp -implicitDefEqProofs [-getElem?_pos, go_sem, t3], by simp -dsimp -implicitDefEqProofs [-getElem?_pos, go_sem, t7], by simp -dsimp -implicitDefEqProofs [-getElem?_pos, go_sem], by simp -dsimp -implicitDefEqProofs [-getElem?_pos, go_sem, h0]⟩
  · have hk : k = l.length := by simp at h; omega
    subst hk
    rw [List.drop_length] at hi
    simp -dsimp -implicitDefEqProofs [-getElem?_pos, go_sem, hP]
    exact hi.symm
theorem containsPay_pf (l : List TPayment) (v : TPayment) (hl : l.length ≤ 1000000) : PFun Tryz.prog none none 115 [paysL l, .agg v.cells] (· = bv (decide (v ∈ l))) := by
  refine pfun_intro Tryz.func115 rfl (by simp [Tryz.f115]) (by kernel_rfl) ?_
  intro E hP hr hs hW hN
  have ix := indexPay_pf l v hl
  have iv' := imm_pay v
  have il := imm_pays l
  rw [cPy] at ix iv'
  simp -dsimp -implicitDefEqProofs [-getElem?_pos, go_sem, hP, cPy]
  refine callB_is (ix.lift _ _) hP en_160 (by simpa using ⟨il, iv'⟩) .sc ?_
  rcases idxI_spec (fun x => decide (v = x)) l with ⟨h1, h2⟩ | ⟨i, a, h1, h2, h3, _⟩
  · have : decide (v ∈ l) = false := decide_eq_false fun hv => by simpa using h2 v hv
    simp -dsimp -implicitDefEqProofs [-getElem?_pos, go_sem, hP, h1, this]
  · have d : decide ((0 : Int) ≤ (i : Int)) = true := decide_eq_true (by omega)
    have hva : v = a := by simpa using h2
    have : decide (v ∈ l) = true := decide_eq_true (hva ▸ List.mem_of_getElem? h1)
    simp -dsimp -implicitDefEqProofs [-getElem?_pos, go_sem, hP, h3, d, this]
def CutI (l : List TItem) (w : Int) (k : Nat) : Prop := k ≤ l.length ∧ ∀ h x, l[h]? = some x → (x.Payment.Warrant < w ↔ h < k)
def PlaceQ (l : List TItem) (w : Int) (r : AV) : Prop := ∃ i : Nat, i ≤ l.length ∧ r = .tup [iv i, bv (decide ((l[i]?).map wrt = some w))] ∧ ∀ k, CutI l w k → i = k
theorem place1_pf (x : TItem) (w : Int) : PFun Tryz.prog none none 120 [.agg x.cells, iv w] (· = iv (cmpI x.Payment.Warrant w)) := by
  refine pfun_intro Tryz.func120 rfl (by simp [Tryz.f120]) (by kernel_rfl) ?_
  intro E hP hr hs hW hN
  simp -dsimp -implicitDefEqProofs [-getElem?_pos, go_sem, hP, cIt]
  refine callB_pure (compare_pf x.Payment.Warrant w) hP en_121 (args_same (by simp -dsimp -implicitDefEqProofs [-getElem?_pos, go_sem])) .sc ?_
  simp -dsimp -implicitDefEqProofs [-getElem?_pos, go_sem, hP]
theorem cmpI_lt (a b : Int) : decide (cmpI a b < 0) = decide (a < b) := by
  rw [decide_eq_decide]
  simp only [cmpI]
  repeat' split
  all_goals omega
theorem cmpI_eq (a b : Int) : decide (cmpI a b = 0) = decide (a = b) := by
  rw [decide_eq_decide]
  simp only [cmpI]
  repeat' split
  all_goals omega
set_option maxHeartbeats 1000000 in
theorem bsfItem_pf (l : List TItem) (w : Int) (hl : l.length ≤ 1000000) : PFun Tryz.prog none none 119 [itemsL l, iv w, .fn 120 []] (PlaceQ l w) := by
  refine pfun_intro Tryz.func119 rfl (by simp [Tryz.f119]) (by kernel_rfl) ?_
  intro E hP hr hs hW hN
  simp -dsimp -implicitDefEqProofs [-getElem?_pos, go_sem, hP]
  obtain ⟨I, hI⟩ : ∃ I : Nat → St → Prop, I = fun m s => ∃ i j : Nat, (∀ k, CutI l w k → i ≤ k ∧ k ≤ j) ∧ i ≤ j ∧ j ≤ l.length ∧ m = j - i ∧ s.t 0 = itemsL l ∧ s.t 1 = iv w ∧ s.t 2 = .fn 120 [] ∧ s.t 8 = iv l.length ∧ s.t 9 = iv i ∧ s.t 10 = iv j := ⟨_, rfl⟩
  refine aloop0 I (l.length) (by rw [hN]; rfl) ?_ ?_
  · rw [hI]
    exact ⟨0, l.length, fun k hk => ⟨by omega, hk.1⟩, by omega, by omega, rfl, by simp -dsimp -implicitDefEqProofs [-getElem?_pos, go_sem], by simp -dsimp -implicitDefEqProofs [-getElem?_pos, go_sem], by simp -dsimp -implicitDefEqProofs [-getElem?_pos, go_sem], by simp -dsimp -implicitDefEqProofs [-getElem?_pos, go_sem], by simp -dsimp -implicitDefEqProofs [-getElem?_pos, go_sem], by simp -dsimp -implicitDefEqProofs [-getElem?_pos, go_sem]⟩
  intro m s hs'
  rw [hI] at hs'
  obtain ⟨i, j, hc, hij, hjl, hm', t0, t1, t2, t8, t9, t10⟩ := hs'
  simp -dsimp -implicitDefEqProofs [-getElem?_pos, go_sem, hP, t9, t10]
  refine condP (fun h => ?_) (fun h => ?_)
  · have hij : i < j := by simpa using h
    have w1 := wrap_in ((i : Int) + j) (by omega)
    have wu : IntKind.u64.wrap ((i : Int) + j) = (i : Int) + j := by rw [IntKind.wrap_u64]; omega
    obtain ⟨h, hh⟩ : ∃ h, h = (i + j) / 2 := ⟨_, rfl⟩
    have wh : IntKind.i64.wrap (((i : Int) + j) / 2) = (h : Int) := by rw [wrap_in _ (by omega)]; omega
    obtain ⟨a, ha⟩ : ∃ a, l[h]? = some a := ⟨_, List.getElem?_eq_getElem (by omega)⟩
    have w2 := wrap_in ((h : Int) + 1) (by omega)
    have ia := imm_item a
    have cm := place1_pf a w
    rw [cIt] at cm ia
    have cl := cmpI_lt a.Payment.Warrant w
    simp -dsimp -implicitDefEqProofs [-getElem?_pos, go_sem, hP, t9, t10, w1, wu, aconv, aint_shr, wh, t0, t1, t2, ha, cIt]
    refine callB_is (cm.lift _ _) hP en_120 (by simpa [imm_sc] using ia) .sc ?_
    by_cases c : a.Payment.Warrant < w
    · have c1 : decide (cmpI a.Payment.Warrant w < 0) = true := by rw [cl]; exact decide_eq_true c
      simp -dsimp -implicitDefEqProofs [-getElem?_pos, go_sem, hP, c1, w2]
      refine ⟨j - (h + 1), by omega, ?_⟩
      rw [hI]
      exact ⟨h + 1, j, fun k hk => ⟨by have := (hk.2 h a ha).1 c; omega, (hc k hk).2⟩, by omega, by omega, rfl, by simp -dsimp -implicitDefEqProofs [-getElem?_pos, go_sem, t0], by simp -dsimp -implicitDefEqProofs [-getElem?_pos, go_sem, t1], by simp -dsimp -implicitDefEqProofs [-getElem?_pos, go_sem, t2], by simp -dsimp -implicitDefEqProofs [-getElem?_pos, go_sem, t8], by simp -dsimp -implicitDefEqProofs [-getElem?_pos, go_sem], by simp -dsimp -implicitDefEqProofs [-getElem?_pos, go_sem, t10]⟩
    · have c1 : decide (cmpI a.Payment.Warrant w < 0) = false := by rw [cl]; exact decide_eq_false c
      simp -dsimp -implicitDefEqProofs [-getElem?_pos, go_sem, hP, c1]
      refine ⟨h - i, by omega, ?_⟩
      rw [hI]
      exact ⟨i, h, fun k hk => ⟨(hc k hk).1, by have := mt (hk.2 h a ha).2 c; omega⟩, by omega, by omega, rfl, by simp -dsimp -implicitDefEqProofs [-getElem?_pos, go_sem, t0], by simp -dsimp -implicitDefEqProofs [-getElem?_pos, go_sem, t1], by simp -dsimp -implicitDefEqProofs [-getElem?_pos, go_sem, t2], by simp -dsimp -implicitDefEqProofs [-getElem?_pos, go_sem, t8], by simp -dsimp -implicitDefEqProofs [-getElem?_pos, go_sem, t9], by simp -dsimp -implicitDefEqProofs [-getElem?_pos, go_sem]⟩
  · have hik : i = j := by
      have : ¬ i < j := by simpa using h
      omega
    subst hik
    have fin : PlaceQ l w (.tup [iv i, bv (decide ((l[i]?).map wrt = some w))]) := ⟨i, hjl, rfl, fun k hk => by have := hc k hk; omega⟩
    by_cases c : i < l.length
    · obtain ⟨a, ha⟩ : ∃ a, l[i]? = some a := ⟨_, List.getElem?_eq_getElem c⟩
      have d : decide ((i : Int) < (l.length : Int)) = true := decide_eq_true (by omega)
      have ia := imm_item a
      have cm := place1_pf a w
      rw [cIt] at cm ia
      rw [ha] at fin
      have e : decide (Option.map wrt (some a) = some w) = decide (cmpI a.Payment.Warrant w = 0) := by rw [cmpI_eq, decide_eq_decide]; simp [wrt]
      rw [e] at fin
      simp -dsimp -implicitDefEqProofs [-getElem?_pos, go_sem, hP, t9, t8, c, d, t0, t1, t2, ha, cIt]
      refine callB_is (cm.lift _ _) hP en_120 (by simpa [imm_sc] using ia) .sc ?_
      simp -dsimp -implicitDefEqProofs [-getElem?_pos, go_sem, hP, t9, t8, c, d, t0, t2, ha]
      exact done_imm (imm_pair .sc .sc) fin
    · have d : decide ((i : Int) < (l.length : Int)) = false := decide_eq_false (by omega)
      rw [List.getElem?_eq_none (by omega)] at fin
      simp -dsimp -implicitDefEqProofs [-getElem?_pos, go_sem, hP, t9, t8, c, d]
      exact done_imm (imm_pair .sc .sc) (by simpa using fin)
theorem CutI.uniq {l : List TItem} {w : Int} {j k : Nat} (hj : CutI l w j) (hk : CutI l w k) : j = k := by
  have key : ∀ {j k : Nat}, CutI l w j → CutI l w k → ¬ j < k := fun {j k} hj hk h => by
    obtain ⟨x, hx⟩ : ∃ x, l[j]? = some x := ⟨_, List.getElem?_eq_getElem (by have := hk.1; omega)⟩
    have h1 := (hk.2 j x hx).2 h
    have h2 := (hj.2 j x hx).1 h1
    omega
  have := key hj hk
  have := key hk hj
  omega
theorem placeQ_ex (l : List TItem) (w : Int) : ∃ r, PlaceQ l w r ∧ Imm r := by
  by_cases h : ∃ k, CutI l w k
  · obtain ⟨k, hk⟩ := h
    exact ⟨_, ⟨k, hk.1, rfl, fun j hj => hk.uniq hj⟩, imm_pair .sc .sc⟩
  · exact ⟨_, ⟨0, by omega, rfl, fun j hj => absurd ⟨j, hj⟩ h⟩, imm_pair .sc .sc⟩
theorem PlaceQ.flat {l : List TItem} {w : Int} {r : AV} (h : PlaceQ l w r) : Flat r := by
  obtain ⟨i, _, rfl, _⟩ := h
  simp [flat_tup, flat_sc]
theorem place_pf (d : TDesk) (w : Int) (hl : d.Items.length ≤ 1000000) : PFun Tryz.prog none none 56 [.agg d.cells, iv w] (PlaceQ d.Items w) := by
  refine pfun_intro Tryz.func56 rfl (by simp [Tryz.f56]) (by kernel_rfl) ?_
  intro E hP hr hs hW hN
  have ii := imm_items d.Items
  simp -dsimp -implicitDefEqProofs [-getElem?_pos, go_sem, hP, cDn]
  refine callB_isQ ((bsfItem_pf d.Items w hl).lift _ _) hP en_119 (by simp [imm_sc, imm_fn, ii]) (placeQ_ex _ _) ?_
  rintro r ⟨i, h1, rfl, h2⟩ _
  simp -dsimp -implicitDefEqProofs [-getElem?_pos, go_sem, hP]
  exact done_imm (imm_pair .sc .sc) ⟨i, h1, by simp, h2⟩
open Go.PA
open Go.RowKit
theorem out_pf (x : TItem) : PFun Tryz.prog none none 162 [.agg x.cells] (· = bv (goneB x)) := by
  refine pfun_intro Tryz.func162 rfl (by simp [Tryz.f162]) (by kernel_rfl) ?_
  intro E hP hr hs hW hN
  by_cases h1 : x.State = 2
  · simp -dsimp -implicitDefEqProofs [-getElem?_pos, go_sem, hP, cIt, h1, goneB]
  · have d1 := decide_eq_false h1
    simp -dsimp -implicitDefEqProofs [-getElem?_pos, go_sem, hP, cIt, h1, d1, goneB]
theorem lastDay_pf (a : TAccount) (he : a.Entries.length ≤ 100000) : PFun Tryz.prog none none 57 [.agg a.cells] (· = iv (lastDay a)) := by
  refine pfun_intro Tryz.func57 rfl (by simp [Tryz.f57]) (by kernel_rfl) ?_
  intro E hP hr hs hW hN
  by_cases h0 : a.Entries.length = 0
  · have d0 : decide (0 < a.Entries.length) = false := decide_eq_false (by omega)
    have : lastDay a = 0 := by rw [lastDay, lastE_nil h0]
    simp -dsimp -implicitDefEqProofs [-getElem?_pos, go_sem, hP, cA, d0, this]
  · obtain ⟨k, hk⟩ : ∃ k, a.Entries.length = k + 1 := ⟨a.Entries.length - 1, by omega⟩
    obtain ⟨e, hee⟩ : ∃ e, a.Entries[k]? = some e := ⟨_, List.getElem?_eq_getElem (by omega)⟩
    have d0 : decide ((0 : Int) < (k : Int) + 1) = true := by simp
    have wk := wrap_in ((k : Int) + 1 - 1) (by omega)
    rw [Int.add_sub_cancel] at wk
    have : lastDay a = e.Day := by rw [lastDay, lastE_get hk hee]
    simp -dsimp -implicitDefEqProofs [-getElem?_pos, go_sem, hP, cA, hk, d0, Int.add_sub_cancel, wk, hee, cE, this]
theorem sent1_pf (p : TPayment) (w : Int) : PFun Tryz.prog none none 161 [.agg p.cells, .iref [iv w]] (· = bv (hasW w p)) := by
  refine pfun_intro Tryz.func161 rfl (by simp [Tryz.f161]) (by kernel_rfl) ?_
  intro E hP hr hs hW hN
  simp -dsimp -implicitDefEqProofs [-getElem?_pos, go_sem, hP, cPy, hasW]
theorem sent_pf (q : TQueue) (w : Int) (hf : FitQ q) : PFun Tryz.prog none none 117 [.agg q.cells, iv w] (· = iv (sentN q w)) := by
  refine pfun_intro Tryz.func117 rfl (by simp [Tryz.f117]) (by kernel_rfl) ?_
  intro E hP hr hs hW hN
  obtain ⟨R, hR⟩ : ∃ R, R = sentN q w := ⟨_, rfl⟩
  rw [← hR]
  rw [sentN] at hR
  have lb := hf.b
  have each := hf.each
  obtain ⟨l, hl⟩ : ∃ l, l = q.Batches := ⟨_, rfl⟩
  rw [← hl] at hR lb each
  simp -dsimp -implicitDefEqProofs [-getElem?_pos, go_sem, hP, cQn, ← hl]
  obtain ⟨I, hI⟩ : ∃ I : Nat → St → Prop, I = fun m s => ∃ k : Nat, k ≤ l.length ∧ m = l.length - k ∧ s.t 3 = .ref 1 0 0 ∧ s.t 5 = iv ((l.take k).countP fun b => b.Payments.any (hasW w)) ∧ s.t 9 = batsL l ∧ s.t 10 = iv l.length ∧ s.t 11 = iv k ∧ s.H[1]? = some (some ⟨3, 1, [[iv w]]⟩) := ⟨_, rfl⟩
  refine aloop0 I (l.length) (by rw [hN]; rfl) ?_ ?_
  · rw [hI]
    exact ⟨0, by omega, by omega, by simp -dsimp -implicitDefEqProofs [-getElem?_pos, go_sem], by simp -dsimp -implicitDefEqProofs [-getElem?_pos, go_sem], by simp -dsimp -implicitDefEqProofs [-getElem?_pos, go_sem], by simp -dsimp -implicitDefEqProofs [-getElem?_pos, go_sem], by simp -dsimp -implicitDefEqProofs [-getElem?_pos, go_sem], by simp -dsimp -implicitDefEqProofs [-getElem?_pos, go_sem]⟩
  intro m s hs'
  rw [hI] at hs'
  obtain ⟨k, hk, hm, t3, t5, t9, t10, t11, h1⟩ := hs'
  have lt1 := (List.getElem?_eq_some_iff.1 h1).1
  simp -dsimp -implicitDefEqProofs [-getElem?_pos, go_sem, hP, t10, t11]
  refine condP (fun h => ?_) (fun h => ?_)
  · have hk : k < l.length := by simpa using h
    obtain ⟨b, hb⟩ : ∃ b, l[k]? = some b := ⟨_, List.getElem?_eq_getElem hk⟩
    have wk := wrap_in ((k : Int) + 1) (by omega)
    have hbl := each b (List.mem_of_getElem? hb)
    have ip := imm_pays b.Payments
    have g1 : ∀ x : Option AObj, (s.H ++ [x])[1]? = some (some ⟨3, 1, [[iv w]]⟩) := fun x => by rw [List.getElem?_append_left lt1]; exact h1
    have es : (l.take (k + 1)).countP (fun b => b.Payments.any (hasW w)) = (l.take k).countP (fun b => b.Payments.any (hasW w)) + if b.Payments.any (hasW w) = true then 1 else 0 := by rw [take_at hb, List.countP_append, List.countP_cons, List.countP_nil, Nat.zero_add]
    have lc := List.countP_le_length (p := fun b : TBatch => b.Payments.any (hasW w)) (l := l.take k)
    rw [List.length_take] at lc
    generalize (l.take k).countP (fun b => b.Payments.any (hasW w)) = c at es t5 lc
    have wc := wrap_in ((c : Int) + 1) (by omega)
    simp -dsimp -implicitDefEqProofs [-getElem?_pos, go_sem, hP, t9, t11, hb, cBt, t3]
    refine callB_pure (contains_pf_pay b.Payments 161 [.iref [iv w]] (hasW w) (by omega) en_161 (by simp [imm_iref, imm_sc]) fun p _ => sent1_pf p w) hP en_158 (args_imm ip (args_fnc (cs := [.ref 1 0 0]) (by simp -dsimp -implicitDefEqProofs [-getElem?_pos, go_sem, viewR_ref, g1, lt1, h1]) (by simp [imm_iref, imm_sc]) (args_nil.2 trivial))) .sc ?_
    cases hc : b.Payments.any (hasW w)
    · rw [hc] at es
      simp -dsimp -implicitDefEqProofs [-getElem?_pos, go_sem, hP, t5, t11, wk]
      refine ⟨l.length - (k + 1), by omega, ?_⟩
      rw [hI]
      exact ⟨k + 1, by omega, rfl, by simp -dsimp -implicitDefEqProofs [-getElem?_pos, go_sem, t3], by simp -dsimp -implicitDefEqProofs [-getElem?_pos, go_sem, t5, es], by simp -dsimp -implicitDefEqProofs [-getElem?_pos, go_sem, t9], by simp -dsimp -implicitDefEqProofs [-getElem?_pos, go_sem, t10], by simp -dsimp -implicitDefEqProofs [-getElem?_pos, go_sem], by simp -dsimp -implicitDefEqProofs [-getElem?_pos, go_sem, lt1, h1]⟩
    · rw [hc] at es
      simp -dsimp -implicitDefEqProofs [-getElem?_pos, go_sem, hP, t5, t11, wk, wc]
      refine ⟨l.length - (k + 1), by omega, ?_⟩
      rw [hI]
      exact ⟨k + 1, by omega, rfl, by simp -dsimp -implicitDefEqProofs [-getElem?_pos, go_sem, t3], by simp -dsimp -implicitDefEqProofs [-getElem?_pos, go_sem, es], by simp -dsimp -implicitDefEqProofs [-getElem?_pos, go_sem, t9], by simp -dsimp -implicitDefEqProofs [-getElem?_pos, go_sem, t10], by simp -dsimp -implicitDefEqProofs [-getElem?_pos, go_sem], by simp -dsimp -implicitDefEqProofs [-getElem?_pos, go_sem, lt1, h1]⟩
  · have hk : k = l.length := by simp at h; omega
    subst hk
    rw [List.take_length] at t5
    simp -dsimp -implicitDefEqProofs [-getElem?_pos, go_sem, hP, t5, hR]
theorem moved_pf (a : TAccount) (x : TItem) (he : a.Entries.length ≤ 100000) (hs1 : 1 ≤ x.Payment.Sub) : PFun Tryz.prog none none 118 [.agg a.cells, .agg x.cells] (· = bv (movedB a x)) := by
  refine pfun_intro Tryz.func118 rfl (by simp [Tryz.f118]) (by kernel_rfl) ?_
  intro E hP hr hs hW hN
  have ix := imm_item x
  have ot := out_pf x
  rw [cIt] at ix ot
  obtain ⟨R, hR⟩ : ∃ R, R = movedB a x := ⟨_, rfl⟩
  rw [← hR]
  rw [movedB] at hR
  obtain ⟨l, hl⟩ : ∃ l, l = a.Entries := ⟨_, rfl⟩
  rw [← hl] at hR he
  simp -dsimp -implicitDefEqProofs [-getElem?_pos, go_sem, hP, cA, cIt, ← hl]
  obtain ⟨I, hI⟩ : ∃ I : Nat → St → Prop, I = fun m s => ∃ k : Nat, k ≤ l.length ∧ m = l.length - k ∧ (l.take k).all (okE x.Payment) = true ∧ s.t 3 = .ref 1 0 0 ∧ s.t 5 = iv ((l.take k).countP (outE x.Payment)) ∧ s.t 6 = iv ((l.take k).countP (inE x.Payment)) ∧ s.t 10 = entsL l ∧ s.t 11 = iv l.length ∧ s.t 12 = iv k ∧ s.H[1]? = some (some ⟨46, 7, [[iv x.Payment.Warrant, iv x.Payment.Payee, iv x.Payment.Amount, iv x.Payment.Due, iv x.Payment.Sub, iv x.State, iv x.Attempts]]⟩) := ⟨_, rfl⟩
  refine aloop0 I (l.length) (by rw [hN]; rfl) ?_ ?_
  · rw [hI]
    exact ⟨0, by omega, by omega, by simp, by simp -dsimp -implicitDefEqProofs [-getElem?_pos, go_sem], by simp -dsimp -implicitDefEqProofs [-getElem?_pos, go_sem], by simp -dsimp -implicitDefEqProofs [-getElem?_pos, go_sem], by simp -dsimp -implicitDefEqProofs [-getElem?_pos, go_sem], by simp -dsimp -implicitDefEqProofs [-getElem?_pos, go_sem], by simp -dsimp -implicitDefEqProofs [-getElem?_pos, go_sem], by simp -dsimp -implicitDefEqProofs [-getElem?_pos, go_sem]⟩
  intro m s hs'
  rw [hI] at hs'
  obtain ⟨k, hk, hm, hall, t3, t5, t6, t10, t11, t12, h1⟩ := hs'
  have lt1 := (List.getElem?_eq_some_iff.1 h1).1
  have lo := List.countP_le_length (p := outE x.Payment) (l := l.take k)
  have li := List.countP_le_length (p := inE x.Payment) (l := l.take k)
  rw [List.length_take] at lo li
  simp -dsimp -implicitDefEqProofs [-getElem?_pos, go_sem, hP, t11, t12]
  refine condP (fun h => ?_) (fun h => ?_)
  · have hk : k < l.length := by simpa using h
    obtain ⟨e, hee⟩ : ∃ e, l[k]? = some e := ⟨_, List.getElem?_eq_getElem hk⟩
    have wk := wrap_in ((k : Int) + 1) (by omega)
    have g1 : ∀ y : Option AObj, (s.H ++ [y])[1]? = some (some ⟨46, 7, [[iv x.Payment.Warrant, iv x.Payment.Payee, iv x.Payment.Amount, iv x.Payment.Due, iv x.Payment.Sub, iv x.State, iv x.Attempts]]⟩) := fun y => by rw [List.getElem?_append_left lt1]; exact h1
    have eo : (l.take (k + 1)).countP (outE x.Payment) = (l.take k).countP (outE x.Payment) + if outE x.Payment e = true then 1 else 0 := by rw [take_at hee, List.countP_append, List.countP_cons, List.countP_nil, Nat.zero_add]
    have ei : (l.take (k + 1)).countP (inE x.Payment) = (l.take k).countP (inE x.Payment) + if inE x.Payment e = true then 1 else 0 := by rw [take_at hee, List.countP_append, List.countP_cons, List.countP_nil, Nat.zero_add]
    have ea : (l.take (k + 1)).all (okE x.Payment) = okE x.Payment e := by rw [take_at hee, List.all_append, hall]; simp
    generalize (l.take k).countP (outE x.Payment) = co at eo t5 lo
    generalize (l.take k).countP (inE x.Payment) = ci at ei t6 li
    have wo := wrap_in ((co : Int) + 1) (by omega)
    have wi := wrap_in ((ci : Int) + 1) (by omega)
    have fin : ∀ s' : St, okE x.Payment e = true → s'.t 3 = .ref 1 0 0 → s'.t 5 = iv ((l.take (k + 1)).countP (outE x.Payment)) → s'.t 6 = iv ((l.take (k + 1)).countP (inE x.Payment)) → s'.t 10 = entsL l → s'.t 11 = iv l.length → s'.t 12 = iv (k + 1) → s'.H[1]? = some (some ⟨46, 7, [[iv x.Payment.Warrant, iv x.Payment.Payee, iv x.Payment.Amount, iv x.Payment.Due, iv x.Payment.Sub, iv x.State, iv x.Attempts]]⟩) → ∃ m', m' < m ∧ I m' s' := fun s' a1 a2 a3 a4 a5 a6 a7 a8 => by
      refine ⟨l.length - (k + 1), by omega, ?_⟩
      rw [hI]
      exact ⟨k + 1, by omega, rfl, by rw [ea]; exact a1, a2, a3, a4, a5, a6, a7, a8⟩
    have bad : okE x.Payment e = false → R = false := fun h => by
      rw [hR, Bool.and_eq_false_iff]
      refine .inl (List.all_eq_false.2 ⟨e, List.mem_of_getElem? hee, by simp [h]⟩)
    by_cases c1 : e.Ref = x.Payment.Warrant
    rotate_left
    · have d1 := decide_eq_false c1
      rw [show outE x.Payment e = false by simp [outE, d1], if_neg (by simp)] at eo
      rw [show inE x.Payment e = false by simp [inE, d1], if_neg (by simp)] at ei
      simp -dsimp -implicitDefEqProofs [-getElem?_pos, go_sem, hP, t10, t12, hee, cE, t3, g1, lt1, h1, c1, d1, wk]
      exact fin _ (by simp [okE, d1]) (by simp -dsimp -implicitDefEqProofs [-getElem?_pos, go_sem, t3]) (by simp -dsimp -implicitDefEqProofs [-getElem?_pos, go_sem, t5, eo]) (by simp -dsimp -implicitDefEqProofs [-getElem?_pos, go_sem, t6, ei]) (by simp -dsimp -implicitDefEqProofs [-getElem?_pos, go_sem, t10]) (by simp -dsimp -implicitDefEqProofs [-getElem?_pos, go_sem, t11]) (by simp -dsimp -implicitDefEqProofs [-getElem?_pos, go_sem]) (by simp -dsimp -implicitDefEqProofs [-getElem?_pos, go_sem, lt1, h1])
    have d1 : decide (e.Ref = x.Payment.Warrant) = true := decide_eq_true c1
    have bool1 : ∀ a b c d f : Bool, (a && (b && c)) = false → (d && (f && c)) = false → (!true || (c && (a && b || d && f))) = false := by decide
    simp -dsimp -implicitDefEqProofs [-getElem?_pos, go_sem, hP, t10, t12, hee, cE, t3, g1, lt1, h1, c1]
    refine condP (fun q1 => ?_) (fun q1 => ?_)
    · simp only [Bool.and_eq_true, decide_eq_true_eq] at q1
      obtain ⟨q1, q2, q3⟩ := q1
      rw [show outE x.Payment e = true by simp [outE, c1, q1, q2], if_pos rfl] at eo
      rw [show inE x.Payment e = false by simp [inE, c1, q1]; omega, if_neg (by simp)] at ei
      simp -dsimp -implicitDefEqProofs [-getElem?_pos, go_sem, hP, t5, t12, wo, wk]
      exact fin _ (by simp [okE, d1, q1, q2, q3]) (by simp -dsimp -implicitDefEqProofs [-getElem?_pos, go_sem, t3]) (by simp -dsimp -implicitDefEqProofs [-getElem?_pos, go_sem, eo]) (by simp -dsimp -implicitDefEqProofs [-getElem?_pos, go_sem, t6, ei]) (by simp -dsimp -implicitDefEqProofs [-getElem?_pos, go_sem, t10]) (by simp -dsimp -implicitDefEqProofs [-getElem?_pos, go_sem, t11]) (by simp -dsimp -implicitDefEqProofs [-getElem?_pos, go_sem]) (by simp -dsimp -implicitDefEqProofs [-getElem?_pos, go_sem, lt1, h1])
    simp -dsimp -implicitDefEqProofs [-getElem?_pos, go_sem, hP, t3, g1, lt1, h1]
    refine condP (fun q5 => ?_) (fun q5 => ?_)
    · simp only [Bool.and_eq_true, decide_eq_true_eq] at q5
      obtain ⟨q5, q6, q7⟩ := q5
      rw [show outE x.Payment e = false by simp [outE, c1, q5]; omega, if_neg (by simp)] at eo
      rw [show inE x.Payment e = true by simp [inE, c1, q5, q6], if_pos rfl] at ei
      simp -dsimp -implicitDefEqProofs [-getElem?_pos, go_sem, hP, t6, t12, wi, wk]
      exact fin _ (by simp [okE, d1, q5, q6, q7]) (by simp -dsimp -implicitDefEqProofs [-getElem?_pos, go_sem, t3]) (by simp -dsimp -implicitDefEqProofs [-getElem?_pos, go_sem, t5, eo]) (by simp -dsimp -implicitDefEqProofs [-getElem?_pos, go_sem, ei]) (by simp -dsimp -implicitDefEqProofs [-getElem?_pos, go_sem, t10]) (by simp -dsimp -implicitDefEqProofs [-getElem?_pos, go_sem, t11]) (by simp -dsimp -implicitDefEqProofs [-getElem?_pos, go_sem]) (by simp -dsimp -implicitDefEqProofs [-getElem?_pos, go_sem, lt1, h1])
    have := bad (by rw [okE, d1]; exact bool1 _ _ _ _ _ q1 q5)
    simp -dsimp -implicitDefEqProofs [-getElem?_pos, go_sem, hP, this]
  · have hk : k = l.length := by simp at h; omega
    subst hk
    rw [List.take_length] at t5 t6 hall lo li
    rw [hall, Bool.true_and] at hR
    generalize l.countP (outE x.Payment) = co at hR t5 lo
    generalize l.countP (inE x.Payment) = ci at hR t6 li
    have wi := wrap_in ((ci : Int) + 1) (by omega)
    simp -dsimp -implicitDefEqProofs [-getElem?_pos, go_sem, hP, t3, h1, lt1]
    refine callB_is (ot.lift _ _) hP en_162 (by simpa using ix) .sc ?_
    cases hg : goneB x
    · rw [show goneN x = 0 by simp [goneN, hg]] at hR
      by_cases c2 : (co : Int) = x.Attempts
      · have d2 := decide_eq_true c2
        rw [d2, Bool.true_and] at hR
        simp -dsimp -implicitDefEqProofs [-getElem?_pos, go_sem, hP, hg, t5, t6, t3, h1, lt1, d2, hR, c2]
      · have d2 := decide_eq_false c2
        rw [d2, Bool.false_and] at hR
        simp -dsimp -implicitDefEqProofs [-getElem?_pos, go_sem, hP, hg, t5, t6, t3, h1, lt1, d2, hR, c2]
    · rw [show goneN x = 1 by simp [goneN, hg]] at hR
      by_cases c2 : (co : Int) = x.Attempts
      · have d2 := decide_eq_true c2
        rw [d2, Bool.true_and] at hR
        simp -dsimp -implicitDefEqProofs [-getElem?_pos, go_sem, hP, hg, t5, t6, t3, h1, lt1, d2, hR, c2, wi]
      · have d2 := decide_eq_false c2
        rw [d2, Bool.false_and] at hR
        simp -dsimp -implicitDefEqProofs [-getElem?_pos, go_sem, hP, hg, t5, t6, t3, h1, lt1, d2, hR, c2, wi]
open Go.PA
open Go.RowKit
abbrev deskO (d : TDesk) : AObj := ⟨35, 7, [[iv d.Account.Credit, subsL d.Account.Subs, entsL d.Account.Entries, paysL d.Queue.Waiting, numsL d.Queue.Known, batsL d.Queue.Batches, itemsL d.Items]]⟩
abbrev itemO (x : TItem) : AObj := ⟨46, 7, [[iv x.Payment.Warrant, iv x.Payment.Payee, iv x.Payment.Amount, iv x.Payment.Due, iv x.Payment.Sub, iv x.State, iv x.Attempts]]⟩
set_option maxHeartbeats 2000000 in
theorem right_pf (d : TDesk) (x : TItem) (hf : FitD d) : PFun Tryz.prog none none 54 [.agg d.cells, .agg x.cells] (· = bv (rightB d x)) := by
  refine pfun_introA Tryz.func54 rfl (by simp [Tryz.f54]) ?_
  intro E hP hr hs hW hN
  have ix := imm_item x
  have ia := imm_acc d.Account
  have iq := imm_que d.Queue
  have ip := imm_pay x.Payment
  have i1 := imm_pays d.Queue.Waiting
  have bl := balance_pf d.Account x.Payment.Sub hf.s hf.e
  have py := bpay_pf x.Payment
  have cp := containsPay_pf d.Queue.Waiting x.Payment (by have := hf.q.w; omega)
  have sn := sent_pf d.Queue x.Payment.Warrant hf.q
  have mv := fun h => moved_pf d.Account x hf.e h
  rw [cIt] at ix
  rw [cA] at ia bl
  rw [cPy] at ip py cp
  rw [cQn] at iq sn
  rw [cA, cIt] at mv
  obtain ⟨R, hR⟩ : ∃ R, R = rightB d x := ⟨_, rfl⟩
  rw [← hR]
  rw [rightB] at hR
  refine awp_cut (by rw [hN]; kernel_rfl) ?_
  simp -dsimp -implicitDefEqProofs [-getElem?_pos, go_sem, hP, cDn, cIt]
  refine awp_cut (by rw [hN]; kernel_rfl) ?_
  simp -dsimp -implicitDefEqProofs [-getElem?_pos, go_sem, hP]
  obtain ⟨Inv, hInv⟩ : ∃ Inv : St → Prop, Inv = fun s => s.t 2 = .ref 0 0 0 ∧ s.t 3 = .ref 1 0 0 ∧ s.t 5 = iv (mostI x) ∧ s.t 6 = iv (leastI x) ∧ s.H = [some (deskO d), some (itemO x)] := ⟨_, rfl⟩
  refine awp_join Inv (by rw [hN]; kernel_rfl) ?_ ?_
  · by_cases s1 : x.State = 1
    · have e1 : mostI x = 4 := by rw [mostI, if_pos s1]
      have e2 : leastI x = 0 := by rw [leastI, if_pos s1]
      simp -dsimp -implicitDefEqProofs [-getElem?_pos, go_sem, hP, s1]
      refine ⟨_, Weaker.refl _, ?_⟩
      rw [hInv]
      exact ⟨by simp -dsimp -implicitDefEqProofs [-getElem?_pos, go_sem], by simp -dsimp -implicitDefEqProofs [-getElem?_pos, go_sem], by simp -dsimp -implicitDefEqProofs [-getElem?_pos, go_sem, e1], by simp -dsimp -implicitDefEqProofs [-getElem?_pos, go_sem, e2], by simp [s1]⟩
    have d1 := decide_eq_false s1
    have e1 : mostI x = 5 := by rw [mostI, if_neg s1]
    by_cases s5 : x.State = 5
    · have e2 : leastI x = 0 := by rw [leastI, if_neg s1, if_pos s5]
      simp -dsimp -implicitDefEqProofs [-getElem?_pos, go_sem, hP, s1, d1, s5]
      refine ⟨_, Weaker.refl _, ?_⟩
      rw [hInv]
      exact ⟨by simp -dsimp -implicitDefEqProofs [-getElem?_pos, go_sem], by simp -dsimp -implicitDefEqProofs [-getElem?_pos, go_sem], by simp -dsimp -implicitDefEqProofs [-getElem?_pos, go_sem, e1], by simp -dsimp -implicitDefEqProofs [-getElem?_pos, go_sem, e2], by simp [s5]⟩
    · have d5 := decide_eq_false s5
      have e2 : leastI x = 1 := by rw [leastI, if_neg s1, if_neg s5]
      simp -dsimp -implicitDefEqProofs [-getElem?_pos, go_sem, hP, s1, d1, s5, d5]
      refine ⟨_, Weaker.refl _, ?_⟩
      rw [hInv]
      exact ⟨by simp -dsimp -implicitDefEqProofs [-getElem?_pos, go_sem], by simp -dsimp -implicitDefEqProofs [-getElem?_pos, go_sem], by simp -dsimp -implicitDefEqProofs [-getElem?_pos, go_sem, e1], by simp -dsimp -implicitDefEqProofs [-getElem?_pos, go_sem, e2], rfl⟩
  intro s hs'
  rw [hInv] at hs'
  obtain ⟨t2, t3, t5, t6, hH⟩ := hs'
  clear hInv Inv
  refine awp_sound _ _ _ (by rw [hN]; kernel_rfl) ?_
  simp -dsimp -implicitDefEqProofs [-getElem?_pos, go_sem, hP, t2, t3, hH]
  refine callB_is (cp.lift _ _) hP en_115 (by simpa using ⟨i1, ip⟩) .sc ?_
  simp -dsimp -implicitDefEqProofs [-getElem?_pos, go_sem, hP, t2, t3, hH]
  refine callB_is (bl.lift _ _) hP en_70 (by simpa [imm_sc] using ia) (imm_pair .sc .sc) ?_
  simp -dsimp -implicitDefEqProofs [-getElem?_pos, go_sem, hP, t2, t3, hH]
  refine adrawB (fun _ => true) [] hP (by kernel_rfl) (by kernel_rfl) ?_
  cases c1 : (balanceA d.Account x.Payment.Sub).2
  · rw [c1, Bool.false_and] at hR
    simp -dsimp -implicitDefEqProofs [-getElem?_pos, go_sem, hP, c1, hR]
  rw [c1, Bool.true_and] at hR
  simp -dsimp -implicitDefEqProofs [-getElem?_pos, go_sem, hP, t2, t3, hH]
  refine callB_is (py.lift _ _) hP en_116 (by simpa using ip) .sc ?_
  cases c2 : payB x.Payment
  · rw [c2, Bool.false_and] at hR
    simp -dsimp -implicitDefEqProofs [-getElem?_pos, go_sem, hP, c2, hR]
  have hsub := ((payB_iff x.Payment).1 c2).sub.1
  rw [c2, Bool.true_and] at hR
  simp -dsimp -implicitDefEqProofs [-getElem?_pos, go_sem, hP, t2, t3, hH]
  by_cases c3 : 1 ≤ x.State
  rotate_left
  · rw [amg_no (by omega), Bool.false_and] at hR
    have d3 := decide_eq_false c3
    simp -dsimp -implicitDefEqProofs [-getElem?_pos, go_sem, hP, t2, t3, c3, d3, hR]
  have d3 := decide_eq_true c3
  by_cases c4 : x.State ≤ 5
  rotate_left
  · rw [amg_no (by omega), Bool.false_and] at hR
    have d4 := decide_eq_false c4
    simp -dsimp -implicitDefEqProofs [-getElem?_pos, go_sem, hP, t2, t3, d3, d4, hR]
  have d4 := decide_eq_true c4
  rw [amg_iff.2 ⟨c3, c4⟩, Bool.true_and] at hR
  by_cases c5 : leastI x ≤ x.Attempts
  rotate_left
  · rw [amg_no (by omega), Bool.false_and] at hR
    have d5 := decide_eq_false c5
    simp -dsimp -implicitDefEqProofs [-getElem?_pos, go_sem, hP, t2, t3, d3, d4, d5, hR, t5, t6]
  have d5 := decide_eq_true c5
  by_cases c6 : x.Attempts ≤ mostI x
  rotate_left
  · rw [amg_no (by omega), Bool.false_and] at hR
    have d6 := decide_eq_false c6
    simp -dsimp -implicitDefEqProofs [-getElem?_pos, go_sem, hP, t2, t3, d3, d4, d5, d6, hR, t5, t6]
  have d6 := decide_eq_true c6
  rw [amg_iff.2 ⟨c5, c6⟩, Bool.true_and] at hR
  simp -dsimp -implicitDefEqProofs [-getElem?_pos, go_sem, hP, t2, t3, d3, d4, d5, d6, t5, t6]
  by_cases c7 : decide (x.Payment ∈ d.Queue.Waiting) = decide (x.State = 1)
  rotate_left
  · rw [decide_eq_false c7, Bool.false_and] at hR
    have d7 : (decide (x.Payment ∈ d.Queue.Waiting) == decide (x.State = 1)) = false := by rw [beq_eq_false_iff_ne]; exact c7
    simp -dsimp -implicitDefEqProofs [-getElem?_pos, go_sem, hP, t2, t3, d7, hR]
  have d7 : (decide (x.Payment ∈ d.Queue.Waiting) == decide (x.State = 1)) = true := by rw [beq_iff_eq]; exact c7
  rw [decide_eq_true c7, Bool.true_and] at hR
  simp -dsimp -implicitDefEqProofs [-getElem?_pos, go_sem, hP, t2, t3, d7]
  refine callB_is (sn.lift _ _) hP en_117 (by simpa [imm_sc] using iq) .sc ?_
  by_cases c8 : (sentN d.Queue x.Payment.Warrant : Int) = x.Attempts
  rotate_left
  · rw [decide_eq_false c8, Bool.false_and] at hR
    have d8 := decide_eq_false c8
    simp -dsimp -implicitDefEqProofs [-getElem?_pos, go_sem, hP, t2, t3, d7, d8, hR]
  have d8 := decide_eq_true c8
  rw [d8, Bool.true_and] at hR
  simp -dsimp -implicitDefEqProofs [-getElem?_pos, go_sem, hP, t2, t3, d7, d8]
  refine callB_is ((mv hsub).lift _ _) hP en_118 (by simpa using ⟨ia, ix⟩) .sc ?_
  simp -dsimp -implicitDefEqProofs [-getElem?_pos, go_sem, hP, d7, d8, hR]
theorem deskP_or {d : TDesk} (hq : QOk d.Queue) (ha : checkA d.Account = 0) : checkD d = if deskP d = true then 0 else 68 := by
  rw [checkD, if_pos ha, if_pos (checkQ_iff.2 hq), deskP_eq hq]
theorem map_snoc_take {l : List TItem} {k : Nat} {x : TItem} (h : l[k]? = some x) : (l.take (k + 1)).map wrt = (l.take k).map wrt ++ [wrt x] := by rw [take_at h, List.map_append]; rfl
set_option maxHeartbeats 2000000 in
theorem dcheck_pf (d : TDesk) (hf : FitD d) : PFun Tryz.prog none none 13 [.agg d.cells] (· = iv (checkD d)) := by
  refine pfun_intro Tryz.func13 rfl (by simp [Tryz.f13]) (by kernel_rfl) ?_
  intro E hP hr hs hW hN
  have ia := imm_acc d.Account
  have iq := imm_que d.Queue
  have id' := imm_desk d
  have cka := check_pf d.Account hf.s hf.e
  have ckq := bcheck_pf d.Queue hf.q
  have rt := fun x => right_pf d x hf
  rw [cA] at ia cka
  rw [cQn] at iq ckq
  rw [cDn] at id'
  simp only [cDn] at rt
  have li := hf.i
  have lk := hf.q.k
  have lw := hf.q.w
  obtain ⟨R, hR⟩ : ∃ R, R = checkD d := ⟨_, rfl⟩
  rw [← hR]
  simp -dsimp -implicitDefEqProofs [-getElem?_pos, go_sem, hP, cDn]
  refine callB_is (cka.lift _ _) hP en_52 (by simpa using ia) .sc ?_
  by_cases c1 : checkA d.Account = 0
  rotate_left
  · have : R = checkA d.Account := by rw [hR, checkD, if_neg c1]
    simp -dsimp -implicitDefEqProofs [-getElem?_pos, go_sem, hP, c1, this]
  simp -dsimp -implicitDefEqProofs [-getElem?_pos, go_sem, hP, c1]
  refine callB_is (ckq.lift _ _) hP en_53 (by simpa using iq) .sc ?_
  by_cases c2 : checkQ d.Queue = 0
  rotate_left
  · have : R = checkQ d.Queue := by rw [hR, checkD, if_pos c1, if_neg c2]
    simp -dsimp -implicitDefEqProofs [-getElem?_pos, go_sem, hP, c2, this]
  have hq := checkQ_iff.1 c2
  rw [deskP_or hq c1] at hR
  obtain ⟨l, hl⟩ : ∃ l, l = d.Items := ⟨_, rfl⟩
  have hRl : R = if (l.all (rightB d) && (decide (l.map wrt = d.Queue.Known) && decide (l.countP queuedB = d.Queue.Waiting.length))) = true then 0 else 68 := by rw [hR, hl]; rfl
  clear hR
  rw [← hl] at li
  simp only [← hl] at rt id'
  simp -dsimp -implicitDefEqProofs [-getElem?_pos, go_sem, hP, c2, ← hl]
  refine aloop_own 5 3 1 (by simp -dsimp -implicitDefEqProofs [-getElem?_pos, go_sem]) ?_
  obtain ⟨I, hI⟩ : ∃ I : Nat → St → Prop, I = fun m s => ∃ (k id : Nat), k ≤ l.length ∧ m = l.length - k ∧ (l.take k).all (rightB d) = true ∧ 1 ≤ id ∧ s.t 1 = .ref 0 0 0 ∧ s.t 5 = .sref id 0 k ∧ s.t 6 = iv ((l.take k).countP queuedB) ∧ s.t 22 = itemsL l ∧ s.t 23 = iv l.length ∧ s.t 24 = iv k ∧ s.H[0]? = some (some ⟨35, 7, [[iv d.Account.Credit, subsL d.Account.Subs, entsL d.Account.Entries, paysL d.Queue.Waiting, numsL d.Queue.Known, batsL d.Queue.Batches, itemsL l]]⟩) ∧ s.H[id]? = some (some ⟨3, 1, encL encI ((l.take k).map wrt)⟩) := ⟨_, rfl⟩
  refine aloop0 I (l.length) (by rw [hN]; rfl) ?_ ?_
  · rw [hI]
    exact ⟨0, 1, by omega, by omega, by simp, by omega, by simp -dsimp -implicitDefEqProofs [-getElem?_pos, go_sem], by simp -dsimp -implicitDefEqProofs [-getElem?_pos, go_sem], by simp -dsimp -implicitDefEqProofs [-getElem?_pos, go_sem], by simp -dsimp -implicitDefEqProofs [-getElem?_pos, go_sem], by simp -dsimp -implicitDefEqProofs [-getElem?_pos, go_sem], by simp -dsimp -implicitDefEqProofs [-getElem?_pos, go_sem], by simp -dsimp -implicitDefEqProofs [-getElem?_pos, go_sem], by simp -dsimp -implicitDefEqProofs [-getElem?_pos, go_sem, encL]⟩
  intro m s hs'
  rw [hI] at hs'
  obtain ⟨k, id, hk, hm, hall, hid, t1, t5, t6, t22, t23, t24, h0, hH⟩ := hs'
  have lt0 := (List.getElem?_eq_some_iff.1 h0).1
  have lti := (List.getElem?_eq_some_iff.1 hH).1
  have lc := List.countP_le_length (p := queuedB) (l := l.take k)
  rw [List.length_take] at lc
  have lws : (encL encI ((l.take k).map wrt)).length = k := by rw [encL_len, List.length_map, List.length_take]; omega
  simp -dsimp -implicitDefEqProofs [-getElem?_pos, go_sem, hP, t23, t24]
  refine condP (fun hh => ?_) (fun hh => ?_)
  · have hk : k < l.length := by simpa using hh
    obtain ⟨x, hx⟩ : ∃ x, l[k]? = some x := ⟨_, List.getElem?_eq_getElem hk⟩
    have wk := wrap_in ((k : Int) + 1) (by omega)
    have ix := imm_item x
    have rx := rt x
    rw [cIt] at ix rx
    have g0 : ∀ y : Option AObj, (s.H ++ [y])[0]? = some (some ⟨35, 7, [[iv d.Account.Credit, subsL d.Account.Subs, entsL d.Account.Entries, paysL d.Queue.Waiting, numsL d.Queue.Known, batsL d.Queue.Batches, itemsL l]]⟩) := fun y => by rw [List.getElem?_append_left lt0]; exact h0
    have gi : ∀ y : Option AObj, (s.H ++ [y])[id]? = some (some ⟨3, 1, encL encI ((l.take k).map wrt)⟩) := fun y => by rw [List.getElem?_append_left lti]; exact hH
    have ec : (l.take (k + 1)).countP queuedB = (l.take k).countP queuedB + if queuedB x = true then 1 else 0 := by rw [take_at hx, List.countP_append, List.countP_cons, List.countP_nil, Nat.zero_add]
    have ea : (l.take (k + 1)).all (rightB d) = rightB d x := by rw [take_at hx, List.all_append, hall]; simp
    have ew : encL encI ((l.take (k + 1)).map wrt) = encL encI ((l.take k).map wrt) ++ [[iv x.Payment.Warrant]] := by rw [map_snoc_take hx]; exact (encL_snoc encI _ _).symm
    generalize (l.take k).countP queuedB = cq at ec t6 lc
    generalize encL encI ((l.take k).map wrt) = ws at ew hH gi lws
    have wq := wrap_in ((cq : Int) + 1) (by omega)
    simp -dsimp -implicitDefEqProofs [-getElem?_pos, go_sem, hP, t22, t24, hx, cIt, t1, g0, lt0, h0]
    refine callB_is (rx.lift _ _) hP en_54 (by simpa using ⟨id', ix⟩) .sc ?_
    have n0 : ¬ id = 0 := by omega
    cases hrx : rightB d x
    · have : R = 68 := by
        rw [hRl, if_neg]
        rw [Bool.and_eq_true]
        rintro ⟨h1, _⟩
        have := List.all_eq_true.1 h1 x (List.mem_of_getElem? hx)
        rw [hrx] at this
        cases this
      simp -dsimp -implicitDefEqProofs [-getElem?_pos, go_sem, hP, this]
    rw [hrx] at ea
    have fin : ∀ s' : St, s'.t 1 = .ref 0 0 0 → s'.t 5 = .sref (s.H.length + 1) 0 (k + 1) → s'.t 6 = iv ((l.take (k + 1)).countP queuedB) → s'.t 22 = itemsL l → s'.t 23 = iv l.length → s'.t 24 = iv (k + 1) → s'.H[0]? = some (some ⟨35, 7, [[iv d.Account.Credit, subsL d.Account.Subs, entsL d.Account.Entries, paysL d.Queue.Waiting, numsL d.Queue.Known, batsL d.Queue.Batches, itemsL l]]⟩) → s'.H[s.H.length + 1]? = some (some ⟨3, 1, ws ++ [[iv x.Payment.Warrant]]⟩) → ∃ m', m' < m ∧ I m' s' := fun s' a1 a2 a3 a4 a5 a6 a7 a8 => by
      refine ⟨l.length - (k + 1), by omega, ?_⟩
      rw [hI]
      exact ⟨k + 1, s.H.length + 1, by omega, rfl, ea, by omega, a1, a2, a3, a4, a5, a6, a7, by rw [ew]; exact a8⟩
    by_cases hs : x.State = 1
    · rw [show queuedB x = true by simp [queuedB, hs], if_pos rfl] at ec
      simp -dsimp -implicitDefEqProofs [-getElem?_pos, go_sem, hP, hs, t6, wq, t5, gi, hH, lti, lws, t24, wk]
      refine ⟨by omega, by omega, ?_⟩
      exact fin _ (by simp -dsimp -implicitDefEqProofs [-getElem?_pos, go_sem, t1]) (by simp -dsimp -implicitDefEqProofs [-getElem?_pos, go_sem]) (by simp -dsimp -implicitDefEqProofs [-getElem?_pos, go_sem, ec]) (by simp -dsimp -implicitDefEqProofs [-getElem?_pos, go_sem, t22]) (by simp -dsimp -implicitDefEqProofs [-getElem?_pos, go_sem, t23]) (by simp -dsimp -implicitDefEqProofs [-getElem?_pos, go_sem]) (by simp -dsimp -implicitDefEqProofs [-getElem?_pos, go_sem, lt0, h0, n0]) (by simp -dsimp -implicitDefEqProofs [-getElem?_pos, go_sem])
    · rw [show queuedB x = false by simp [queuedB, hs], if_neg (by simp)] at ec
      have ds := decide_eq_false hs
      simp -dsimp -implicitDefEqProofs [-getElem?_pos, go_sem, hP, hs, ds, t5, gi, hH, lti, lws, t24, wk]
      refine ⟨by omega, by omega, ?_⟩
      exact fin _ (by simp -dsimp -implicitDefEqProofs [-getElem?_pos, go_sem, t1]) (by simp -dsimp -implicitDefEqProofs [-getElem?_pos, go_sem]) (by simp -dsimp -implicitDefEqProofs [-getElem?_pos, go_sem, t6, ec]) (by simp -dsimp -implicitDefEqProofs [-getElem?_pos, go_sem, t22]) (by simp -dsimp -implicitDefEqProofs [-getElem?_pos, go_sem, t23]) (by simp -dsimp -implicitDefEqProofs [-getElem?_pos, go_sem]) (by simp -dsimp -implicitDefEqProofs [-getElem?_pos, go_sem, lt0, h0, n0]) (by simp -dsimp -implicitDefEqProofs [-getElem?_pos, go_sem])
  · have hk : k = l.length := by simp at hh; omega
    subst hk
    rw [List.take_length] at t6 hall hH
    rw [hall, Bool.true_and] at hRl
    have eq := equalInts_pf (l.map wrt) d.Queue.Known (by rw [List.length_map]; omega) (by omega)
    simp -dsimp -implicitDefEqProofs [-getElem?_pos, go_sem, hP, t5, t1, h0, lt0]
    refine callB_pure eq hP en_55 (args_sref hH (by rw [encL_len, List.length_map]) (imm_nums _) (args_imm (imm_nums _) (args_nil.2 trivial))) .sc ?_
    by_cases c3 : l.map wrt = d.Queue.Known
    rotate_left
    · have d3 := decide_eq_false c3
      rw [d3, Bool.false_and] at hRl
      simp -dsimp -implicitDefEqProofs [-getElem?_pos, go_sem, hP, d3, hRl]
    have d3 := decide_eq_true c3
    rw [d3, Bool.true_and] at hRl
    by_cases c4 : l.countP queuedB = d.Queue.Waiting.length
    · have d4 : decide ((l.countP queuedB : Int) = (d.Queue.Waiting.length : Int)) = true := decide_eq_true (by omega)
      rw [decide_eq_true c4] at hRl
      simp -dsimp -implicitDefEqProofs [-getElem?_pos, go_sem, hP, d3, t1, h0, lt0, t6, d4, hRl]
    · have d4 : decide ((l.countP queuedB : Int) = (d.Queue.Waiting.length : Int)) = false := decide_eq_false (by omega)
      rw [decide_eq_false c4] at hRl
      simp -dsimp -implicitDefEqProofs [-getElem?_pos, go_sem, hP, d3, t1, h0, lt0, t6, d4, hRl]
open Go.PA
open Go.RowKit
theorem clone_pf_sub (l : List TSub) (hl : l.length ≤ 1000000) : PFun Tryz.prog none none 135 [.list 2 (encL TSub.cells l)] (· = .list 2 (encL TSub.cells l)) := by
  cases l with
  | nil =>
    refine pfun_list_nil fun A c => ?_
    refine pfun_intro Tryz.func135 rfl (by simp [Tryz.f135]) (by kernel_rfl) ?_
    intro E hP hr hs hW hN
    cases A with
    | none =>
      simp -dsimp -implicitDefEqProofs [-getElem?_pos, go_sem, hP]
      exact done_weak .nil (imm_list.2 (by simp)) (.nil _) rfl
    | some a =>
      simp -dsimp -implicitDefEqProofs [-getElem?_pos, go_sem, hP]
      refine done_weak (x := .list 2 []) ?_ (imm_list.2 (by simp)) ?_ rfl
      · simp -dsimp -implicitDefEqProofs [-getElem?_pos, go_sem]
      · simp -dsimp -implicitDefEqProofs [-getElem?_pos, go_sem]
        first | exact .refl _ | skip
  | cons a l =>
    refine pfun_intro Tryz.func135 rfl (by simp [Tryz.f135]) (by kernel_rfl) ?_
    intro E hP hr hs hW hN
    simp only [List.length_cons] at hl
    have e : encL TSub.cells (a :: l) = TSub.cells a :: encL TSub.cells l := rfl
    have im : Imm (.list 2 (TSub.cells a :: encL TSub.cells l)) := by rw [← e]; exact imm_encL _ TSub.imm _
    have et : (TSub.cells a :: encL TSub.cells l).take (l.length + 1) = TSub.cells a :: encL TSub.cells l := by
      rw [← e]
      exact encL_take TSub.cells (a :: l) _ (by simp)
    simp -dsimp -implicitDefEqProofs [-getElem?_pos, go_sem, hP, e]
    refine ⟨by omega, by omega, ?_⟩
    refine done_weak (x := .list 2 (TSub.cells a :: encL TSub.cells l)) ?_ im ?_ rfl
    · simp -dsimp -implicitDefEqProofs [-getElem?_pos, go_sem]
      first | exact im | (have h := imm_list.1 im; simp only [List.mem_cons, forall_eq_or_imp] at h; exact h)
    · simp -dsimp -implicitDefEqProofs [-getElem?_pos, go_sem]
      first | exact .refl _ | skip
theorem clone_pf_entry (l : List TEntry) (hl : l.length ≤ 1000000) : PFun Tryz.prog none none 129 [.list 6 (encL TEntry.cells l)] (· = .list 6 (encL TEntry.cells l)) := by
  cases l with
  | nil =>
    refine pfun_list_nil fun A c => ?_
    refine pfun_intro Tryz.func129 rfl (by simp [Tryz.f129]) (by kernel_rfl) ?_
    intro E hP hr hs hW hN
    cases A with
    | none =>
      simp -dsimp -implicitDefEqProofs [-getElem?_pos, go_sem, hP]
      exact done_weak .nil (imm_list.2 (by simp)) (.nil _) rfl
    | some a =>
      simp -dsimp -implicitDefEqProofs [-getElem?_pos, go_sem, hP]
      refine done_weak (x := .list 6 []) ?_ (imm_list.2 (by simp)) ?_ rfl
      · simp -dsimp -implicitDefEqProofs [-getElem?_pos, go_sem]
      · simp -dsimp -implicitDefEqProofs [-getElem?_pos, go_sem]
        first | exact .refl _ | skip
  | cons a l =>
    refine pfun_intro Tryz.func129 rfl (by simp [Tryz.f129]) (by kernel_rfl) ?_
    intro E hP hr hs hW hN
    simp only [List.length_cons] at hl
    have e : encL TEntry.cells (a :: l) = TEntry.cells a :: encL TEntry.cells l := rfl
    have im : Imm (.list 6 (TEntry.cells a :: encL TEntry.cells l)) := by rw [← e]; exact imm_encL _ TEntry.imm _
    have et : (TEntry.cells a :: encL TEntry.cells l).take (l.length + 1) = TEntry.cells a :: encL TEntry.cells l := by
      rw [← e]
      exact encL_take TEntry.cells (a :: l) _ (by simp)
    simp -dsimp -implicitDefEqProofs [-getElem?_pos, go_sem, hP, e]
    refine ⟨by omega, by omega, ?_⟩
    refine done_weak (x := .list 6 (TEntry.cells a :: encL TEntry.cells l)) ?_ im ?_ rfl
    · simp -dsimp -implicitDefEqProofs [-getElem?_pos, go_sem]
      first | exact im | (have h := imm_list.1 im; simp only [List.mem_cons, forall_eq_or_imp] at h; exact h)
    · simp -dsimp -implicitDefEqProofs [-getElem?_pos, go_sem]
      first | exact .refl _ | skip
theorem copyAcc_pf (a : TAccount) (hl : a.Subs.length ≤ 100000) (he : a.Entries.length ≤ 100000) : PFun Tryz.prog none none 68 [.agg a.cells] (· = .agg a.cells) := by
  refine pfun_intro Tryz.func68 rfl (by simp [Tryz.f68]) (by kernel_rfl) ?_
  intro E hP hr hs hW hN
  have i1 := imm_subs a.Subs
  have i2 := imm_ents a.Entries
  simp -dsimp -implicitDefEqProofs [-getElem?_pos, go_sem, hP, cA]
  refine adrawQ (fun i => decide (i = 0)) [9] [4, 7] hP (by kernel_rfl) (by kernel_rfl) ?_
  simp -dsimp -implicitDefEqProofs [-getElem?_pos, go_sem, hP]
  refine callQ_is ((clone_pf_sub a.Subs (by omega)).lift _ _) hP en_135 (by simpa using i1) i1 ?_
  simp -dsimp -implicitDefEqProofs [-getElem?_pos, go_sem, hP]
  refine callQ_is ((clone_pf_entry a.Entries (by omega)).lift _ _) hP en_129 (by simpa using i2) i2 ?_
  simp -dsimp -implicitDefEqProofs [-getElem?_pos, go_sem, hP]
  exact done_imm (imm_acc a) rfl
theorem copyQ_pf (q : TQueue) (hf : FitQ q) : PFun Tryz.prog none none 123 [.agg q.cells] (· = .agg q.cells) := by
  refine pfun_of_mfun_agg (bcopy_m q [] hf) (imm_que q) ?_
  rintro r H' ⟨i1, i2, x, rfl, _, _, _, h1, h2, ⟨B, _, _, hg⟩, _⟩
  exact ⟨_, rfl, cw_sref h1 (by rw [encL_len]) (imm_pays _) (cw_sref h2 (by rw [encL_len]) (imm_nums _) (hg.cw (imm_bats _) .nil))⟩
set_option maxHeartbeats 1000000 in
theorem copied26_m {row src : Option Nat} (d : TDesk) (H : Heap) (hf : FitD d) :
    MFun Tryz.prog row src 59 [.agg d.cells] H (fun r H' => ∃ id, r = .agg [iv d.Account.Credit, subsL d.Account.Subs, entsL d.Account.Entries, paysL d.Queue.Waiting, numsL d.Queue.Known, batsL d.Queue.Batches, .sref id 0 d.Items.length] ∧ H.length ≤ id ∧ H'[id]? = some (some ⟨46, 7, encL TItem.cells d.Items⟩) ∧ Kept [] H H') := by
  obtain ⟨C, hC⟩ : ∃ C : AV → Heap → Prop, C = fun r H' => ∃ id, r = .agg [iv d.Account.Credit, subsL d.Account.Subs, entsL d.Account.Entries, paysL d.Queue.Waiting, numsL d.Queue.Known, batsL d.Queue.Batches, .sref id 0 d.Items.length] ∧ H.length ≤ id ∧ H'[id]? = some (some ⟨46, 7, encL TItem.cells d.Items⟩) ∧ Kept [] H H' := ⟨_, rfl⟩
  rw [← hC]
  have ex : ∃ r H', C r H' := ⟨_, H ++ [some ⟨46, 7, encL TItem.cells d.Items⟩], by
    rw [hC]
    exact ⟨H.length, rfl, Nat.le_refl _, by simp, kept_app _ _ _⟩⟩
  refine mfun_intro Tryz.func59 rfl (by simp [Tryz.f59]) (by kernel_rfl) (ex) ?_
  intro E hP hr hs hN
  have ia := imm_acc d.Account
  have iq := imm_que d.Queue
  have ca := copyAcc_pf d.Account hf.s hf.e
  have cq := copyQ_pf d.Queue hf.q
  have li := hf.i
  rw [cA] at ia ca
  rw [cQn] at iq cq
  simp -dsimp -implicitDefEqProofs [-getElem?_pos, go_sem, hP, cDn]
  obtain ⟨H1, hH1⟩ : ∃ H1 : Heap, H1 = H ++ [some (deskO d), some ⟨35, 7, [[iv 0, .nil, .nil, .nil, .nil, .nil, .nil]]⟩] := ⟨_, rfl⟩
  have l1 : H1.length = H.length + 2 := by rw [hH1]; simp
  have a0 : H1[H.length]? = some (some (deskO d)) := by rw [hH1]; simp
  have a1 : H1[H.length + 1]? = some (some ⟨35, 7, [[iv 0, .nil, .nil, .nil, .nil, .nil, .nil]]⟩) := by rw [hH1, List.getElem?_append_right (by omega)]; simp
  have k1 : Kept [] H H1 := by rw [hH1]; exact kept_app _ _ _
  have e1 : H ++ [some (deskO d), some ⟨35, 7, [[iv 0, .nil, .nil, .nil, .nil, .nil, .nil]]⟩] = H1 := hH1.symm
  simp only [deskO] at e1 a0
  simp only [e1]
  refine adrawQ (fun i => decide (i = H.length)) [10] [2, 5] hP (by kernel_rfl) (by kernel_rfl) ?_
  simp -dsimp -implicitDefEqProofs [-getElem?_pos, go_sem, hP, a0, l1]
  refine callQ_is (ca.lift _ _) hP en_68 (by simpa using ia) ia ?_
  simp -dsimp -implicitDefEqProofs [-getElem?_pos, go_sem, hP, a0, l1]
  refine callQ_is (cq.lift _ _) hP en_123 (by simpa using iq) iq ?_
  simp -dsimp -implicitDefEqProofs [-getElem?_pos, go_sem, hP, a0, l1]
  refine callB_m (by rw [hr, hs]; exact clone_m_item d.Items H1 (by omega)) hP en_124 ?_
  rintro r H2 ⟨id, rfl, hid, ho, hk⟩
  have b0 := hk _ _ (by simp) a0
  have b1 := hk _ _ (by simp) a1
  have lt1 := (List.getElem?_eq_some_iff.1 b1).1
  have aD : ∀ (X X' : Heap), Kept [] X X' → X[H.length]? = some (some (deskO d)) → Agree (fun i => decide (i = H.length)) X X' := fun X X' hk e0 => agree_live hk fun i hi => by
    simp only [decide_eq_true_eq] at hi
    subst hi
    exact ⟨by simp, _, e0⟩
  simp -dsimp -implicitDefEqProofs [-getElem?_pos, go_sem, hP, b1, lt1]
  refine ⟨aD _ _ hk a0, ?_⟩
  rw [hC]
  refine ⟨id, rfl, by omega, ?_, ?_⟩
  · rw [List.getElem?_set_ne (by omega), ho]
  · exact kept_new _ (by omega) (k1.trans hk)
open Go.PA
open Go.RowKit
theorem DOk.ks {d : TDesk} (h : DOk d) : (d.Items.map wrt).Pairwise (· < ·) := by rw [h.k]; exact h.q.ks
theorem DOk.nd {d : TDesk} (h : DOk d) : (d.Items.map wrt).Nodup := sorted_nodup h.ks
theorem place_cut {l : List TItem} (hs : (l.map wrt).Pairwise (· < ·)) (w : Int) : ∃ k, CutI l w k ∧ ((l[k]?).map wrt = some w ↔ w ∈ l.map wrt) := by
  obtain ⟨k, h1, h2, _, h4⟩ := ins_placeK (p := w) hs
  rw [List.length_map] at h1
  refine ⟨k, ⟨h1, fun h x hx => h2 h (wrt x) (by rw [List.getElem?_map, hx]; rfl)⟩, ?_⟩
  rw [← List.getElem?_map]
  exact h4
theorem posI_at {l : List TItem} (hn : (l.map wrt).Nodup) {k : Nat} {x : TItem} (hx : l[k]? = some x) : posI l x.Payment.Warrant = k := by
  unfold posI
  rcases idxI_spec (fun y : TItem => decide (y.Payment.Warrant = x.Payment.Warrant)) l with ⟨h1, h2⟩ | ⟨i, a, h1, h2, h3, _⟩
  · have := h2 x (List.mem_of_getElem? hx)
    simp at this
  · have h2 : a.Payment.Warrant = x.Payment.Warrant := by simpa using h2
    have e1 : (l.map wrt)[i]? = some x.Payment.Warrant := by rw [List.getElem?_map, h1]; exact congrArg some h2
    have e2 : (l.map wrt)[k]? = some x.Payment.Warrant := by rw [List.getElem?_map, hx]; rfl
    have := (List.getElem?_inj (List.getElem?_eq_some_iff.1 e1).1 hn).1 (e1.trans e2.symm)
    rw [h3, this]
theorem posI_none {l : List TItem} {w : Int} (h : w ∉ l.map wrt) : posI l w = -1 := by
  unfold posI
  rcases idxI_spec (fun y : TItem => decide (y.Payment.Warrant = w)) l with ⟨h1, h2⟩ | ⟨i, a, h1, h2, h3, _⟩
  · exact h1
  · have h2 : a.Payment.Warrant = w := by simpa using h2
    exact absurd (List.mem_map.2 ⟨a, List.mem_of_getElem? h1, h2⟩) h
theorem changeD_bad {d : TDesk} {w st : Int} {f : TDesk → TItem → Done1} (h : ¬ checkD d = 0) : changeD d w st f = (zeroD, checkD d) := by rw [changeD, if_neg h]
theorem changeD_none {d : TDesk} {w st : Int} {f : TDesk → TItem → Done1} (h : checkD d = 0) (hw : w ∉ d.Items.map wrt) : changeD d w st f = (zeroD, 6) := by
  rw [changeD, if_pos h]
  split
  · rfl
  · rw [if_pos (by rw [posI_none hw]; omega)]
theorem changeD_at {d : TDesk} {st : Int} {f : TDesk → TItem → Done1} (h : checkD d = 0) {k : Nat} {x : TItem} (hx : d.Items[k]? = some x) : changeD d x.Payment.Warrant st f = if x.State = st then (if (f d x).e = 0 then (⟨(f d x).a, (f d x).q, d.Items.set k (f d x).x⟩, 0) else (zeroD, (f d x).e)) else (zeroD, 67) := by
  have hp := posI_at (checkD_iff.1 h).nd hx
  rw [changeD, if_pos h, hp, Int.toNat_natCast, hx]
  simp only
  rw [if_neg (by omega)]
theorem stateD_none {d : TDesk} {w : Int} (h : checkD d = 0) (hw : w ∉ d.Items.map wrt) : stateD d w = 0 := by
  rw [stateD, if_pos h]
  split
  · rfl
  · rw [if_pos (by rw [posI_none hw]; omega)]
theorem stateD_at {d : TDesk} (h : checkD d = 0) {k : Nat} {x : TItem} (hx : d.Items[k]? = some x) : stateD d x.Payment.Warrant = x.State := by
  have hp := posI_at (checkD_iff.1 h).nd hx
  rw [stateD, if_pos h, hp, Int.toNat_natCast, hx]
  simp only
  rw [if_neg (by omega)]
theorem contains_pf_entry (l : List TEntry) (g : FuncId) (caps : List AV) (p : TEntry → Bool) (hl : l.length ≤ 1000000) (hen : enterable Tryz.prog g = true) (hcap : ∀ a, a ∈ caps → Imm a)
    (hg : ∀ a, a ∈ l → PFun Tryz.prog none none g (.agg (TEntry.cells a) :: caps) (· = bv (p a))) :
    PFun Tryz.prog none none 66 [.list 6 (encL TEntry.cells l), .fn g caps] (· = bv (l.any p)) := by
  refine pfun_intro Tryz.func66 rfl (by simp [Tryz.f66]) (by kernel_rfl) ?_
  intro E hP hr hs hW hN
  obtain ⟨w, hw⟩ : ∃ w, w = l.any p := ⟨_, rfl⟩
  rw [← hw]
  have hi : ∀ a, a ∈ [AV.list 6 (encL TEntry.cells l), .fn g caps] → Imm a := fun a ha => by
    simp only [List.mem_cons, List.not_mem_nil, or_false] at ha
    rcases ha with rfl | rfl
    · exact imm_encL _ TEntry.imm _
    · exact imm_fn.2 hcap
  simp -dsimp -implicitDefEqProofs [-getElem?_pos, go_sem, hP]
  refine callB_is ((index_pf_entry l g caps p hl hen hcap hg).lift _ _) hP en_134 hi .sc ?_
  rcases idxI_spec p l with ⟨h1, h2⟩ | ⟨i, a, h1, h2, h3, _⟩
  · have : w = false := by rw [hw]; exact List.any_eq_false.2 fun a ha => by simp [h2 a ha]
    simp -dsimp -implicitDefEqProofs [-getElem?_pos, go_sem, hP, h1, this]
  · have d : decide ((0 : Int) ≤ (i : Int)) = true := decide_eq_true (by omega)
    have : w = true := by rw [hw]; exact List.any_eq_true.2 ⟨a, List.mem_of_getElem? h1, h2⟩
    simp -dsimp -implicitDefEqProofs [-getElem?_pos, go_sem, hP, h3, d, this]
theorem cw_zeroD {H : Heap} : CW H [iv 0, .nil, .nil, .nil, .nil, .nil, .nil] zeroD.cells := cw_sc (cw_nil (cw_nil (cw_nil (cw_nil (cw_nil (cw_nil .nil))))))
theorem done_zeroD {H : Heap} {n : Int} {Q : AV → Prop} {b : Bx Q} (h : Q (.tup [.agg zeroD.cells, iv n])) : Done H (.tup [.agg [iv 0, .nil, .nil, .nil, .nil, .nil, .nil], iv n]) Q b := done_agg2 cw_zeroD h
theorem open1_pf (e : TEntry) : PFun Tryz.prog none none 67 [.agg e.cells] (· = bv (!refB 0 e)) := by
  refine pfun_intro Tryz.func67 rfl (by simp [Tryz.f67]) (by kernel_rfl) ?_
  intro E hP hr hs hW hN
  simp -dsimp -implicitDefEqProofs [-getElem?_pos, go_sem, hP, cE, refB]
theorem ropen_pf (a : TAccount) (hl : a.Subs.length ≤ 100000) (he : a.Entries.length ≤ 100000) : PFun Tryz.prog none none 24 [.agg a.cells] (· = .tup [.agg (openD a).1.cells, iv (openD a).2]) := by
  refine pfun_intro Tryz.func24 rfl (by simp [Tryz.f24]) (by kernel_rfl) ?_
  intro E hP hr hs hW hN
  have ia := imm_acc a
  have ie := imm_ents a.Entries
  have ck := check_pf a hl he
  have cp := copyAcc_pf a hl he
  rw [cA] at ia ck cp
  have ct := contains_pf_entry a.Entries 67 [] (fun e => !refB 0 e) (by omega) en_67 (by simp) fun e _ => open1_pf e
  simp -dsimp -implicitDefEqProofs [-getElem?_pos, go_sem, hP, cA]
  refine callB_is (ck.lift _ _) hP en_52 (by simpa using ia) .sc ?_
  by_cases c1 : checkA a = 0
  rotate_left
  · have : openD a = (zeroD, checkA a) := by rw [openD, if_neg c1]
    simp -dsimp -implicitDefEqProofs [-getElem?_pos, go_sem, hP, c1]
    refine done_zeroD ?_
    rw [this]
  simp -dsimp -implicitDefEqProofs [-getElem?_pos, go_sem, hP, c1]
  refine callB_is (ct.lift _ _) hP en_66 (by simp [ie, imm_fn]) .sc ?_
  cases c2 : a.Entries.any (fun e => !refB 0 e)
  rotate_left
  · have : openD a = (zeroD, 68) := by rw [openD, if_pos c1, if_pos c2]
    simp -dsimp -implicitDefEqProofs [-getElem?_pos, go_sem, hP, c2]
    refine done_zeroD ?_
    rw [this]
  have : openD a = (⟨a, zeroQ, []⟩, 0) := by rw [openD, if_pos c1, if_neg (by simp [c2])]
  simp -dsimp -implicitDefEqProofs [-getElem?_pos, go_sem, hP, c2]
  refine callB_is (cp.lift _ _) hP en_68 (by simpa using ia) ia ?_
  simp -dsimp -implicitDefEqProofs [-getElem?_pos, go_sem, hP]
  refine done_agg2 (cs' := [iv a.Credit, subsL a.Subs, entsL a.Entries, paysL [], numsL [], batsL [], itemsL []]) (cw_sc (cw_imm (imm_subs _) (cw_imm (imm_ents _) (cw_nil (cw_nil (cw_nil (cw_nil .nil))))))) ?_
  rw [this]
  rfl
theorem rstate_pf (d : TDesk) (w : Int) (hf : FitD d) : PFun Tryz.prog none none 14 [.agg d.cells, iv w] (· = iv (stateD d w)) := by
  refine pfun_intro Tryz.func14 rfl (by simp [Tryz.f14]) (by kernel_rfl) ?_
  intro E hP hr hs hW hN
  have li := hf.i
  have id' := imm_desk d
  have pl := place_pf d w (by omega)
  have ck := dcheck_pf d hf
  rw [cDn] at id' pl ck
  simp -dsimp -implicitDefEqProofs [-getElem?_pos, go_sem, hP, cDn]
  refine callB_flat (pl.lift _ _) hP en_56 (args_same (by simpa [imm_sc] using id')) (by obtain ⟨r, h, _⟩ := placeQ_ex d.Items w; exact ⟨r, h⟩) (fun r h => h.flat) ?_
  rintro r ⟨i, hi, rfl, hcut⟩
  by_cases c1 : (d.Items[i]?).map wrt = some w
  rotate_left
  · have : stateD d w = 0 := by
      by_cases c2 : checkD d = 0
      · refine stateD_none c2 fun hw => ?_
        obtain ⟨k, hk, hk2⟩ := place_cut (checkD_iff.1 c2).ks w
        have := hcut k hk
        subst this
        exact c1 (hk2.2 hw)
      · rw [stateD, if_neg c2]
    have d1 := decide_eq_false c1
    generalize decide ((d.Items[i]?).map wrt = some w) = bb at d1
    subst d1
    simp -dsimp -implicitDefEqProofs [-getElem?_pos, go_sem, hP, this]
  have d1 := decide_eq_true c1
  generalize decide ((d.Items[i]?).map wrt = some w) = bb at d1
  subst d1
  obtain ⟨x, hx, hxw⟩ : ∃ x, d.Items[i]? = some x ∧ x.Payment.Warrant = w := by
    cases h : d.Items[i]? with
    | none => rw [h] at c1; cases c1
    | some x => rw [h] at c1; exact ⟨x, rfl, by simpa [wrt] using c1⟩
  simp -dsimp -implicitDefEqProofs [-getElem?_pos, go_sem, hP]
  refine callB_is (ck.lift _ _) hP en_13 (by simpa using id') .sc ?_
  by_cases c2 : checkD d = 0
  rotate_left
  · have : stateD d w = 0 := by rw [stateD, if_neg c2]
    simp -dsimp -implicitDefEqProofs [-getElem?_pos, go_sem, hP, c2, this]
  have : stateD d w = x.State := by rw [← hxw]; exact stateD_at c2 hx
  simp -dsimp -implicitDefEqProofs [-getElem?_pos, go_sem, hP, c2, hx, cIt, this]
open Go.PA
open Go.RowKit
abbrev ownO (a : TAccount) (q : TQueue) (id n : Nat) : AObj := ⟨35, 7, [[iv a.Credit, subsL a.Subs, entsL a.Entries, paysL q.Waiting, numsL q.Known, batsL q.Batches, .sref id 0 n]]⟩
abbrev itemsO (l : List TItem) : AObj := ⟨46, 7, encL TItem.cells l⟩
def DoM (g : FuncId) (caps : List AV) (d : TDesk) (f : TDesk → TItem → Done1) : Prop :=
  ∀ (row src : Option Nat) (x : TItem) (at_ b id : Nat) (H : Heap), d.Items[at_]? = some x → b ≠ id → H[b]? = some (some (ownO d.Account d.Queue id d.Items.length)) → H[id]? = some (some (itemsO d.Items)) →
    MFun Tryz.prog row src g ([.ref b 0 0, .ref id at_ 0] ++ caps) H (fun r H' => r = iv (f d x).e ∧ ((f d x).e = 0 → H'[b]? = some (some (ownO (f d x).a (f d x).q id d.Items.length)) ∧ H'[id]? = some (some (itemsO (d.Items.set at_ (f d x).x)))) ∧ Kept [b, id] H H')
theorem encL_set {α : Type} (f : α → List AV) (l : List α) (i : Nat) (x : α) : (encL f l).set i (f x) = encL f (l.set i x) := by
  simp [encL, List.map_set]
set_option maxHeartbeats 2000000 in
theorem change_pf (d : TDesk) (w st : Int) (g : FuncId) (caps : List AV) (f : TDesk → TItem → Done1) (hf : FitD d) (hen : enterable Tryz.prog g = true) (hcap : ∀ c, c ∈ caps → Imm c) (hg : checkD d = 0 → DoM g caps d f) :
    PFun Tryz.prog none none 73 [.agg d.cells, iv w, iv st, .fn g caps] (· = .tup [.agg (changeD d w st f).1.cells, iv (changeD d w st f).2]) := by
  refine pfun_introA Tryz.func73 rfl (by simp [Tryz.f73]) ?_
  intro E hP hr hs hW hN
  have li := hf.i
  have id' := imm_desk d
  have pl := place_pf d w (by omega)
  have ck := dcheck_pf d hf
  rw [cDn] at id' pl ck
  refine awp_sound _ _ _ (by rw [hN]; kernel_rfl) ?_
  simp -dsimp -implicitDefEqProofs [-getElem?_pos, go_sem, hP, cDn]
  refine callB_is (ck.lift _ _) hP en_13 (by simpa using id') .sc ?_
  by_cases c1 : checkD d = 0
  rotate_left
  · have := changeD_bad (w := w) (st := st) (f := f) c1
    simp -dsimp -implicitDefEqProofs [-getElem?_pos, go_sem, hP, c1]
    refine done_zeroD ?_
    rw [this]
  have hd := checkD_iff.1 c1
  simp -dsimp -implicitDefEqProofs [-getElem?_pos, go_sem, hP, c1]
  refine callB_flat (pl.lift _ _) hP en_56 (args_same (by simpa [imm_sc] using id')) (by obtain ⟨r, h, _⟩ := placeQ_ex d.Items w; exact ⟨r, h⟩) (fun r h => h.flat) ?_
  rintro r ⟨i, hi, rfl, hcut⟩
  obtain ⟨k, hk, hk2⟩ := place_cut hd.ks w
  have := hcut k hk
  subst this
  by_cases c2 : w ∈ d.Items.map wrt
  rotate_left
  · have := changeD_none (st := st) (f := f) c1 c2
    have d1 : decide ((d.Items[i]?).map wrt = some w) = false := decide_eq_false (mt hk2.1 c2)
    generalize decide ((d.Items[i]?).map wrt = some w) = bb at d1
    subst d1
    simp -dsimp -implicitDefEqProofs [-getElem?_pos, go_sem, hP]
    refine done_zeroD ?_
    rw [this]
  have c2' := hk2.2 c2
  have d1 := decide_eq_true c2'
  generalize decide ((d.Items[i]?).map wrt = some w) = bb at d1
  subst d1
  obtain ⟨x, hx, hxw⟩ : ∃ x, d.Items[i]? = some x ∧ x.Payment.Warrant = w := by
    cases h : d.Items[i]? with
    | none => rw [h] at c2'; cases c2'
    | some x => rw [h] at c2'; exact ⟨x, rfl, by simpa [wrt] using c2'⟩
  have hch := changeD_at (st := st) (f := f) c1 hx
  rw [hxw] at hch
  rw [hch]
  clear hch
  by_cases c3 : x.State = st
  rotate_left
  · have d3 := decide_eq_false c3
    rw [if_neg c3]
    simp -dsimp -implicitDefEqProofs [-getElem?_pos, go_sem, hP, hx, cIt, d3]
    exact done_zeroD rfl
  rw [if_pos c3]
  simp -dsimp -implicitDefEqProofs [-getElem?_pos, go_sem, hP, hx, cIt, c3]
  have cm := fun {row src : Option Nat} (H : Heap) => copied26_m (row := row) (src := src) d H hf
  simp only [cDn] at cm
  refine callB_m (by rw [hr, hs]; exact cm _) hP en_59 ?_
  rintro r H2 ⟨id, rfl, hid, ho, hk'⟩
  have b0 := hk' 0 _ (by simp) rfl
  have b1 := hk' 1 _ (by simp) rfl
  have lt0 := (List.getElem?_eq_some_iff.1 b0).1
  have lt1 := (List.getElem?_eq_some_iff.1 b1).1
  have lti := (List.getElem?_eq_some_iff.1 ho).1
  have hid2 : 2 ≤ id := by simpa using hid
  have n0 : ¬ 0 = id := by omega
  have n0' : ¬ id = 0 := by omega
  have hil := (List.getElem?_eq_some_iff.1 hx).1
  simp -dsimp -implicitDefEqProofs [-getElem?_pos, go_sem, hP, b0, lt0, ho, hil, n0]
  generalize hH3 : List.set H2 0 _ = H3
  have e0 : H3[0]? = some (some (ownO d.Account d.Queue id d.Items.length)) := by rw [← hH3, List.getElem?_set_self lt0]
  have e1 : H3[1]? = H2[1]? := by rw [← hH3, List.getElem?_set_ne (by omega)]
  have ei : H3[id]? = H2[id]? := by rw [← hH3, List.getElem?_set_ne (by omega)]
  rw [b1] at e1
  rw [ho] at ei
  refine callB_m (by rw [hr, hs]; exact hg c1 none none x i 0 id H3 hx n0 e0 ei) hP hen ?_
  rintro r H4 ⟨rfl, hdo, hk4⟩
  have f1 := hk4 _ _ (by simp; omega) e1
  have m1 := (List.getElem?_eq_some_iff.1 f1).1
  by_cases c4 : (f d x).e = 0
  rotate_left
  · have d4 := decide_eq_false c4
    rw [if_neg c4]
    simp -dsimp -implicitDefEqProofs [-getElem?_pos, go_sem, hP, d4, f1, m1]
    exact done_zeroD rfl
  obtain ⟨g0, gi⟩ := hdo c4
  have m0 := (List.getElem?_eq_some_iff.1 g0).1
  have d4 := decide_eq_true c4
  have n01 : ¬ 1 = id := by omega
  rw [if_pos c4]
  simp -dsimp -implicitDefEqProofs [-getElem?_pos, go_sem, hP, c4, d4, f1, m1, g0, m0]
  refine done_agg2 (cs' := TDesk.cells ⟨(f d x).a, (f d x).q, d.Items.set i (f d x).x⟩) ?_ rfl
  refine cw_sc (cw_imm (imm_subs _) (cw_imm (imm_ents _) (cw_imm (imm_pays _) (cw_imm (imm_nums _) (cw_imm (imm_bats _) (cw_sref (ty := 46) ?_ ?_ (imm_items _) .nil))))))
  · rw [List.getElem?_set_ne n01]
    exact gi
  · rw [encL_len, List.length_set]
theorem return1_do (d : TDesk) (w day : Int) (hf : FitD d) : DoM 74 [.iref [iv day], .iref [iv w]] d (returnF w day) := by
  intro row src x at_ b id H hx hbi hb hi
  have hil := (List.getElem?_eq_some_iff.1 hx).1
  have ltb := (List.getElem?_eq_some_iff.1 hb).1
  have lti := (List.getElem?_eq_some_iff.1 hi).1
  have ia := imm_acc d.Account
  have nx := next_pf d.Account day 0 x.Payment.Sub x.Payment.Amount w hf.e
  have po := post_pf d.Account (nextE d.Account day 0 x.Payment.Sub x.Payment.Amount w) hf.s hf.e
  have ie := imm_ent (nextE d.Account day 0 x.Payment.Sub x.Payment.Amount w)
  have io := imm_acc (postA d.Account (nextE d.Account day 0 x.Payment.Sub x.Payment.Amount w)).1
  simp only [cA] at ia nx po io
  obtain ⟨C, hC⟩ : ∃ C : AV → Heap → Prop, C = fun r H' => r = iv (returnF w day d x).e ∧ ((returnF w day d x).e = 0 → H'[b]? = some (some (ownO (returnF w day d x).a (returnF w day d x).q id d.Items.length)) ∧ H'[id]? = some (some (itemsO (d.Items.set at_ (returnF w day d x).x)))) ∧ Kept [b, id] H H' := ⟨_, rfl⟩
  rw [← hC]
  have es := encL_set TItem.cells d.Items at_ (returnF w day d x).x
  have fin : C (iv (returnF w day d x).e) ((H.set id (some ⟨46, 7, (encL TItem.cells d.Items).set at_ (returnF w day d x).x.cells⟩)).set b (some (ownO (returnF w day d x).a (returnF w day d x).q id d.Items.length))) := by
    rw [hC, es]
    exact ⟨rfl, fun _ => ⟨by rw [List.getElem?_set_self (by simpa using ltb)], by rw [List.getElem?_set_ne hbi, List.getElem?_set_self lti]⟩, kept_set _ (by simp) (kept_set _ (by simp) (kept_refl _ _))⟩
  refine mfun_intro Tryz.func74 rfl (by simp [Tryz.f74]) (by kernel_rfl) (⟨_, _, fin⟩) ?_
  intro E hP hr hs hN
  simp -dsimp -implicitDefEqProofs [-getElem?_pos, go_sem, hP, hi, hx, hil, lti, cIt]
  have hb1 : (H.set id (some ⟨46, 7, (encL TItem.cells d.Items).set at_ (returnF w day d x).x.cells⟩))[b]? = H[b]? := List.getElem?_set_ne (Ne.symm hbi)
  have hi1 : (H.set id (some ⟨46, 7, (encL TItem.cells d.Items).set at_ (returnF w day d x).x.cells⟩))[id]? = some (some ⟨46, 7, encL TItem.cells (d.Items.set at_ (returnF w day d x).x)⟩) := by rw [List.getElem?_set_self lti, es]
  have hx1 : (d.Items.set at_ (returnF w day d x).x)[at_]? = some (returnF w day d x).x := List.getElem?_set_self hil
  have hl1 : (H.set id (some ⟨46, 7, (encL TItem.cells d.Items).set at_ (returnF w day d x).x.cells⟩)).length = H.length := List.length_set
  rw [hb] at hb1
  simp only [returnF, cIt] at hb1 hl1 hi1 hx1 fin
  generalize hH1 : List.set H id _ = H1 at hb1 hl1 hi1 fin
  generalize List.set d.Items at_ _ = L1 at hi1 hx1
  have hil1 := (List.getElem?_eq_some_iff.1 hx1).1
  rw [← hl1] at ltb lti
  refine adrawB (fun i => decide (i = b) || decide (i = id)) [28] hP (by kernel_rfl) (by kernel_rfl) ?_
  simp -dsimp -implicitDefEqProofs [-getElem?_pos, go_sem, hP, hb1, ltb, hi1, hx1, lti, hil1, cIt]
  refine callB_is (nx.lift _ _) hP en_62 (by simpa [imm_sc] using ia) ie ?_
  simp -dsimp -implicitDefEqProofs [-getElem?_pos, go_sem, hP, hb1, ltb, hi1, hx1, lti, hil1, cIt]
  refine callB_is (po.lift _ _) hP en_61 (by simpa using ⟨ia, ie⟩) (imm_pair io .sc) ?_
  simp -dsimp -implicitDefEqProofs [-getElem?_pos, go_sem, hP, hb1, ltb, hi1, hx1, lti, hil1, cIt]
  exact fin
theorem again1_do (d : TDesk) (due : Int) (hf : FitD d) : DoM 75 [.iref [iv due]] d (againF due) := by
  intro row src x at_ b id H hx hbi hb hi
  have hil := (List.getElem?_eq_some_iff.1 hx).1
  have ltb := (List.getElem?_eq_some_iff.1 hb).1
  have lti := (List.getElem?_eq_some_iff.1 hi).1
  have iq := imm_que d.Queue
  have ip := imm_pay (duePay x.Payment due)
  have ap := bagain_pf d.Queue (duePay x.Payment due) hf.q
  have io := imm_que (againQ d.Queue (duePay x.Payment due)).1
  simp only [cQn] at iq ap io
  obtain ⟨C, hC⟩ : ∃ C : AV → Heap → Prop, C = fun r H' => r = iv (againF due d x).e ∧ ((againF due d x).e = 0 → H'[b]? = some (some (ownO (againF due d x).a (againF due d x).q id d.Items.length)) ∧ H'[id]? = some (some (itemsO (d.Items.set at_ (againF due d x).x)))) ∧ Kept [b, id] H H' := ⟨_, rfl⟩
  rw [← hC]
  by_cases c1 : x.Attempts = 5
  · have fin : C (iv 3) H := by
      rw [hC]
      have : againF due d x = ⟨d.Account, d.Queue, x, 3⟩ := by rw [againF, if_pos c1]
      rw [this]
      exact ⟨rfl, fun h => absurd h (by simp), kept_refl _ _⟩
    refine mfun_intro Tryz.func75 rfl (by simp [Tryz.f75]) (by kernel_rfl) (⟨_, _, fin⟩) ?_
    intro E hP hr hs hN
    simp -dsimp -implicitDefEqProofs [-getElem?_pos, go_sem, hP, hi, hx, hil, lti, cIt, c1]
    exact fin
  have d1 := decide_eq_false c1
  have hag : againF due d x = ⟨d.Account, (againQ d.Queue (duePay x.Payment due)).1, ⟨duePay x.Payment due, 1, x.Attempts⟩, (againQ d.Queue (duePay x.Payment due)).2⟩ := by rw [againF, if_neg c1]
  obtain ⟨y, hy⟩ : ∃ y : TItem, y = ⟨duePay x.Payment due, 1, x.Attempts⟩ := ⟨_, rfl⟩
  rw [← hy] at hag
  rw [hag] at hC
  have es := encL_set TItem.cells d.Items at_ y
  have fin : C (iv (againQ d.Queue (duePay x.Payment due)).2) ((H.set id (some ⟨46, 7, (encL TItem.cells d.Items).set at_ y.cells⟩)).set b (some (ownO d.Account (againQ d.Queue (duePay x.Payment due)).1 id d.Items.length))) := by
    rw [hC, es]
    exact ⟨rfl, fun _ => ⟨by rw [List.getElem?_set_self (by simpa using ltb)], by rw [List.getElem?_set_ne hbi, List.getElem?_set_self lti]⟩, kept_set _ (by simp) (kept_set _ (by simp) (kept_refl _ _))⟩
  refine mfun_intro Tryz.func75 rfl (by simp [Tryz.f75]) (by kernel_rfl) (⟨_, _, fin⟩) ?_
  intro E hP hr hs hN
  simp -dsimp -implicitDefEqProofs [-getElem?_pos, go_sem, hP, hi, hx, hil, lti, cIt, d1]
  refine adrawB (fun _ => false) [3, 4, 6, 7, 8, 9] hP (by kernel_rfl) (by kernel_rfl) ?_
  simp -dsimp -implicitDefEqProofs [-getElem?_pos, go_sem, hP, hi, hx, hil, lti, cIt]
  refine ⟨fun _ h => (by cases h), ?_⟩
  have hb1 : (H.set id (some ⟨46, 7, (encL TItem.cells d.Items).set at_ y.cells⟩))[b]? = H[b]? := List.getElem?_set_ne (Ne.symm hbi)
  have hi1 : (H.set id (some ⟨46, 7, (encL TItem.cells d.Items).set at_ y.cells⟩))[id]? = some (some ⟨46, 7, encL TItem.cells (d.Items.set at_ y)⟩) := by rw [List.getElem?_set_self lti, es]
  have hx1 : (d.Items.set at_ y)[at_]? = some y := List.getElem?_set_self hil
  have hl1 : (H.set id (some ⟨46, 7, (encL TItem.cells d.Items).set at_ y.cells⟩)).length = H.length := List.length_set
  rw [hb] at hb1
  rw [hy] at hb1 hl1 hi1 hx1 fin
  simp only [duePay, cIt] at hb1 hl1 hi1 hx1 fin
  generalize hH1 : List.set H id _ = H1 at hb1 hl1 hi1 fin
  generalize List.set d.Items at_ _ = L1 at hi1 hx1
  have hil1 := (List.getElem?_eq_some_iff.1 hx1).1
  rw [← hl1] at ltb lti
  simp only [duePay, cPy] at ip ap io
  refine adrawB (fun i => decide (i = b) || decide (i = id)) [15] hP (by kernel_rfl) (by kernel_rfl) ?_
  simp -dsimp -implicitDefEqProofs [-getElem?_pos, go_sem, hP, hb1, ltb, hi1, hx1, lti, hil1, cIt]
  refine callB_is (ap.lift _ _) hP en_76 (by simpa using ⟨iq, ip⟩) (imm_pair io .sc) ?_
  simp -dsimp -implicitDefEqProofs [-getElem?_pos, go_sem, hP, hb1, ltb, hi1, hx1, lti, hil1, cIt]
  exact fin
theorem rreturn_pf (d : TDesk) (w day : Int) (hf : FitD d) : PFun Tryz.prog none none 28 [.agg d.cells, iv w, iv day] (· = .tup [.agg (returnD d w day).1.cells, iv (returnD d w day).2]) := by
  refine pfun_intro Tryz.func28 rfl (by simp [Tryz.f28]) (by kernel_rfl) ?_
  intro E hP hr hs hW hN
  have id' := imm_desk d
  have io := imm_desk (returnD d w day).1
  have ch := change_pf d w 2 74 [.iref [iv day], .iref [iv w]] (returnF w day) hf en_74 (by simp [imm_iref, imm_sc]) fun _ => return1_do d w day hf
  rw [← returnD] at ch
  simp only [cDn] at id' ch io
  simp -dsimp -implicitDefEqProofs [-getElem?_pos, go_sem, hP, cDn]
  refine callB_frz (ch.lift _ _) hP hW en_73 (args_imm id' (args_imm .sc (args_imm .sc (args_fnc (cs := [.ref 2 0 0, .ref 1 0 0]) (by simp -dsimp -implicitDefEqProofs [-getElem?_pos, go_sem, viewR_ref]) (by simp [imm_iref, imm_sc]) (args_nil.2 trivial))))) (imm_pair io .sc) ?_
  simp -dsimp -implicitDefEqProofs [-getElem?_pos, go_sem, hP, killAll, List.flatMap_cons, List.flatMap_nil, List.foldl_cons, List.foldl_nil, List.append_nil, List.cons_append, List.nil_append]
  exact done_imm (imm_pair io .sc) rfl
theorem ragain_pf (d : TDesk) (w due : Int) (hf : FitD d) : PFun Tryz.prog none none 29 [.agg d.cells, iv w, iv due] (· = .tup [.agg (againD d w due).1.cells, iv (againD d w due).2]) := by
  refine pfun_intro Tryz.func29 rfl (by simp [Tryz.f29]) (by kernel_rfl) ?_
  intro E hP hr hs hW hN
  have id' := imm_desk d
  have io := imm_desk (againD d w due).1
  have ch := change_pf d w 4 75 [.iref [iv due]] (againF due) hf en_75 (by simp [imm_iref, imm_sc]) fun _ => again1_do d due hf
  rw [← againD] at ch
  simp only [cDn] at id' ch io
  simp -dsimp -implicitDefEqProofs [-getElem?_pos, go_sem, hP, cDn]
  refine callB_frz (ch.lift _ _) hP hW en_73 (args_imm id' (args_imm .sc (args_imm .sc (args_fnc (cs := [.ref 1 0 0]) (by simp -dsimp -implicitDefEqProofs [-getElem?_pos, go_sem, viewR_ref]) (by simp [imm_iref, imm_sc]) (args_nil.2 trivial))))) (imm_pair io .sc) ?_
  simp -dsimp -implicitDefEqProofs [-getElem?_pos, go_sem, hP, killAll, List.flatMap_cons, List.flatMap_nil, List.foldl_cons, List.foldl_nil, List.append_nil, List.cons_append, List.nil_append]
  exact done_imm (imm_pair io .sc) rfl
open Go.PA
open Go.RowKit
open Go.PA
open Go.RowKit
open Go.PA
open Go.RowKit
open Go.PA
open Go.RowKit
open Go.PA
open Go.RowKit
open Go.PA
theorem post_ok {a : TAccount} {e : TEntry} (h : (postA a e).2 = 0) : checkA a = 0 ∧ a.Entries.length < 400 ∧ (postS a.Credit (lastE a).Number (lastE a).Day a.Subs e).1 = 0 ∧ (postA a e).1 = ⟨a.Credit, (postS a.Credit (lastE a).Number (lastE a).Day a.Subs e).2, a.Entries ++ [e]⟩ := by
  unfold postA at h ⊢
  by_cases c1 : checkA a = 0
  · rw [if_pos c1] at h ⊢
    by_cases c2 : a.Entries.length = 400
    · rw [if_pos c2] at h; simp at h
    · rw [if_neg c2] at h ⊢
      by_cases c3 : (postS a.Credit (lastE a).Number (lastE a).Day a.Subs e).1 = 0
      · rw [if_pos c3]
        have := (check_ok c1).2.1
        exact ⟨c1, by omega, c3, rfl⟩
      · rw [if_neg c3] at h
        exact absurd h c3
  · rw [if_neg c1] at h
    exact absurd h c1
theorem post_check {a : TAccount} {e : TEntry} (h : (postA a e).2 = 0) : checkA (postA a e).1 = 0 := by
  obtain ⟨c1, c2, c3, c4⟩ := post_ok h
  obtain ⟨k1, k2, k3, k4, k5⟩ := check_ok c1
  rw [c4]
  have hi := postS_ids a.Credit (lastE a).Number (lastE a).Day a.Subs e
  have hl : (postS a.Credit (lastE a).Number (lastE a).Day a.Subs e).2.length = a.Subs.length := by rw [← ids_len, hi, ids_len]
  have hz : zeroS (postS a.Credit (lastE a).Number (lastE a).Day a.Subs e).2 = zeroS a.Subs := by
    have : ∀ l : List TSub, zeroS l = (ids l).map fun i => ⟨i, 0⟩ := fun l => by simp [zeroS, ids, Function.comp_def]
    rw [this, this, hi]
  refine check_mk (n := e.Number) (d := e.Day) (by dsimp only; omega) (by simp; omega) k3 (by dsimp only; rw [hi]; exact k4) ?_
  dsimp only
  rw [hz, replayS_app, k5]
  simp only [Option.bind_some, replayS, c3, if_true]
theorem lastE_post {a : TAccount} {e : TEntry} (h : (postA a e).2 = 0) : lastE (postA a e).1 = e := by
  rw [(post_ok h).2.2.2, lastE]
  simp
theorem post_ids {a : TAccount} {e : TEntry} (h : (postA a e).2 = 0) : ids (postA a e).1.Subs = ids a.Subs := by
  rw [(post_ok h).2.2.2]
  exact postS_ids _ _ _ _ _
theorem post_ents {a : TAccount} {e : TEntry} (h : (postA a e).2 = 0) : (postA a e).1.Entries = a.Entries ++ [e] := by rw [(post_ok h).2.2.2]
theorem post_credit {a : TAccount} {e : TEntry} (h : (postA a e).2 = 0) : (postA a e).1.Credit = a.Credit := by rw [(post_ok h).2.2.2]
structure GenAcc (n : Nat) (a : TAccount) : Prop where
  ok : checkA a = 0
  ids : ids a.Subs = [1, 2, 3, 7]
  len : a.Entries.length ≤ n
  day : (lastE a).Day ≤ 2 * (n : Int)
  small : ∀ e, e ∈ a.Entries → e.Amount ≤ 500
  cred : a.Credit ≤ 100
theorem GenAcc.post {n : Nat} {a : TAccount} {e : TEntry} (h : GenAcc n a) (hp : (postA a e).2 = 0) (hd : e.Day ≤ 2 * ((n : Int) + 1)) (ha : e.Amount ≤ 500) : GenAcc (n + 1) (postA a e).1 := by
  refine ⟨post_check hp, (post_ids hp).trans h.ids, ?_, ?_, ?_, by rw [post_credit hp]; exact h.cred⟩
  · rw [post_ents hp]; have := h.len; simp; omega
  · rw [lastE_post hp]; omega
  · rw [post_ents hp]
    intro x hx
    rcases List.mem_append.1 hx with hx | hx
    · exact h.small x hx
    · simp at hx; subst hx; exact ha
theorem GenAcc.mono {n m : Nat} {a : TAccount} (h : GenAcc n a) (hm : n ≤ m) : GenAcc m a := ⟨h.ok, h.ids, by have := h.len; omega, by have := h.day; omega, h.small, h.cred⟩
theorem GenAcc.open {c : Int} (hc : 0 ≤ c ∧ c ≤ 100) : GenAcc 0 (newA [1, 2, 3, 7] c) ∧ openA [1, 2, 3, 7] c = (newA [1, 2, 3, 7] c, 0) := by
  have hv : vB c = true := by simp [vB, amongB]; omega
  have hb : numB [1, 2, 3, 7] = true := by decide
  refine ⟨⟨check_mk (n := 0) (d := 0) (by simp [newA, newS]) (by simp [newA]) (by simp [newA]; omega) (by simp only [newA, newS_ids]; exact hb) (by simp [newA, newS, zeroS, replayS]), by simp [newA, newS_ids], by simp [newA], by simp [newA, lastE], by simp [newA], by simp [newA]; omega⟩, ?_⟩
  unfold openA
  rw [if_pos hv, if_neg (by simp), if_pos hb]
open Go.PA
open Go.RowKit
theorem sentI_pay (ws : List Int) (x : TItem) : (sentI ws x).Payment = x.Payment := by unfold sentI; split <;> rfl
theorem sentI_wrt (ws : List Int) (l : List TItem) : (l.map (sentI ws)).map wrt = l.map wrt := by
  rw [List.map_map]
  exact List.map_congr_left fun x _ => by simp [wrt, sentI_pay]
theorem sentI_nil (l : List TItem) : l.map (sentI []) = l := by
  have : sentI [] = id := funext fun x => by simp [sentI]
  rw [this, List.map_id]
theorem sentI_set {l : List TItem} (hn : (l.map wrt).Nodup) {ws : List Int} {i : Nat} {x : TItem} (hx : l[i]? = some x) (hw : x.Payment.Warrant ∉ ws) :
    (l.map (sentI ws))[i]? = some x ∧ (l.map (sentI ws)).set i ⟨x.Payment, 2, x.Attempts + 1⟩ = l.map (sentI (ws ++ [x.Payment.Warrant])) := by
  refine ⟨by rw [List.getElem?_map, hx, Option.map_some, sentI, if_neg hw], ?_⟩
  apply List.ext_getElem?
  intro j
  rw [List.getElem?_set, List.getElem?_map, List.getElem?_map, List.length_map]
  by_cases hij : i = j
  · subst hij
    rw [if_pos rfl, if_pos (List.getElem?_eq_some_iff.1 hx).1, hx, Option.map_some, sentI, if_pos (by simp)]
  · rw [if_neg hij]
    cases hj : l[j]? with
    | none => rfl
    | some y =>
      have hne : y.Payment.Warrant ≠ x.Payment.Warrant := fun e => by
        have e1 : (l.map wrt)[i]? = some x.Payment.Warrant := by rw [List.getElem?_map, hx]; rfl
        have e2 : (l.map wrt)[j]? = some x.Payment.Warrant := by rw [List.getElem?_map, hj, ← e]; rfl
        exact hij ((List.getElem?_inj (List.getElem?_eq_some_iff.1 e1).1 hn).1 (e1.trans e2.symm))
      simp [sentI, hne]
theorem readyQ_sub (q : TQueue) (day : Int) : (readyQ q day).Sublist q.Waiting := by
  unfold readyQ
  split
  · exact List.filter_sublist
  · exact List.nil_sublist _
theorem readyQ_nd {q : TQueue} (hq : QOk q) (day : Int) : ((readyQ q day).map (·.Warrant)).Nodup := hq.asc.nd.sublist ((readyQ_sub q day).map _)
theorem wait_item {d : TDesk} (hd : DOk d) {p : TPayment} (hp : p ∈ d.Queue.Waiting) : ∃ (i : Nat) (x : TItem), d.Items[i]? = some x ∧ x.Payment = p ∧ x.State = 1 := by
  have hw : ∀ x, x ∈ d.Items → waitB d.Queue x = true := fun x hx => by
    have := hd.i x hx
    simp only [itemB, Bool.and_eq_true] at this
    exact this.2.2.2.2.1
  obtain ⟨h1, h2⟩ := (waitB_iff hd.q hd.k).1 hw
  obtain ⟨x, hx, hs, e⟩ := wait_all hd.q hd.k h1 h2 p hp
  obtain ⟨i, hi⟩ := List.getElem?_of_mem hx
  exact ⟨i, x, hi, e, hs⟩
theorem item_facts {d : TDesk} (hd : DOk d) {x : TItem} (hx : x ∈ d.Items) : PayOk x.Payment ∧ (balanceA d.Account x.Payment.Sub).2 = true ∧ (1 ≤ x.State ∧ x.State ≤ 5) ∧ (0 ≤ x.Attempts ∧ x.Attempts ≤ 5) ∧ attB x = true ∧ waitB d.Queue x = true ∧ (batN d.Queue x.Payment.Warrant : Int) = x.Attempts ∧ movedB d.Account x = true := by
  have := hd.i x hx
  simp only [itemB, Bool.and_eq_true, payB_iff, amg_iff, decide_eq_true_eq] at this
  obtain ⟨h1, h2, h3, h4, h5, h6, h7⟩ := this
  refine ⟨h1, h2, h3, ?_, h4, h5, h6, h7⟩
  simp only [attB, Bool.and_eq_true, amg_iff] at h4
  exact h4.1
theorem lastQ_nil {q : TQueue} (h : q.Batches.length = 0) : lastQ q = 0 := by
  rw [lastQ, List.eq_nil_of_length_eq_zero h]
  rfl
theorem lastQ_get {q : TQueue} {k : Nat} {b : TBatch} (h : q.Batches.length = k + 1) (hb : q.Batches[k]? = some b) : lastQ q = b.Day := by
  rw [lastQ, List.getLast?_eq_getElem?, h]
  simp [hb]
theorem check_fit {a : TAccount} (h : checkA a = 0) : a.Subs.length ≤ 100000 ∧ a.Entries.length ≤ 100000 := by
  have := check_ok h
  omega
theorem sendGo_len (day : Int) : ∀ (l : List TPayment) (a : TAccount) (ws : List Int) (full : Bool), ws.length ≤ 10 → (sendGo day l a ws full).2.1.length ≤ 10
  | [], a, ws, full, h => h
  | p :: l, a, ws, full, h => by
    rw [sendGo]
    split
    · exact h
    · split
      · exact sendGo_len day l _ _ _ (by rw [List.length_append, List.length_singleton]; omega)
      · exact sendGo_len day l _ _ _ h
theorem lastDay_pos {a : TAccount} (h : checkA a = 0) : 0 ≤ lastDay a := (check_keeps h).2.2.1
open Go.PA
open Go.RowKit
abbrev zDeskO : AObj := ⟨35, 7, [[iv 0, .nil, .nil, .nil, .nil, .nil, .nil]]⟩
abbrev zBatO : AObj := ⟨55, 3, [[iv 0, iv 0, .nil]]⟩
theorem done_zeroD3 {H : Heap} {n : Int} {Q : AV → Prop} {b : Bx Q} (h : Q (.tup [.agg zeroD.cells, .agg zeroB.cells, iv n])) : Done H (.tup [.agg [iv 0, .nil, .nil, .nil, .nil, .nil, .nil], .agg [iv 0, iv 0, .nil], iv n]) Q b := done_trip cw_zeroD cw_zeroB h
set_option maxHeartbeats 8000000 in
theorem rsend_pf (d : TDesk) (day : Int) (hf : FitD d) : PFun Tryz.prog none none 19 [.agg d.cells, iv day] (· = .tup [.agg (sendD d day).1.cells, .agg (sendD d day).2.1.cells, iv (sendD d day).2.2]) := by
  refine pfun_introA Tryz.func19 rfl (by simp [Tryz.f19]) ?_
  intro E hP hr hs hW hN
  have li := hf.i
  have lb := hf.q.b
  have id' := imm_desk d
  have ia := imm_acc d.Account
  have ck := dcheck_pf d hf
  have ld := lastDay_pf d.Account hf.e
  simp only [cDn] at id' ck
  simp only [cA] at ia ld
  obtain ⟨R, hR⟩ : ∃ R, R = AV.tup [.agg (sendD d day).1.cells, .agg (sendD d day).2.1.cells, iv (sendD d day).2.2] := ⟨_, rfl⟩
  rw [← hR]
  have zer : ∀ n, sendD d day = (zeroD, zeroB, n) → AV.tup [.agg zeroD.cells, .agg zeroB.cells, iv n] = R := fun n h => by rw [hR, h]
  refine awp_cut (by rw [hN]; kernel_rfl) ?_
  simp -dsimp -implicitDefEqProofs [-getElem?_pos, go_sem, hP, cDn]
  refine awp_cut (by rw [hN]; kernel_rfl) ?_
  simp -dsimp -implicitDefEqProofs [-getElem?_pos, go_sem, hP]
  refine callB_is (ck.lift _ _) hP en_13 (by simpa using id') .sc ?_
  by_cases c1 : checkD d = 0
  rotate_left
  · have : sendD d day = (zeroD, zeroB, checkD d) := by rw [sendD, if_neg c1]
    simp -dsimp -implicitDefEqProofs [-getElem?_pos, go_sem, hP, c1]
    exact done_zeroD3 (zer _ this)
  have hd := checkD_iff.1 c1
  simp -dsimp -implicitDefEqProofs [-getElem?_pos, go_sem, hP, c1]
  refine awp_cut (by rw [hN]; kernel_rfl) ?_
  simp -dsimp -implicitDefEqProofs [-getElem?_pos, go_sem, hP]
  refine callB_is (ld.lift _ _) hP en_57 (by simpa using ia) .sc ?_
  simp -dsimp -implicitDefEqProofs [-getElem?_pos, go_sem, hP]
  obtain ⟨Inv, hInv⟩ : ∃ Inv : St → Prop, Inv = fun s => s.t 1 = iv day ∧ s.t 2 = .ref 0 0 0 ∧ s.t 4 = .ref 1 0 0 ∧ s.t 5 = .ref 2 0 0 ∧ s.t 8 = iv (max (lastDay d.Account) (lastQ d.Queue)) ∧ s.H = [some (deskO d), some zDeskO, some zBatO] := ⟨_, rfl⟩
  refine awp_join Inv (by rw [hN]; kernel_rfl) ?_ ?_
  · rcases Nat.eq_zero_or_pos d.Queue.Batches.length with h0 | h0
    · have d0 : decide (0 < d.Queue.Batches.length) = false := decide_eq_false (by omega)
      have e0 : max (lastDay d.Account) (lastQ d.Queue) = lastDay d.Account := by
        rw [lastQ_nil h0]
        have := lastDay_pos hd.a
        omega
      simp -dsimp -implicitDefEqProofs [-getElem?_pos, go_sem, hP, d0]
      refine ⟨_, Weaker.refl _, ?_⟩
      rw [hInv, e0]
      exact ⟨by simp -dsimp -implicitDefEqProofs [-getElem?_pos, go_sem], by simp -dsimp -implicitDefEqProofs [-getElem?_pos, go_sem], by simp -dsimp -implicitDefEqProofs [-getElem?_pos, go_sem], by simp -dsimp -implicitDefEqProofs [-getElem?_pos, go_sem], by simp -dsimp -implicitDefEqProofs [-getElem?_pos, go_sem], rfl⟩
    · obtain ⟨k, hk⟩ : ∃ k, d.Queue.Batches.length = k + 1 := ⟨_, (Nat.succ_pred_eq_of_pos h0).symm⟩
      obtain ⟨b, hb⟩ : ∃ b, d.Queue.Batches[k]? = some b := ⟨_, List.getElem?_eq_getElem (by omega)⟩
      have d0 : decide ((0 : Int) < (k : Int) + 1) = true := decide_eq_true (by omega)
      have wk := wrap_in ((k : Int) + 1 - 1) (by omega)
      rw [Int.add_sub_cancel] at wk
      rw [lastQ_get hk hb] at hInv
      simp -dsimp -implicitDefEqProofs [-getElem?_pos, go_sem, hP, hk, d0, Int.add_sub_cancel, wk, hb, cBt, amax, amaxFrom]
      refine ⟨_, Weaker.refl _, ?_⟩
      rw [hInv]
      exact ⟨by simp -dsimp -implicitDefEqProofs [-getElem?_pos, go_sem], by simp -dsimp -implicitDefEqProofs [-getElem?_pos, go_sem], by simp -dsimp -implicitDefEqProofs [-getElem?_pos, go_sem], by simp -dsimp -implicitDefEqProofs [-getElem?_pos, go_sem], by simp -dsimp -implicitDefEqProofs [-getElem?_pos, go_sem], rfl⟩
  intro s hs'
  rw [hInv] at hs'
  obtain ⟨t1, t2, t4, t5, t8, hH⟩ := hs'
  clear hInv Inv
  refine awp_cut (by rw [hN]; kernel_rfl) ?_
  simp -dsimp -implicitDefEqProofs [-getElem?_pos, go_sem, hP, t1]
  refine callB_is ((cbusiness_pf day).lift _ _) hP en_58 (by simp [imm_sc]) .sc ?_
  cases c2 : busB day
  · have : sendD d day = (zeroD, zeroB, 66) := by rw [sendD, if_pos c1, if_neg (by simp [c2])]
    simp -dsimp -implicitDefEqProofs [-getElem?_pos, go_sem, hP, c2, t4, t5, hH]
    exact done_zeroD3 (zer _ this)
  by_cases c3 : day < max (lastDay d.Account) (lastQ d.Queue)
  · have d3 : decide (day < max (lastDay d.Account) (lastQ d.Queue)) = true := decide_eq_true c3
    have : sendD d day = (zeroD, zeroB, 8) := by rw [sendD, if_pos c1, if_pos c2, if_pos (by omega)]
    simp -dsimp -implicitDefEqProofs [-getElem?_pos, go_sem, hP, c2, t4, t5, hH, t1, t8, d3]
    exact done_zeroD3 (zer _ this)
  have d3 : decide (day < max (lastDay d.Account) (lastQ d.Queue)) = false := decide_eq_false c3
  simp -dsimp -implicitDefEqProofs [-getElem?_pos, go_sem, hP, c2, t1, t8, d3]
  refine awp_cut (by rw [hN]; kernel_rfl) ?_
  simp -dsimp -implicitDefEqProofs [-getElem?_pos, go_sem, hP, t2, hH]
  have cm := fun {row src : Option Nat} (H : Heap) => copied26_m (row := row) (src := src) d H hf
  simp only [cDn] at cm
  refine callB_m (by rw [hr, hs]; exact cm _) hP en_59 ?_
  rintro r H2 ⟨id, rfl, hid, ho, hk'⟩
  have b0 := hk' 0 _ (by simp) rfl
  have b1 := hk' 1 _ (by simp) rfl
  have b2 := hk' 2 _ (by simp) rfl
  have lt0 := (List.getElem?_eq_some_iff.1 b0).1
  have hid2 : 3 ≤ id := by simpa using hid
  have n0 : ¬ 0 = id := by omega
  simp -dsimp -implicitDefEqProofs [-getElem?_pos, go_sem, hP, t2, b0, lt0]
  generalize hH3 : List.set H2 0 _ = H3
  have e0 : H3[0]? = some (some (ownO d.Account d.Queue id d.Items.length)) := by rw [← hH3, List.getElem?_set_self lt0]
  have e1 : H3[1]? = H2[1]? := by rw [← hH3, List.getElem?_set_ne (by omega)]
  have e2 : H3[2]? = H2[2]? := by rw [← hH3, List.getElem?_set_ne (by omega)]
  have ei : H3[id]? = H2[id]? := by rw [← hH3, List.getElem?_set_ne (by omega)]
  rw [b1] at e1
  rw [b2] at e2
  rw [ho] at ei
  clear hH3 b0 b1 b2 lt0 hk' ho
  refine awp_cut (by rw [hN]; kernel_rfl) ?_
  simp -dsimp -implicitDefEqProofs [-getElem?_pos, go_sem, hP]
  refine awp_cut (by rw [hN]; kernel_rfl) ?_
  simp -dsimp -implicitDefEqProofs [-getElem?_pos, go_sem, hP]
  have hg : goD d day = sendGo day (readyQ d.Queue day) d.Account [] false := rfl
  obtain ⟨rl, hrl⟩ : ∃ rl, rl = readyQ d.Queue day := ⟨_, rfl⟩
  have hmem : ∀ p, p ∈ rl → p ∈ d.Queue.Waiting := fun p hp => (readyQ_sub d.Queue day).subset (hrl ▸ hp)
  have hnd : (rl.map (·.Warrant)).Nodup := hrl ▸ readyQ_nd hd.q day
  have hll : rl.length ≤ 100000 := by
    have := (readyQ_sub d.Queue day).length_le
    have := hf.q.w
    rw [hrl]
    omega
  obtain ⟨Inv, hInv⟩ : ∃ Inv : St → Prop, Inv = fun s => s.t 1 = iv day ∧ s.t 2 = .ref 0 0 0 ∧ s.t 4 = .ref 1 0 0 ∧ s.t 5 = .ref 2 0 0 ∧ s.t 10 = numsL (goD d day).2.1 ∧ s.t 11 = iv (if (goD d day).2.2 = true then 3 else 10) ∧ s.H[0]? = some (some (ownO (goD d day).1 d.Queue id d.Items.length)) ∧ s.H[1]? = some (some zDeskO) ∧ s.H[2]? = some (some zBatO) ∧ s.H[id]? = some (some (itemsO (d.Items.map (sentI (goD d day).2.1)))) := ⟨_, rfl⟩
  refine awp_join Inv (by rw [hN]; kernel_rfl) ?_ ?_
  · have rp := bready_pf d.Queue day hf.q
    have iq := imm_que d.Queue
    have irl := imm_pays rl
    rw [← hrl] at rp hg
    simp only [cQn] at rp iq
    have g0 := (List.getElem?_eq_some_iff.1 e0).1
    have gi := (List.getElem?_eq_some_iff.1 ei).1
    simp -dsimp -implicitDefEqProofs [-getElem?_pos, go_sem, hP, t2, t1, e0, g0]
    refine callB_is (rp.lift _ _) hP en_60 (by simpa [imm_sc] using iq) irl ?_
    simp -dsimp -implicitDefEqProofs [-getElem?_pos, go_sem, hP]
    refine aloop_own 10 3 1 (by simp -dsimp -implicitDefEqProofs [-getElem?_pos, go_sem]) ?_
    obtain ⟨I, hI⟩ : ∃ I : Nat → St → Prop, I = fun m s => ∃ (k wid : Nat) (a : TAccount) (ws : List Int) (full : Bool), k ≤ rl.length ∧ m = rl.length - k ∧ goD d day = sendGo day (rl.drop k) a ws full ∧ checkA a = 0 ∧ ws.length ≤ 10 ∧ (∀ w, w ∈ ws → w ∈ (rl.take k).map (·.Warrant)) ∧ 3 ≤ wid ∧ wid ≠ id ∧ s.t 1 = iv day ∧ s.t 2 = .ref 0 0 0 ∧ s.t 4 = .ref 1 0 0 ∧ s.t 5 = .ref 2 0 0 ∧ s.t 10 = .sref wid 0 ws.length ∧ s.t 11 = iv (if full = true then 3 else 10) ∧ s.t 64 = paysL rl ∧ s.t 65 = iv rl.length ∧ s.t 66 = iv k ∧ s.H[0]? = some (some (ownO a d.Queue id d.Items.length)) ∧ s.H[1]? = some (some zDeskO) ∧ s.H[2]? = some (some zBatO) ∧ s.H[id]? = some (some (itemsO (d.Items.map (sentI ws)))) ∧ s.H[wid]? = some (some ⟨3, 1, encL encI ws⟩) := ⟨_, rfl⟩
    refine aloop0 I (rl.length) (by rw [hN]; rfl) ?_ ?_
    · rw [hI]
      refine ⟨0, H3.length, d.Account, [], false, by omega, by omega, by rw [hg]; rfl, hd.a, by simp, by simp, by omega, by omega, by simp -dsimp -implicitDefEqProofs [-getElem?_pos, go_sem, t1], by simp -dsimp -implicitDefEqProofs [-getElem?_pos, go_sem, t2], by simp -dsimp -implicitDefEqProofs [-getElem?_pos, go_sem, t4], by simp -dsimp -implicitDefEqProofs [-getElem?_pos, go_sem, t5], by simp -dsimp -implicitDefEqProofs [-getElem?_pos, go_sem], by simp -dsimp -implicitDefEqProofs [-getElem?_pos, go_sem], by simp -dsimp -implicitDefEqProofs [-getElem?_pos, go_sem], by simp -dsimp -implicitDefEqProofs [-getElem?_pos, go_sem], by simp -dsimp -implicitDefEqProofs [-getElem?_pos, go_sem], ?_, ?_, ?_, ?_, ?_⟩
      · simp -dsimp -implicitDefEqProofs [-getElem?_pos, go_sem, g0, e0]
      · have := (List.getElem?_eq_some_iff.1 e1).1
        simp -dsimp -implicitDefEqProofs [-getElem?_pos, go_sem, this, e1]
      · have := (List.getElem?_eq_some_iff.1 e2).1
        simp -dsimp -implicitDefEqProofs [-getElem?_pos, go_sem, this, e2]
      · rw [sentI_nil]
        simp -dsimp -implicitDefEqProofs [-getElem?_pos, go_sem, gi, ei]
      · simp -dsimp -implicitDefEqProofs [-getElem?_pos, go_sem, encL]
    clear e0 e1 e2 ei g0 gi t1 t2 t4 t5 hg
    intro m s hs'
    rw [hI] at hs'
    obtain ⟨k, wid, a, ws, full, hk, hm, hgo, hca, hw10, hws, hwid, hwi, t1, t2, t4, t5, t10, t11, t64, t65, t66, h0, h1, h2, hi, hH⟩ := hs'
    have g0 := (List.getElem?_eq_some_iff.1 h0).1
    have g1 := (List.getElem?_eq_some_iff.1 h1).1
    have g2 := (List.getElem?_eq_some_iff.1 h2).1
    have gi := (List.getElem?_eq_some_iff.1 hi).1
    have gw := (List.getElem?_eq_some_iff.1 hH).1
    have fin : goD d day = (a, ws, full) → ∀ s' : St, s'.t 1 = iv day → s'.t 2 = .ref 0 0 0 → s'.t 4 = .ref 1 0 0 → s'.t 5 = .ref 2 0 0 → s'.t 10 = .sref wid 0 ws.length → s'.t 11 = iv (if full = true then 3 else 10) → s'.H[0]? = some (some (ownO a d.Queue id d.Items.length)) → s'.H[1]? = some (some zDeskO) → s'.H[2]? = some (some zBatO) → s'.H[id]? = some (some (itemsO (d.Items.map (sentI ws)))) → s'.H[wid]? = some (some ⟨3, 1, encL encI ws⟩) → AInv E Inv s' := fun e s' a1 a2 a3 a4 a5 a6 a7 a8 a9 a10 a11 => by
      have lw : ((encL encI ws).drop 0).take ws.length = encL encI ws := by rw [List.drop_zero, List.take_of_length_le (by rw [encL_len]; exact Nat.le_refl _)]
      refine ⟨_, weaker_frz hW 10 a5 a11 (by dsimp only; rw [lw]; exact imm_nums ws), ?_⟩
      rw [hInv, e]
      dsimp only
      rw [lw]
      refine ⟨by simp -dsimp -implicitDefEqProofs [-getElem?_pos, go_sem, a1], by simp -dsimp -implicitDefEqProofs [-getElem?_pos, go_sem, a2], by simp -dsimp -implicitDefEqProofs [-getElem?_pos, go_sem, a3], by simp -dsimp -implicitDefEqProofs [-getElem?_pos, go_sem, a4], by simp -dsimp -implicitDefEqProofs [-getElem?_pos, go_sem], by simp -dsimp -implicitDefEqProofs [-getElem?_pos, go_sem, a6], ?_, ?_, ?_, ?_⟩
      · rw [List.getElem?_set_ne (by omega), a7]
      · rw [List.getElem?_set_ne (by omega), a8]
      · rw [List.getElem?_set_ne (by omega), a9]
      · rw [List.getElem?_set_ne hwi, a10]
    simp -dsimp -implicitDefEqProofs [-getElem?_pos, go_sem, hP, t65, t66]
    refine condP (fun hh => ?_) (fun hh => ?_)
    rotate_left
    · have hk : k = rl.length := by simp at hh; omega
      subst hk
      rw [List.drop_length, sendGo] at hgo
      simp -dsimp -implicitDefEqProofs [-getElem?_pos, go_sem, hP]
      exact fin hgo _ (by simp -dsimp -implicitDefEqProofs [-getElem?_pos, go_sem, t1]) (by simp -dsimp -implicitDefEqProofs [-getElem?_pos, go_sem, t2]) (by simp -dsimp -implicitDefEqProofs [-getElem?_pos, go_sem, t4]) (by simp -dsimp -implicitDefEqProofs [-getElem?_pos, go_sem, t5]) (by simp -dsimp -implicitDefEqProofs [-getElem?_pos, go_sem, t10]) (by simp -dsimp -implicitDefEqProofs [-getElem?_pos, go_sem, t11]) (by simp -dsimp -implicitDefEqProofs [-getElem?_pos, go_sem, h0]) (by simp -dsimp -implicitDefEqProofs [-getElem?_pos, go_sem, h1]) (by simp -dsimp -implicitDefEqProofs [-getElem?_pos, go_sem, h2]) (by simp -dsimp -implicitDefEqProofs [-getElem?_pos, go_sem, hi]) (by simp -dsimp -implicitDefEqProofs [-getElem?_pos, go_sem, hH])
    have hk : k < rl.length := by simpa using hh
    obtain ⟨p, hp⟩ : ∃ p, rl[k]? = some p := ⟨_, List.getElem?_eq_getElem hk⟩
    have wk := wrap_in ((k : Int) + 1) (by omega)
    rw [drop_at hp, sendGo] at hgo
    by_cases c5 : ws.length = 10
    · have d5 : decide ((ws.length : Int) = 10) = true := decide_eq_true (by omega)
      rw [if_pos c5] at hgo
      simp -dsimp -implicitDefEqProofs [-getElem?_pos, go_sem, hP, t64, t66, hp, cPy, t10, hH, gw, d5, c5]
      exact fin hgo _ (by simp -dsimp -implicitDefEqProofs [-getElem?_pos, go_sem, t1]) (by simp -dsimp -implicitDefEqProofs [-getElem?_pos, go_sem, t2]) (by simp -dsimp -implicitDefEqProofs [-getElem?_pos, go_sem, t4]) (by simp -dsimp -implicitDefEqProofs [-getElem?_pos, go_sem, t5]) (by simp -dsimp -implicitDefEqProofs [-getElem?_pos, go_sem, t10]) (by simp -dsimp -implicitDefEqProofs [-getElem?_pos, go_sem, t11]) (by simp -dsimp -implicitDefEqProofs [-getElem?_pos, go_sem, h0, g0]) (by simp -dsimp -implicitDefEqProofs [-getElem?_pos, go_sem, h1, g1]) (by simp -dsimp -implicitDefEqProofs [-getElem?_pos, go_sem, h2, g2]) (by simp -dsimp -implicitDefEqProofs [-getElem?_pos, go_sem, hi, gi]) (by simp -dsimp -implicitDefEqProofs [-getElem?_pos, go_sem, hH, gw])
    have d5 : decide ((ws.length : Int) = 10) = false := decide_eq_false (by omega)
    rw [if_neg c5] at hgo
    simp -dsimp -implicitDefEqProofs [-getElem?_pos, go_sem, hP, t64, t66, hp, cPy, t10, hH, gw, d5, c5]
    obtain ⟨pb, hpb⟩ : ∃ pb, pb = s.H.length := ⟨_, rfl⟩
    obtain ⟨H1, hH1⟩ : ∃ H1, H1 = s.H ++ [some (⟨44, 5, [[iv p.Warrant, iv p.Payee, iv p.Amount, iv p.Due, iv p.Sub]]⟩ : AObj)] := ⟨_, rfl⟩
    have l1 : H1.length = pb + 1 := by rw [hH1, hpb]; simp
    have k0 : H1[0]? = some (some (ownO a d.Queue id d.Items.length)) := by rw [hH1, List.getElem?_append_left g0]; exact h0
    have k1 : H1[1]? = some (some zDeskO) := by rw [hH1, List.getElem?_append_left g1]; exact h1
    have k2 : H1[2]? = some (some zBatO) := by rw [hH1, List.getElem?_append_left g2]; exact h2
    have ki : H1[id]? = some (some (itemsO (d.Items.map (sentI ws)))) := by rw [hH1, List.getElem?_append_left gi]; exact hi
    have kw : H1[wid]? = some (some ⟨3, 1, encL encI ws⟩) := by rw [hH1, List.getElem?_append_left gw]; exact hH
    have kp : H1[pb]? = some (some ⟨44, 5, [[iv p.Warrant, iv p.Payee, iv p.Amount, iv p.Due, iv p.Sub]]⟩) := by rw [hH1, hpb, List.getElem?_append_right (Nat.le_refl _), Nat.sub_self]; rfl
    simp only [← hH1, ← hpb]
    have q0 : 0 < H1.length := by omega
    have q1 : 1 < H1.length := by omega
    have q2 : 2 < H1.length := by omega
    have qi : id < H1.length := by omega
    have qw : wid < H1.length := by omega
    have qp : pb < H1.length := by omega
    have sl := check_fit hca
    have iac := imm_acc a
    have nx := next_pf a day p.Sub 0 p.Amount p.Warrant sl.2
    obtain ⟨e, hee⟩ : ∃ e, e = nextE a day p.Sub 0 p.Amount p.Warrant := ⟨_, rfl⟩
    rw [← hee] at nx hgo
    have ie := imm_ent e
    have po := post_pf a e sl.1 sl.2
    have io := imm_acc (postA a e).1
    simp only [cA] at iac nx po io
    refine adrawQ (fun i => decide (i = 0) || decide (i = pb)) [17] [11, 12] hP (by kernel_rfl) (by kernel_rfl) ?_
    simp -dsimp -implicitDefEqProofs [-getElem?_pos, go_sem, hP, t2, t1, k0, q0, kp, qp]
    refine callQ_is (nx.lift _ _) hP en_62 (by simpa [imm_sc] using iac) ie ?_
    simp -dsimp -implicitDefEqProofs [-getElem?_pos, go_sem, hP, t2, t1, k0, q0, kp, qp]
    refine callQ_is (po.lift _ _) hP en_61 (by simpa using ⟨iac, ie⟩) (imm_pair io .sc) ?_
    simp -dsimp -implicitDefEqProofs [-getElem?_pos, go_sem, hP, t2, t1, k0, q0, kp, qp]
    refine ⟨fun i hi => ?_, ?_⟩
    · simp only [Bool.or_eq_true, decide_eq_true_eq] at hi
      rw [List.getElem?_append_left (by omega)]
    obtain ⟨b, hb⟩ : ∃ b, b = (postA a e).1 := ⟨_, rfl⟩
    obtain ⟨H2', hH2⟩ : ∃ H2', H2' = H1 ++ [some (⟨28, 3, [[iv b.Credit, subsL b.Subs, entsL b.Entries]]⟩ : AObj)] := ⟨_, rfl⟩
    have l2 : H2'.length = pb + 2 := by rw [hH2]; simp; omega
    have j0 : H2'[0]? = some (some (ownO a d.Queue id d.Items.length)) := by rw [hH2, List.getElem?_append_left q0]; exact k0
    have j1 : H2'[1]? = some (some zDeskO) := by rw [hH2, List.getElem?_append_left q1]; exact k1
    have j2 : H2'[2]? = some (some zBatO) := by rw [hH2, List.getElem?_append_left q2]; exact k2
    have ji : H2'[id]? = some (some (itemsO (d.Items.map (sentI ws)))) := by rw [hH2, List.getElem?_append_left qi]; exact ki
    have jw : H2'[wid]? = some (some ⟨3, 1, encL encI ws⟩) := by rw [hH2, List.getElem?_append_left qw]; exact kw
    have jp : H2'[pb]? = some (some ⟨44, 5, [[iv p.Warrant, iv p.Payee, iv p.Amount, iv p.Due, iv p.Sub]]⟩) := by rw [hH2, List.getElem?_append_left qp]; exact kp
    have ja : H2'[pb + 1]? = some (some ⟨28, 3, [[iv b.Credit, subsL b.Subs, entsL b.Entries]]⟩) := by rw [hH2, ← l1, List.getElem?_append_right (Nat.le_refl _), Nat.sub_self]; rfl
    rw [← hb] at hgo
    rw [← hb, ← hH2, l1]
    have z0 : 0 < H2'.length := by omega
    have z1 : 1 < H2'.length := by omega
    have z2 : 2 < H2'.length := by omega
    have zi : id < H2'.length := by omega
    have zw : wid < H2'.length := by omega
    have zp : pb < H2'.length := by omega
    have za : pb + 1 < H2'.length := by omega
    by_cases c6 : (postA a e).2 = 0
    rotate_left
    · rw [if_neg c6] at hgo
      have d6 := decide_eq_false c6
      have hws' : ∀ w, w ∈ ws → w ∈ (rl.take (k + 1)).map (·.Warrant) := fun w hw => by
        rw [take_at hp, List.map_append, List.mem_append]
        exact .inl (hws w hw)
      by_cases c7 : (postA a e).2 = 3
      · rw [decide_eq_true c7, Bool.or_true] at hgo
        simp -dsimp -implicitDefEqProofs [-getElem?_pos, go_sem, hP, c7, t66, wk]
        refine ⟨rl.length - (k + 1), by omega, ?_⟩
        rw [hI]
        exact ⟨k + 1, wid, a, ws, true, by omega, rfl, hgo, hca, hw10, hws', hwid, hwi, by simp -dsimp -implicitDefEqProofs [-getElem?_pos, go_sem, t1], by simp -dsimp -implicitDefEqProofs [-getElem?_pos, go_sem, t2], by simp -dsimp -implicitDefEqProofs [-getElem?_pos, go_sem, t4], by simp -dsimp -implicitDefEqProofs [-getElem?_pos, go_sem, t5], by simp -dsimp -implicitDefEqProofs [-getElem?_pos, go_sem, t10], by simp -dsimp -implicitDefEqProofs [-getElem?_pos, go_sem], by simp -dsimp -implicitDefEqProofs [-getElem?_pos, go_sem, t64], by simp -dsimp -implicitDefEqProofs [-getElem?_pos, go_sem, t65], by simp -dsimp -implicitDefEqProofs [-getElem?_pos, go_sem], by simp -dsimp -implicitDefEqProofs [-getElem?_pos, go_sem, j0], by simp -dsimp -implicitDefEqProofs [-getElem?_pos, go_sem, j1], by simp -dsimp -implicitDefEqProofs [-getElem?_pos, go_sem, j2], by simp -dsimp -implicitDefEqProofs [-getElem?_pos, go_sem, ji], by simp -dsimp -implicitDefEqProofs [-getElem?_pos, go_sem, jw]⟩
      · have d7 := decide_eq_false c7
        rw [d7, Bool.or_false] at hgo
        simp -dsimp -implicitDefEqProofs [-getElem?_pos, go_sem, hP, d6, d7, t66, wk]
        refine ⟨rl.length - (k + 1), by omega, ?_⟩
        rw [hI]
        exact ⟨k + 1, wid, a, ws, full, by omega, rfl, hgo, hca, hw10, hws', hwid, hwi, by simp -dsimp -implicitDefEqProofs [-getElem?_pos, go_sem, t1], by simp -dsimp -implicitDefEqProofs [-getElem?_pos, go_sem, t2], by simp -dsimp -implicitDefEqProofs [-getElem?_pos, go_sem, t4], by simp -dsimp -implicitDefEqProofs [-getElem?_pos, go_sem, t5], by simp -dsimp -implicitDefEqProofs [-getElem?_pos, go_sem, t10], by simp -dsimp -implicitDefEqProofs [-getElem?_pos, go_sem, t11], by simp -dsimp -implicitDefEqProofs [-getElem?_pos, go_sem, t64], by simp -dsimp -implicitDefEqProofs [-getElem?_pos, go_sem, t65], by simp -dsimp -implicitDefEqProofs [-getElem?_pos, go_sem], by simp -dsimp -implicitDefEqProofs [-getElem?_pos, go_sem, j0], by simp -dsimp -implicitDefEqProofs [-getElem?_pos, go_sem, j1], by simp -dsimp -implicitDefEqProofs [-getElem?_pos, go_sem, j2], by simp -dsimp -implicitDefEqProofs [-getElem?_pos, go_sem, ji], by simp -dsimp -implicitDefEqProofs [-getElem?_pos, go_sem, jw]⟩
    rw [if_pos c6] at hgo
    obtain ⟨i, x, hx, hxp, hxs⟩ := wait_item hd (hmem p (List.mem_of_getElem? hp))
    have hxw : x.Payment.Warrant = p.Warrant := by rw [hxp]
    have hnw : p.Warrant ∉ ws := fun hw => by
      have h1 := hws _ hw
      have h2 : rl.map (·.Warrant) = (rl.take k).map (·.Warrant) ++ (rl.drop k).map (·.Warrant) := by rw [← List.map_append, List.take_append_drop]
      rw [h2] at hnd
      refine (List.nodup_append.1 hnd).2.2 _ h1 p.Warrant ?_ rfl
      rw [drop_at hp]
      simp
    obtain ⟨hxL, hset⟩ := sentI_set hd.nd hx (ws := ws) (by rw [hxw]; exact hnw)
    have hxa := (item_facts hd (List.mem_of_getElem? hx)).2.2.2.1
    have wa := wrap_in (x.Attempts + 1) (by omega)
    obtain ⟨L, hL⟩ : ∃ L, L = d.Items.map (sentI ws) := ⟨_, rfl⟩
    have lL : L.length = d.Items.length := by rw [hL, List.length_map]
    have hLw : L.map wrt = d.Items.map wrt := by rw [hL, sentI_wrt]
    rw [← hL] at ji hxL hset
    rw [hxw] at hset
    have pl := place_pf ⟨a, d.Queue, L⟩ p.Warrant (by simp only; omega)
    simp only [cDn] at pl
    have cw : CW H2' [iv a.Credit, subsL a.Subs, entsL a.Entries, paysL d.Queue.Waiting, numsL d.Queue.Known, batsL d.Queue.Batches, .sref id 0 d.Items.length] [iv a.Credit, subsL a.Subs, entsL a.Entries, paysL d.Queue.Waiting, numsL d.Queue.Known, batsL d.Queue.Batches, itemsL L] := cw_sc (cw_imm (imm_subs _) (cw_imm (imm_ents _) (cw_imm (imm_pays _) (cw_imm (imm_nums _) (cw_imm (imm_bats _) (cw_sref ji (by rw [encL_len, lL]) (imm_items _) .nil))))))
    simp -dsimp -implicitDefEqProofs [-getElem?_pos, go_sem, hP, c6, t2, j0, z0, jp, zp]
    refine callB_flat (pl.lift _ _) hP en_56 (args_agg cw (args_imm .sc (args_nil.2 trivial))) (by obtain ⟨r, h, _⟩ := placeQ_ex L p.Warrant; exact ⟨r, h⟩) (fun r h => h.flat) ?_
    rintro r ⟨i', hi', rfl, hcut⟩
    obtain ⟨k', hk1, hk2⟩ := place_cut (l := L) (by rw [hLw]; exact hd.ks) p.Warrant
    have := hcut k' hk1
    subst this
    have hii : i' = i := by
      have m1 : p.Warrant ∈ L.map wrt := by
        rw [← hxw]
        exact List.mem_map.2 ⟨x, List.mem_of_getElem? hxL, rfl⟩
      have m2 := hk2.2 m1
      have m3 : (L.map wrt)[i']? = some p.Warrant := by rw [List.getElem?_map]; exact m2
      have m4 : (L.map wrt)[i]? = some p.Warrant := by rw [List.getElem?_map, hxL, ← hxw]; rfl
      exact (List.getElem?_inj (List.getElem?_eq_some_iff.1 m3).1 (by rw [hLw]; exact hd.nd)).1 (m3.trans m4.symm)
    subst hii
    generalize decide ((L[i']?).map wrt = some p.Warrant) = bb
    simp -dsimp -implicitDefEqProofs [-getElem?_pos, go_sem, hP]
    have lws : (encL encI ws).length = ws.length := encL_len _ _
    refine adrawB (fun i => decide (i = 0) || decide (i = pb) || decide (i = pb + 1)) [7] hP (by kernel_rfl) (by kernel_rfl) ?_
    have wpb : wid < pb := by rw [hpb]; exact gw
    have nw0 : ¬ wid = 0 := by omega
    simp -dsimp -implicitDefEqProofs [-getElem?_pos, go_sem, hP, t2, t10, j0, z0, jp, zp, ja, za, jw, zw, lws, nw0]
    refine ⟨by omega, by omega, fun j hj => ?_, ?_⟩
    · simp only [Bool.or_eq_true, decide_eq_true_eq] at hj
      rw [List.getElem?_append_left (by rw [List.length_set]; omega), List.getElem?_set_ne (by omega)]
    have en : encL encI ws ++ [[AV.sc (.int .i64 p.Warrant)]] = encL encI (ws ++ [p.Warrant]) := encL_snoc encI ws p.Warrant
    rw [en]
    obtain ⟨H4, hH4⟩ : ∃ H4, H4 = (List.set H2' wid none).set 0 (some (ownO b d.Queue id d.Items.length)) ++ [some (⟨3, 1, encL encI (ws ++ [p.Warrant])⟩ : AObj)] := ⟨_, rfl⟩
    have l4 : H4.length = pb + 3 := by rw [hH4]; simp; omega
    have old : ∀ j, j ≠ wid → j ≠ 0 → j < H2'.length → H4[j]? = H2'[j]? := fun j h1 h3 h2 => by
      rw [hH4, List.getElem?_append_left (by rw [List.length_set, List.length_set]; exact h2), List.getElem?_set_ne (Ne.symm h3), List.getElem?_set_ne (Ne.symm h1)]
    have u0 : H4[0]? = some (some (ownO b d.Queue id d.Items.length)) := by rw [hH4, List.getElem?_append_left (by rw [List.length_set, List.length_set]; exact z0), List.getElem?_set_self (by rw [List.length_set]; exact z0)]
    have u1 := (old 1 (by omega) (by omega) z1).trans j1
    have u2 := (old 2 (by omega) (by omega) z2).trans j2
    have ui := (old id (Ne.symm hwi) (by omega) zi).trans ji
    have uw : H4[pb + 2]? = some (some ⟨3, 1, encL encI (ws ++ [p.Warrant])⟩) := by rw [hH4, ← l2, List.getElem?_append_right (by simp), List.length_set, List.length_set, Nat.sub_self]; rfl
    rw [← hH4]
    have v0 : 0 < H4.length := by omega
    have v1 : 1 < H4.length := by omega
    have v2 : 2 < H4.length := by omega
    have vi : id < H4.length := by omega
    have vw : pb + 2 < H4.length := by omega
    have n0i : ¬ id = 0 := by omega
    have hil : i' < d.Items.length := (List.getElem?_eq_some_iff.1 hx).1
    have hilL : i' < L.length := by omega
    have e2 : (encL TItem.cells L).set i' (TItem.cells ⟨x.Payment, 2, x.Attempts⟩) = encL TItem.cells (L.set i' ⟨x.Payment, 2, x.Attempts⟩) := encL_set TItem.cells L i' ⟨x.Payment, 2, x.Attempts⟩
    rw [cIt] at e2
    have e3 : (encL TItem.cells (L.set i' ⟨x.Payment, 2, x.Attempts⟩)).set i' (TItem.cells ⟨x.Payment, 2, x.Attempts + 1⟩) = encL TItem.cells (d.Items.map (sentI (ws ++ [p.Warrant]))) := by rw [encL_set, List.set_set, hset]
    rw [cIt] at e3
    have hx2 : (L.set i' ⟨x.Payment, 2, x.Attempts⟩)[i']? = some ⟨x.Payment, 2, x.Attempts⟩ := List.getElem?_set_self hilL
    simp only at e2 e3
    have hil2 : i' < (L.set i' ⟨x.Payment, 2, x.Attempts⟩).length := by rw [List.length_set]; exact hilL
    generalize L.set i' ⟨x.Payment, 2, x.Attempts⟩ = L2 at e2 e3 hx2 hil2
    have n10 : ¬ id = 1 := by omega
    have n20 : ¬ id = 2 := by omega
    have nwi : ¬ id = pb + 2 := by omega
    simp -dsimp -implicitDefEqProofs [-getElem?_pos, go_sem, hP, t2, u0, v0, ui, vi, hil, hilL, hxL, cIt, n0i, e2, hx2, hil2, wa, e3, t66, wk]
    refine ⟨rl.length - (k + 1), by omega, ?_⟩
    rw [hI]
    refine ⟨k + 1, pb + 2, b, ws ++ [p.Warrant], full, by omega, rfl, hgo, hb ▸ post_check c6, by rw [List.length_append, List.length_singleton]; omega, ?_, by omega, Ne.symm nwi, by simp -dsimp -implicitDefEqProofs [-getElem?_pos, go_sem, t1], by simp -dsimp -implicitDefEqProofs [-getElem?_pos, go_sem, t2], by simp -dsimp -implicitDefEqProofs [-getElem?_pos, go_sem, t4], by simp -dsimp -implicitDefEqProofs [-getElem?_pos, go_sem, t5], ?_, by simp -dsimp -implicitDefEqProofs [-getElem?_pos, go_sem, t11], by simp -dsimp -implicitDefEqProofs [-getElem?_pos, go_sem, t64], by simp -dsimp -implicitDefEqProofs [-getElem?_pos, go_sem, t65], by simp -dsimp -implicitDefEqProofs [-getElem?_pos, go_sem], ?_, ?_, ?_, ?_, ?_⟩
    · intro w hw
      rw [take_at hp, List.map_append, List.mem_append]
      rcases List.mem_append.1 hw with hw | hw
      · exact .inl (hws w hw)
      · rw [List.mem_singleton] at hw
        exact .inr (by simp [hw])
    · simp -dsimp -implicitDefEqProofs [-getElem?_pos, go_sem, l2]
    · simp -dsimp -implicitDefEqProofs [-getElem?_pos, go_sem, n0i, u0, v0]
    · simp -dsimp -implicitDefEqProofs [-getElem?_pos, go_sem, n10, u1, v1]
    · simp -dsimp -implicitDefEqProofs [-getElem?_pos, go_sem, n20, u2, v2]
    · simp -dsimp -implicitDefEqProofs [-getElem?_pos, go_sem, ui, vi]
    · simp -dsimp -implicitDefEqProofs [-getElem?_pos, go_sem, nwi, uw, vw]
  intro s hs'
  rw [hInv] at hs'
  obtain ⟨t1, t2, t4, t5, t10, t11, h0, h1, h2, hi⟩ := hs'
  clear hInv Inv e0 e1 e2 ei
  obtain ⟨G, hG⟩ : ∃ G, G = goD d day := ⟨_, rfl⟩
  rw [← hG] at t10 t11 h0 hi
  have g0 := (List.getElem?_eq_some_iff.1 h0).1
  have g1 := (List.getElem?_eq_some_iff.1 h1).1
  have g2 := (List.getElem?_eq_some_iff.1 h2).1
  have gi := (List.getElem?_eq_some_iff.1 hi).1
  have n10 : ¬ 1 = id := by omega
  have n20 : ¬ 2 = id := by omega
  have c3' : ¬ (day < lastQ d.Queue ∨ day < lastDay d.Account) := by omega
  have hsd : sendD d day = if G.2.1.length = 0 then (zeroD, zeroB, if G.2.2 = true then 3 else 10) else if (takeQ d.Queue day G.2.1).2.2 = 0 then (⟨G.1, (takeQ d.Queue day G.2.1).1, d.Items.map (sentI G.2.1)⟩, (takeQ d.Queue day G.2.1).2.1, 0) else (zeroD, zeroB, (takeQ d.Queue day G.2.1).2.2) := by
    rw [sendD, if_pos c1, if_pos c2, if_neg c3', ← hG]
  refine awp_sound _ _ _ (by rw [hN]; kernel_rfl) ?_
  by_cases c4 : G.2.1.length = 0
  · rw [if_pos c4] at hsd
    have d4 : decide ((G.2.1.length : Int) = 0) = true := decide_eq_true (by omega)
    cases hfull : G.2.2
    · rw [hfull] at t11 hsd
      simp -dsimp -implicitDefEqProofs [-getElem?_pos, go_sem, hP, t10, d4, c4, t4, t5, h1, g1, h2, g2, t11]
      exact done_zeroD3 (zer _ hsd)
    · rw [hfull] at t11 hsd
      simp -dsimp -implicitDefEqProofs [-getElem?_pos, go_sem, hP, t10, d4, c4, t4, t5, h1, g1, h2, g2, t11]
      exact done_zeroD3 (zer _ hsd)
  rw [if_neg c4] at hsd
  have d4 : decide ((G.2.1.length : Int) = 0) = false := decide_eq_false (by omega)
  have lG : G.2.1.length ≤ 100000 := by
    have := sendGo_len day (readyQ d.Queue day) d.Account [] false (by simp)
    rw [hG, goD]
    omega
  have tk := btake_pf d.Queue day G.2.1 hf.q lG
  have iq := imm_que d.Queue
  have iqq := imm_que (takeQ d.Queue day G.2.1).1
  have ibb := imm_bat (takeQ d.Queue day G.2.1).2.1
  have iws := imm_nums G.2.1
  have e1 : intsL G.2.1 = numsL G.2.1 := rfl
  simp only [cQn, cBt, e1] at tk iq iqq ibb
  simp -dsimp -implicitDefEqProofs [-getElem?_pos, go_sem, hP, t10, d4, c4, t1, t2, h0, g0]
  refine callB_is (tk.lift _ _) hP en_63 (by simp [imm_sc]; exact ⟨by simpa using iq, iws⟩) (imm_trip iqq ibb .sc) ?_
  by_cases c5 : (takeQ d.Queue day G.2.1).2.2 = 0
  rotate_left
  · rw [if_neg c5] at hsd
    have d5 := decide_eq_false c5
    simp -dsimp -implicitDefEqProofs [-getElem?_pos, go_sem, hP, d5, t4, t5, h1, g1, h2, g2]
    exact done_zeroD3 (zer _ hsd)
  rw [if_pos c5] at hsd
  obtain ⟨q', hq'⟩ : ∃ q', q' = (takeQ d.Queue day G.2.1).1 := ⟨_, rfl⟩
  obtain ⟨bt, hbt⟩ : ∃ bt, bt = (takeQ d.Queue day G.2.1).2.1 := ⟨_, rfl⟩
  simp only [← hq', ← hbt] at hsd iqq ibb
  simp -dsimp -implicitDefEqProofs [-getElem?_pos, go_sem, hP, c5, t2, h0, g0, ← hq', ← hbt]
  obtain ⟨H5, hH5⟩ : ∃ H5, H5 = List.set s.H 0 (some (ownO G.1 q' id d.Items.length)) ++ [some ⟨32, 3, [[paysL q'.Waiting, numsL q'.Known, batsL q'.Batches]]⟩, some (⟨55, 3, [[iv bt.Number, iv bt.Day, paysL bt.Payments]]⟩ : AObj)] := ⟨_, rfl⟩
  obtain ⟨n, hn⟩ : ∃ n, n = s.H.length := ⟨_, rfl⟩
  have l5 : H5.length = n + 2 := by rw [hH5, hn]; simp
  have old : ∀ j, j ≠ 0 → j < s.H.length → H5[j]? = s.H[j]? := fun j h1 h2 => by
    rw [hH5, List.getElem?_append_left (by rw [List.length_set]; exact h2), List.getElem?_set_ne (Ne.symm h1)]
  have u0 : H5[0]? = some (some (ownO G.1 q' id d.Items.length)) := by rw [hH5, List.getElem?_append_left (by rw [List.length_set]; exact g0), List.getElem?_set_self g0]
  have u1 := (old 1 (by omega) g1).trans h1
  have u2 := (old 2 (by omega) g2).trans h2
  have ui := (old id (by omega) gi).trans hi
  have ub : H5[n + 1]? = some (some ⟨55, 3, [[iv bt.Number, iv bt.Day, paysL bt.Payments]]⟩) := by rw [hH5, hn, List.getElem?_append_right (by simp), List.length_set, Nat.add_sub_cancel_left]; rfl
  rw [← hn] at gi g2
  rw [← hH5, ← hn]
  have v0 : 0 < H5.length := by omega
  have v1 : 1 < H5.length := by omega
  have v2 : 2 < H5.length := by omega
  have vb : n + 1 < H5.length := by omega
  have n12 : ¬ 1 = 2 := by omega
  refine adrawB (fun i => decide (i = 0) || decide (i = n + 1)) [] hP (by kernel_rfl) (by kernel_rfl) ?_
  simp -dsimp -implicitDefEqProofs [-getElem?_pos, go_sem, hP, t2, t4, t5, u0, v0, u1, v1, u2, v2, ub, vb, n12]
  refine ⟨fun j hj => ?_, fun j hj => ?_, ?_⟩
  · simp only [Bool.or_eq_true, decide_eq_true_eq] at hj
    rw [List.getElem?_set_ne (by omega)]
  · simp only [Bool.or_eq_true, decide_eq_true_eq] at hj
    rw [List.getElem?_set_ne (by omega)]
  refine done_trip (cs' := TDesk.cells ⟨G.1, q', d.Items.map (sentI G.2.1)⟩) (ds' := TBatch.cells bt) ?_ (cw_immL (imm_agg.1 ibb)) ?_
  · refine cw_sc (cw_imm (imm_subs _) (cw_imm (imm_ents _) (cw_imm (imm_pays _) (cw_imm (imm_nums _) (cw_imm (imm_bats _) (cw_sref (ty := 46) ?_ ?_ (imm_items _) .nil))))))
    · rw [List.getElem?_set_ne (Ne.symm (Ne.symm n20)), List.getElem?_set_ne n10]
      exact ui
    · rw [encL_len, List.length_map]
  · rw [hR, hsd]
open Go.PA
open Go.RowKit
open Go.PA
open Go.RowKit
theorem waitB_char {q : TQueue} (hq : QOk q) {x : TItem} : waitB q x = true ↔ (x.State = 1 ∧ x.Payment ∈ q.Waiting) ∨ (x.State ≠ 1 ∧ ∀ p, p ∈ q.Waiting → p.Warrant ≠ x.Payment.Warrant) := by
  unfold waitB
  cases hw : waitO q x.Payment.Warrant with
  | none =>
    have h := waitO_none.1 hw
    simp only [Bool.not_eq_true', decide_eq_false_iff_not]
    constructor
    · intro e
      exact .inr ⟨e, h⟩
    · rintro (⟨_, hm⟩ | ⟨e, _⟩)
      · exact absurd rfl (h _ hm)
      · exact e
  | some w =>
    obtain ⟨h1, h2⟩ := waitO_some hw
    simp only [Bool.and_eq_true, decide_eq_true_eq]
    constructor
    · rintro ⟨e, he⟩
      exact .inl ⟨e, he ▸ h1⟩
    · rintro (⟨e, hm⟩ | ⟨_, hn⟩)
      · exact ⟨e, uniqW hq.asc.nd h1 hm h2⟩
      · exact absurd h2 (hn _ h1)
theorem bal_iff {a : TAccount} {id : Int} : (balanceA a id).2 = true ↔ checkA a = 0 ∧ id ∈ ids a.Subs := by
  unfold balanceA
  split
  · rename_i h
    constructor
    · intro e
      refine ⟨h, ?_⟩
      cases hf : a.Subs.find? (fun s => decide (s.ID = id)) with
      | none => rw [hf] at e; cases e
      | some s => exact List.mem_map.2 ⟨s, List.mem_of_find?_eq_some hf, by simpa using List.find?_some hf⟩
    · rintro ⟨_, hm⟩
      obtain ⟨s, hs, e⟩ := List.mem_map.1 hm
      cases hf : a.Subs.find? (fun s => decide (s.ID = id)) with
      | none =>
        have := List.find?_eq_none.1 hf s hs
        simp [e] at this
      | some s => rfl
  · rename_i h
    exact ⟨fun e => (by cases e), fun e => absurd e.1 h⟩
structure IOk (d : TDesk) (x : TItem) : Prop where
  pay : PayOk x.Payment
  sub : checkA d.Account = 0 ∧ x.Payment.Sub ∈ ids d.Account.Subs
  st : 1 ≤ x.State ∧ x.State ≤ 5
  att : 0 ≤ x.Attempts ∧ x.Attempts ≤ 5
  a5 : ¬ (x.Attempts = 5 ∧ x.State = 1)
  a0 : ¬ (x.Attempts = 0 ∧ x.State ≠ 1 ∧ x.State ≠ 5)
  w : (x.State = 1 ∧ x.Payment ∈ d.Queue.Waiting) ∨ (x.State ≠ 1 ∧ ∀ p, p ∈ d.Queue.Waiting → p.Warrant ≠ x.Payment.Warrant)
  bat : (batN d.Queue x.Payment.Warrant : Int) = x.Attempts
  all : ∀ e, e ∈ d.Account.Entries → e.Ref = x.Payment.Warrant → e.Amount = x.Payment.Amount ∧ (e.From = x.Payment.Sub ∧ e.To = 0 ∨ e.From = 0 ∧ e.To = x.Payment.Sub)
  outs : (d.Account.Entries.countP (outE x.Payment) : Int) = x.Attempts
  ins : (d.Account.Entries.countP (inE x.Payment) : Int) + goneN x = x.Attempts
theorem okE_iff {p : TPayment} {e : TEntry} : okE p e = true ↔ (e.Ref = p.Warrant → e.Amount = p.Amount ∧ (e.From = p.Sub ∧ e.To = 0 ∨ e.From = 0 ∧ e.To = p.Sub)) := by
  unfold okE
  by_cases h : e.Ref = p.Warrant
  · simp [h]
  · simp [h]
theorem attB_iff {x : TItem} : attB x = true ↔ (0 ≤ x.Attempts ∧ x.Attempts ≤ 5) ∧ ¬ (x.Attempts = 5 ∧ x.State = 1) ∧ ¬ (x.Attempts = 0 ∧ x.State ≠ 1 ∧ x.State ≠ 5) := by
  unfold attB
  rw [Bool.and_eq_true, Bool.and_eq_true, amg_iff, Bool.not_eq_true', Bool.not_eq_true', Bool.and_eq_false_iff, Bool.and_eq_false_iff, Bool.not_eq_false', Bool.or_eq_true, decide_eq_false_iff_not, decide_eq_false_iff_not, decide_eq_false_iff_not, decide_eq_true_eq, decide_eq_true_eq]
  omega
theorem itemB_iff {d : TDesk} (hq : QOk d.Queue) {x : TItem} : itemB d x = true ↔ IOk d x := by
  simp only [itemB, movedB, Bool.and_eq_true, payB_iff, bal_iff, amg_iff, attB_iff, waitB_char hq, decide_eq_true_eq, List.all_eq_true, okE_iff]
  constructor
  · rintro ⟨h1, h2, h3, ⟨h4, h5, h6⟩, h7, h8, h9, h10, h11⟩
    exact ⟨h1, h2, h3, h4, h5, h6, h7, h8, h9, h10, h11⟩
  · rintro ⟨h1, h2, h3, h4, h5, h6, h7, h8, h9, h10, h11⟩
    exact ⟨h1, h2, h3, ⟨h4, h5, h6⟩, h7, h8, h9, h10, h11⟩
theorem DOk.io {d : TDesk} (h : DOk d) {x : TItem} (hx : x ∈ d.Items) : IOk d x := (itemB_iff h.q).1 (h.i x hx)
theorem DOk.mk' {d : TDesk} (a : checkA d.Account = 0) (q : QOk d.Queue) (k : d.Items.map wrt = d.Queue.Known) (i : ∀ x, x ∈ d.Items → IOk d x) : DOk d := ⟨a, q, k, fun x hx => (itemB_iff q).2 (i x hx)⟩
theorem openD_ok {a : TAccount} (h : (openD a).2 = 0) : openD a = (⟨a, zeroQ, []⟩, 0) ∧ checkA a = 0 ∧ (∀ e, e ∈ a.Entries → e.Ref = 0) ∧ DOk ⟨a, zeroQ, []⟩ := by
  unfold openD at h ⊢
  by_cases c1 : checkA a = 0
  rotate_left
  · rw [if_neg c1] at h
    exact absurd h c1
  rw [if_pos c1] at h ⊢
  by_cases c2 : (a.Entries.any fun e => !refB 0 e) = true
  · rw [if_pos c2] at h
    simp at h
  rw [if_neg c2]
  refine ⟨rfl, c1, fun e he => ?_, DOk.mk' c1 zeroQ_ok rfl (by simp)⟩
  have := List.any_eq_false.1 (Bool.eq_false_iff.2 c2) e he
  simpa [refB] using this
theorem takeWhile_map {α β : Type} (f : α → β) (p : β → Bool) : ∀ l : List α, (l.map f).takeWhile p = (l.takeWhile fun x => p (f x)).map f
  | [] => rfl
  | a :: l => by
    rw [List.map_cons, List.takeWhile_cons, List.takeWhile_cons, takeWhile_map f p l]
    cases p (f a) <;> rfl
theorem dropWhile_map {α β : Type} (f : α → β) (p : β → Bool) : ∀ l : List α, (l.map f).dropWhile p = (l.dropWhile fun x => p (f x)).map f
  | [] => rfl
  | a :: l => by
    rw [List.map_cons, List.dropWhile_cons, List.dropWhile_cons, dropWhile_map f p l]
    cases p (f a) <;> rfl
theorem ins_wrt (l : List TItem) (y : TItem) : (ins ltI l y).map wrt = ins ltB (l.map wrt) (wrt y) := by
  unfold ins
  rw [List.map_append, List.map_cons, takeWhile_map, dropWhile_map]
  rfl
theorem batN_zero {q : TQueue} (h : QOk q) {w : Int} (hw : w ∉ q.Known) : batN q w = 0 := by
  unfold batN
  have : ∀ b, b ∈ q.Batches → b.Payments.countP (hasW w) = 0 := fun b hb => by
    rw [List.countP_eq_zero]
    intro p hp e
    have e : p.Warrant = w := by simpa [hasW] using e
    exact hw (e ▸ (batsFrom_len h.bats b hb).2.2.1.kn p hp)
  rw [List.map_congr_left (g := fun _ => 0) this]
  induction q.Batches with
  | nil => rfl
  | cons a l ih => rw [List.map_cons, List.sum_cons, ih]
theorem orderD_ok {d x : TDesk} {p : TPayment} (h : orderD d p = (x, 0)) : DOk d ∧ PayOk p ∧ p.Warrant ∉ d.Queue.Known ∧ x = ⟨d.Account, ⟨ins befB d.Queue.Waiting p, ins ltB d.Queue.Known p.Warrant, d.Queue.Batches⟩, ins ltI d.Items ⟨p, 1, 0⟩⟩ ∧ DOk x := by
  unfold orderD at h
  by_cases c1 : checkD d = 0
  rotate_left
  · rw [if_neg c1] at h
    exact absurd (congrArg Prod.snd h) c1
  rw [if_pos c1] at h
  by_cases c2 : (addQ d.Queue p).2 = 0
  rotate_left
  · rw [if_neg c2] at h
    exact absurd (congrArg Prod.snd h) c2
  rw [if_pos c2] at h
  by_cases c3 : (balanceA d.Account p.Sub).2 = true
  rotate_left
  · rw [if_neg c3] at h
    simp at h
  rw [if_pos c3] at h
  by_cases c4 : d.Account.Entries.any (refB p.Warrant) = true
  · rw [if_pos c4] at h
    simp at h
  rw [if_neg c4] at h
  have hd := checkD_iff.1 c1
  obtain ⟨a1, a2, a3, a4, a5, a6, a7⟩ := addQ_ok (x := (addQ d.Queue p).1) (q := d.Queue) (p := p) (by rw [← c2])
  have hx := (congrArg Prod.fst h).symm
  simp only at hx
  rw [a6] at hx a7
  have hne : ∀ e, e ∈ d.Account.Entries → e.Ref ≠ p.Warrant := fun e he => by
    have := List.any_eq_false.1 (Bool.eq_false_iff.2 c4) e he
    simpa [refB] using this
  refine ⟨hd, a2, a3, hx, ?_⟩
  rw [hx]
  refine DOk.mk' hd.a a7 ?_ fun y hy => ?_
  · rw [ins_wrt, hd.k]
    rfl
  rcases mem_ins.1 hy with rfl | hy
  · refine ⟨a2, bal_iff.1 c3, by simp, by simp, by simp, by simp, .inl ⟨rfl, mem_ins.2 (.inl rfl)⟩, ?_, fun e he er => absurd er (hne e he), ?_, ?_⟩
    · exact (show ((batN d.Queue p.Warrant : Nat) : Int) = 0 by rw [batN_zero hd.q a3]; rfl)
    · rw [List.countP_eq_zero.2 fun e he => by simp [outE, hne e he]]; rfl
    · rw [List.countP_eq_zero.2 fun e he => by simp [inE, hne e he]]; rfl
  · have io := hd.io hy
    have hyk : y.Payment.Warrant ∈ d.Queue.Known := by rw [← hd.k]; exact List.mem_map.2 ⟨y, hy, rfl⟩
    have hyp : p.Warrant ≠ y.Payment.Warrant := fun e => a3 (e ▸ hyk)
    refine ⟨io.pay, io.sub, io.st, io.att, io.a5, io.a0, ?_, io.bat, io.all, io.outs, io.ins⟩
    rcases io.w with ⟨h1, h2⟩ | ⟨h1, h2⟩
    · exact .inl ⟨h1, mem_ins.2 (.inr h2)⟩
    · refine .inr ⟨h1, fun z hz => ?_⟩
      rcases mem_ins.1 hz with rfl | hz
      · exact hyp
      · exact h2 z hz
theorem set_wrt {l : List TItem} {k : Nat} {x y : TItem} (hx : l[k]? = some x) (e : y.Payment.Warrant = x.Payment.Warrant) : (l.set k y).map wrt = l.map wrt := by
  rw [List.map_set]
  apply List.ext_getElem?
  intro j
  rw [List.getElem?_set, List.length_map]
  by_cases hj : k = j
  · subst hj
    rw [if_pos rfl, if_pos (List.getElem?_eq_some_iff.1 hx).1, List.getElem?_map, hx]
    exact congrArg some e
  · rw [if_neg hj]
theorem mem_set_cases {l : List TItem} (hn : (l.map wrt).Nodup) {k : Nat} {x y z : TItem} (hx : l[k]? = some x) (hz : z ∈ l.set k y) : z = y ∨ (z ∈ l ∧ z.Payment.Warrant ≠ x.Payment.Warrant) := by
  obtain ⟨j, hj⟩ := List.getElem?_of_mem hz
  rw [List.getElem?_set] at hj
  by_cases hk : k = j
  · subst hk
    rw [if_pos rfl, if_pos (List.getElem?_eq_some_iff.1 hx).1] at hj
    exact .inl (Option.some.inj hj).symm
  · rw [if_neg hk] at hj
    refine .inr ⟨List.mem_of_getElem? hj, fun e => hk ?_⟩
    have e1 : (l.map wrt)[k]? = some x.Payment.Warrant := by rw [List.getElem?_map, hx]; rfl
    have e2 : (l.map wrt)[j]? = some x.Payment.Warrant := by rw [List.getElem?_map, hj, ← e]; rfl
    exact (List.getElem?_inj (List.getElem?_eq_some_iff.1 e1).1 hn).1 (e1.trans e2.symm)
theorem changeD_ok {d x : TDesk} {w st : Int} {f : TDesk → TItem → Done1} (h : changeD d w st f = (x, 0)) : DOk d ∧ ∃ (k : Nat) (y : TItem), d.Items[k]? = some y ∧ y.Payment.Warrant = w ∧ y.State = st ∧ (f d y).e = 0 ∧ x = ⟨(f d y).a, (f d y).q, d.Items.set k (f d y).x⟩ := by
  by_cases c1 : checkD d = 0
  rotate_left
  · rw [changeD_bad c1] at h
    exact absurd (congrArg Prod.snd h) c1
  by_cases c2 : w ∈ d.Items.map wrt
  rotate_left
  · rw [changeD_none c1 c2] at h
    simp at h
  obtain ⟨y, hy, e⟩ := List.mem_map.1 c2
  obtain ⟨k, hk⟩ := List.getElem?_of_mem hy
  have e : y.Payment.Warrant = w := e
  subst e
  rw [changeD_at c1 hk] at h
  by_cases c3 : y.State = st
  · rw [if_pos c3] at h
    by_cases c4 : (f d y).e = 0
    · rw [if_pos c4] at h
      exact ⟨checkD_iff.1 c1, k, y, hk, rfl, c3, c4, (congrArg Prod.fst h).symm⟩
    · rw [if_neg c4] at h
      exact absurd (congrArg Prod.snd h) c4
  · rw [if_neg c3] at h
    simp at h
theorem againD_ok {d x : TDesk} {w due : Int} (h : againD d w due = (x, 0)) : DOk d ∧ (∃ (k : Nat) (y : TItem), d.Items[k]? = some y ∧ y.Payment.Warrant = w ∧ y.State = 4 ∧ y.Attempts ≠ 5 ∧ x = ⟨d.Account, ⟨ins befB d.Queue.Waiting (duePay y.Payment due), d.Queue.Known, d.Queue.Batches⟩, d.Items.set k ⟨duePay y.Payment due, 1, y.Attempts⟩⟩) ∧ DOk x := by
  obtain ⟨hd, k, y, h1, h2, h3, h4, h5⟩ := changeD_ok h
  have c5 : y.Attempts ≠ 5 := fun e => by rw [againF, if_pos e] at h4; simp at h4
  rw [againF, if_neg c5] at h4 h5
  simp only at h4 h5
  obtain ⟨q1, q2, q3, q4, q5, q6, q7⟩ := againQ_ok (q := d.Queue) (p := duePay y.Payment due) (x := (againQ d.Queue (duePay y.Payment due)).1) (by rw [← h4])
  rw [q6] at h5 q7
  refine ⟨hd, ⟨k, y, h1, h2, h3, c5, h5⟩, ?_⟩
  rw [h5]
  refine DOk.mk' hd.a q7 ((set_wrt (y := ⟨duePay y.Payment due, 1, y.Attempts⟩) h1 rfl).trans hd.k) fun z hz => ?_
  rcases mem_set_cases hd.nd h1 hz with rfl | ⟨hz, hne⟩
  · have io := hd.io (List.mem_of_getElem? h1)
    refine ⟨q2, io.sub, by simp, io.att, fun e => c5 e.1, by simp, .inl ⟨rfl, mem_ins.2 (.inl rfl)⟩, io.bat, io.all, io.outs, ?_⟩
    show ((d.Account.Entries.countP (inE y.Payment) : Nat) : Int) + goneN ⟨duePay y.Payment due, 1, y.Attempts⟩ = y.Attempts
    have := io.ins
    simpa [goneN, goneB, h3] using this
  · have io := hd.io hz
    refine ⟨io.pay, io.sub, io.st, io.att, io.a5, io.a0, ?_, io.bat, io.all, io.outs, io.ins⟩
    rcases io.w with ⟨e1, e2⟩ | ⟨e1, e2⟩
    · exact .inl ⟨e1, mem_ins.2 (.inr e2)⟩
    · refine .inr ⟨e1, fun p hp => ?_⟩
      rcases mem_ins.1 hp with rfl | hp
      · exact fun e => hne e.symm
      · exact e2 p hp
theorem returnD_ok {d x : TDesk} {w day : Int} (h : returnD d w day = (x, 0)) : DOk d ∧ (∃ (k : Nat) (y : TItem), d.Items[k]? = some y ∧ y.Payment.Warrant = w ∧ y.State = 2 ∧ (postA d.Account (nextE d.Account day 0 y.Payment.Sub y.Payment.Amount w)).2 = 0 ∧ x = ⟨(postA d.Account (nextE d.Account day 0 y.Payment.Sub y.Payment.Amount w)).1, d.Queue, d.Items.set k ⟨y.Payment, 4, y.Attempts⟩⟩) ∧ DOk x := by
  obtain ⟨hd, k, y, h1, h2, h3, h4, h5⟩ := changeD_ok h
  have h4 : (postA d.Account (nextE d.Account day 0 y.Payment.Sub y.Payment.Amount w)).2 = 0 := h4
  have h5 : x = ⟨(postA d.Account (nextE d.Account day 0 y.Payment.Sub y.Payment.Amount w)).1, d.Queue, d.Items.set k ⟨y.Payment, 4, y.Attempts⟩⟩ := h5
  refine ⟨hd, ⟨k, y, h1, h2, h3, h4, h5⟩, ?_⟩
  rw [h5]
  have p1 := post_check h4
  have p2 := post_ids h4
  have p3 := post_ents h4
  have io0 := hd.io (List.mem_of_getElem? h1)
  refine DOk.mk' p1 hd.q ((set_wrt (y := ⟨y.Payment, 4, y.Attempts⟩) h1 rfl).trans hd.k) fun z hz => ?_
  rcases mem_set_cases hd.nd h1 hz with rfl | ⟨hz, hne⟩
  · refine ⟨io0.pay, ⟨p1, by rw [p2]; exact io0.sub.2⟩, by simp, io0.att, by simp, fun e => io0.a0 ⟨e.1, by omega, by omega⟩, .inr ⟨by simp, ?_⟩, io0.bat, fun e he er => ?_, ?_, ?_⟩
    · rcases io0.w with ⟨e, _⟩ | ⟨_, e⟩
      · omega
      · exact e
    · rw [p3] at he
      rcases List.mem_append.1 he with he | he
      · exact io0.all e he er
      · rw [List.mem_singleton] at he
        rw [he]
        exact ⟨rfl, .inr ⟨rfl, rfl⟩⟩
    · rw [p3, List.countP_append]
      have hs := io0.pay.sub.1
      have : outE y.Payment (nextE d.Account day 0 y.Payment.Sub y.Payment.Amount w) = false := by
        show (decide (w = y.Payment.Warrant) && (decide ((0 : Int) = y.Payment.Sub) && decide (y.Payment.Sub = 0))) = false
        rw [decide_eq_false (p := (0 : Int) = y.Payment.Sub) (by omega), Bool.false_and, Bool.and_false]
      simp only [List.countP_cons, List.countP_nil, this]
      simpa using io0.outs
    · rw [p3, List.countP_append]
      have : inE y.Payment (nextE d.Account day 0 y.Payment.Sub y.Payment.Amount w) = true := by simp [inE, nextE, h2]
      simp only [List.countP_cons, List.countP_nil, this]
      have hi := io0.ins
      simp [goneN, goneB, h3] at hi
      simp [goneN, goneB]
      omega
  · have io := hd.io hz
    refine ⟨io.pay, ⟨p1, by rw [p2]; exact io.sub.2⟩, io.st, io.att, io.a5, io.a0, io.w, io.bat, fun e he er => ?_, ?_, ?_⟩
    · rw [p3] at he
      rcases List.mem_append.1 he with he | he
      · exact io.all e he er
      · rw [List.mem_singleton] at he
        rw [he] at er
        exact absurd (er.symm.trans h2.symm) hne
    · rw [p3, List.countP_append]
      have : outE z.Payment (nextE d.Account day 0 y.Payment.Sub y.Payment.Amount w) = false := by
        show (decide (w = z.Payment.Warrant) && _) = false
        rw [decide_eq_false (p := w = z.Payment.Warrant) (fun e => hne (e.symm.trans h2.symm)), Bool.false_and]
      simp only [List.countP_cons, List.countP_nil, this]
      simpa using io.outs
    · rw [p3, List.countP_append]
      have : inE z.Payment (nextE d.Account day 0 y.Payment.Sub y.Payment.Amount w) = false := by
        show (decide (w = z.Payment.Warrant) && _) = false
        rw [decide_eq_false (p := w = z.Payment.Warrant) (fun e => hne (e.symm.trans h2.symm)), Bool.false_and]
      simp only [List.countP_cons, List.countP_nil, this]
      simpa using io.ins
open Go.PA
open Go.RowKit
def keyE (e : TEntry) : Int × Int × Int × Int := (e.Ref, e.From, e.To, e.Amount)
def keyP (p : TPayment) : Int × Int × Int × Int := (p.Warrant, p.Sub, 0, p.Amount)
structure Sent (day : Int) (a : TAccount) (ps : List TPayment) (b : TAccount) : Prop where
  ok : checkA b = 0
  ents : ∃ es, b.Entries = a.Entries ++ es ∧ es.map keyE = ps.map keyP ∧ ∀ e, e ∈ es → e.Day = day
  ids : ids b.Subs = ids a.Subs
  cred : b.Credit = a.Credit
theorem Sent.refl {day : Int} {a : TAccount} (h : checkA a = 0) : Sent day a [] a := ⟨h, ⟨[], by simp, rfl, by simp⟩, rfl, rfl⟩
theorem Sent.snoc {day : Int} {a b : TAccount} {ps : List TPayment} {p : TPayment} (h : Sent day a ps b) (hp : (postA b (nextE b day p.Sub 0 p.Amount p.Warrant)).2 = 0) : Sent day a (ps ++ [p]) (postA b (nextE b day p.Sub 0 p.Amount p.Warrant)).1 := by
  obtain ⟨h1, ⟨es, h2, h3, h4⟩, h5, h6⟩ := h
  refine ⟨post_check hp, ⟨es ++ [nextE b day p.Sub 0 p.Amount p.Warrant], ?_, ?_, ?_⟩, (post_ids hp).trans h5, (post_credit hp).trans h6⟩
  · rw [post_ents hp, h2, List.append_assoc]
  · rw [List.map_append, List.map_append, h3]; rfl
  · intro e he
    rcases List.mem_append.1 he with he | he
    · exact h4 e he
    · rw [List.mem_singleton] at he
      rw [he]
      rfl
theorem sendGo_run (day : Int) (a0 : TAccount) : ∀ (l : List TPayment) (a : TAccount) (ps : List TPayment) (full : Bool), Sent day a0 ps a → ∃ qs, qs.Sublist l ∧ (sendGo day l a (ps.map (·.Warrant)) full).2.1 = (ps ++ qs).map (·.Warrant) ∧ Sent day a0 (ps ++ qs) (sendGo day l a (ps.map (·.Warrant)) full).1
  | [], a, ps, full, h => ⟨[], by simp, by simp [sendGo], by simpa [sendGo] using h⟩
  | p :: l, a, ps, full, h => by
    rw [sendGo]
    split
    · exact ⟨[], by simp, by simp, by simpa using h⟩
    · split
      · rename_i hp
        have e : ps.map (·.Warrant) ++ [p.Warrant] = (ps ++ [p]).map (·.Warrant) := by simp
        rw [e]
        obtain ⟨qs, h1, h2, h3⟩ := sendGo_run day a0 l _ (ps ++ [p]) full (h.snoc hp)
        exact ⟨p :: qs, h1.cons_cons p, by rw [h2]; simp, by rw [show ps ++ p :: qs = ps ++ [p] ++ qs by simp]; exact h3⟩
      · obtain ⟨qs, h1, h2, h3⟩ := sendGo_run day a0 l a ps _ h
        exact ⟨qs, h1.cons p, h2, h3⟩
theorem goD_run {d : TDesk} (hd : DOk d) (day : Int) : ∃ ps, ps.Sublist (readyQ d.Queue day) ∧ (goD d day).2.1 = ps.map (·.Warrant) ∧ Sent day d.Account ps (goD d day).1 := by
  obtain ⟨qs, h1, h2, h3⟩ := sendGo_run day d.Account (readyQ d.Queue day) d.Account [] false (Sent.refl hd.a)
  exact ⟨qs, h1, h2, h3⟩
theorem countW {l : List TPayment} (hn : (l.map (·.Warrant)).Nodup) (w : Int) : l.countP (hasW w) = if w ∈ l.map (·.Warrant) then 1 else 0 := by
  induction l with
  | nil => rfl
  | cons p l ih =>
    rw [List.map_cons, List.nodup_cons] at hn
    rw [List.countP_cons, ih hn.2]
    by_cases h : p.Warrant = w
    · subst h
      rw [if_neg hn.1, if_pos (by simp [hasW]), if_pos (by simp)]
    · have e : hasW w p = false := by simp [hasW, h]
      have e2 : w ∈ (p :: l).map (·.Warrant) ↔ w ∈ l.map (·.Warrant) := by
        rw [List.map_cons, List.mem_cons]
        exact ⟨fun o => o.resolve_left fun e => h e.symm, .inr⟩
      by_cases hm : w ∈ l.map (·.Warrant)
      · rw [if_pos hm, if_pos (e2.2 hm), e]; rfl
      · rw [if_neg hm, if_neg (mt e2.1 hm), e]; rfl
theorem countW_one {l : List TPayment} (hn : (l.map (·.Warrant)).Nodup) {w : Int} (h : w ∈ l.map (·.Warrant)) : l.countP (hasW w) = 1 := by rw [countW hn, if_pos h]
def outK (p : TPayment) (k : Int × Int × Int × Int) : Bool := decide (k.1 = p.Warrant) && (decide (k.2.1 = p.Sub) && decide (k.2.2.1 = 0))
def inK' (p : TPayment) (k : Int × Int × Int × Int) : Bool := decide (k.1 = p.Warrant) && (decide (k.2.1 = 0) && decide (k.2.2.1 = p.Sub))
theorem outK_iff {p y : TPayment} : outK p (keyP y) = true ↔ y.Warrant = p.Warrant ∧ y.Sub = p.Sub := by
  unfold outK keyP
  rw [Bool.and_eq_true, Bool.and_eq_true]
  exact ⟨fun ⟨a, b, _⟩ => ⟨of_decide_eq_true a, of_decide_eq_true b⟩, fun ⟨a, b⟩ => ⟨decide_eq_true a, decide_eq_true b, rfl⟩⟩
theorem inK_iff {p y : TPayment} : inK' p (keyP y) = true ↔ y.Warrant = p.Warrant ∧ y.Sub = 0 ∧ 0 = p.Sub := by
  unfold inK' keyP
  rw [Bool.and_eq_true, Bool.and_eq_true]
  exact ⟨fun ⟨a, b, c⟩ => ⟨of_decide_eq_true a, of_decide_eq_true b, of_decide_eq_true c⟩, fun ⟨a, b, c⟩ => ⟨decide_eq_true a, decide_eq_true b, decide_eq_true c⟩⟩
theorem count_key {es : List TEntry} {ps : List TPayment} (h : es.map keyE = ps.map keyP) (p : TPayment) : es.countP (outE p) = ps.countP (fun y => outK p (keyP y)) ∧ es.countP (inE p) = ps.countP (fun y => inK' p (keyP y)) := by
  have e1 : es.countP (outE p) = (es.map keyE).countP (outK p) := by rw [List.countP_map]; rfl
  have e2 : es.countP (inE p) = (es.map keyE).countP (inK' p) := by rw [List.countP_map]; rfl
  rw [e1, e2, h, List.countP_map, List.countP_map]
  exact ⟨rfl, rfl⟩
theorem mem_key {es : List TEntry} {ps : List TPayment} (h : es.map keyE = ps.map keyP) {e : TEntry} (he : e ∈ es) : ∃ p, p ∈ ps ∧ e.Ref = p.Warrant ∧ e.From = p.Sub ∧ e.To = 0 ∧ e.Amount = p.Amount := by
  have : keyE e ∈ ps.map keyP := h ▸ List.mem_map.2 ⟨e, he, rfl⟩
  obtain ⟨p, hp, k⟩ := List.mem_map.1 this
  simp only [keyE, keyP, Prod.mk.injEq] at k
  exact ⟨p, hp, k.1.symm, k.2.1.symm, k.2.2.1.symm, k.2.2.2.symm⟩
theorem sent_desk {d : TDesk} (hd : DOk d) {day : Int} {ps : List TPayment} {a : TAccount} (hsub : ps.Sublist d.Queue.Waiting) (hs : Sent day d.Account ps a) {b : TBatch} (hb : b.Payments = d.Queue.Waiting.filter (takenB (ps.map (·.Warrant))))
    (hq : QOk ⟨d.Queue.Waiting.filter (fun p => !takenB (ps.map (·.Warrant)) p), d.Queue.Known, d.Queue.Batches ++ [b]⟩) : DOk ⟨a, ⟨d.Queue.Waiting.filter (fun p => !takenB (ps.map (·.Warrant)) p), d.Queue.Known, d.Queue.Batches ++ [b]⟩, d.Items.map (sentI (ps.map (·.Warrant)))⟩ := by
  obtain ⟨es, e1, e2, e3⟩ := hs.ents
  have hnW := hd.q.asc.nd
  have hn : (ps.map (·.Warrant)).Nodup := hnW.sublist (hsub.map _)
  refine DOk.mk' hs.ok hq ((sentI_wrt _ _).trans hd.k) fun z hz => ?_
  obtain ⟨x, hx, rfl⟩ := List.mem_map.1 hz
  have io := hd.io hx
  have hbat : batN ⟨d.Queue.Waiting.filter (fun p => !takenB (ps.map (·.Warrant)) p), d.Queue.Known, d.Queue.Batches ++ [b]⟩ x.Payment.Warrant = batN d.Queue x.Payment.Warrant + if x.Payment.Warrant ∈ b.Payments.map (·.Warrant) then 1 else 0 := by
    have : (b.Payments.map (·.Warrant)).Nodup := by rw [hb]; exact hnW.sublist (List.filter_sublist.map _)
    rw [batN, List.map_append, List.sum_append]
    simp only [List.map_cons, List.map_nil, List.sum_cons, List.sum_nil, Nat.add_zero]
    rw [countW this, batN]
  have hmem : x.Payment.Warrant ∈ b.Payments.map (·.Warrant) ↔ x.Payment.Warrant ∈ ps.map (·.Warrant) := by
    rw [hb]
    constructor
    · intro h
      obtain ⟨p, hp, e⟩ := List.mem_map.1 h
      have := (List.mem_filter.1 hp).2
      rw [← e]
      simpa [takenB] using this
    · intro h
      obtain ⟨p, hp, e⟩ := List.mem_map.1 h
      exact List.mem_map.2 ⟨p, List.mem_filter.2 ⟨hsub.subset hp, by simp only [takenB, decide_eq_true_eq]; exact List.mem_map.2 ⟨p, hp, rfl⟩⟩, e⟩
  obtain ⟨co, ci⟩ := count_key e2 x.Payment
  have ci0 : es.countP (inE x.Payment) = 0 := by
    rw [ci, List.countP_eq_zero]
    intro p hp e
    have h1 := (hd.q.asc.pay p (hsub.subset hp)).sub.1
    have := (inK_iff.1 e).2.1
    omega
  have hsubs : checkA a = 0 ∧ (sentI (ps.map (·.Warrant)) x).Payment.Sub ∈ ids a.Subs := by rw [sentI_pay, hs.ids]; exact ⟨hs.ok, io.sub.2⟩
  by_cases hw : x.Payment.Warrant ∈ ps.map (·.Warrant)
  · obtain ⟨p, hp, e⟩ := List.mem_map.1 hw
    have hpW := hsub.subset hp
    have hst : x.State = 1 ∧ x.Payment ∈ d.Queue.Waiting := by
      rcases io.w with h | ⟨_, h⟩
      · exact h
      · exact absurd e (h p hpW)
    have hpx : p = x.Payment := uniqW hnW hpW hst.2 e
    have co1 : es.countP (outE x.Payment) = 1 := by
      rw [co, ← countW_one hn hw]
      refine List.countP_congr fun y hy => ?_
      rw [outK_iff, hasW, decide_eq_true_eq]
      refine ⟨fun h => h.1, fun h => ⟨h, ?_⟩⟩
      rw [uniqW hnW (hsub.subset hy) hst.2 h]
    have hsx : sentI (ps.map (·.Warrant)) x = ⟨x.Payment, 2, x.Attempts + 1⟩ := by rw [sentI, if_pos hw]
    have h5 := io.a5
    have h0 := io.att
    rw [hsx] at hsubs ⊢
    refine ⟨io.pay, hsubs, by simp, by dsimp only; omega, by simp, by dsimp only; omega, .inr ⟨by simp, fun p' hp' e' => ?_⟩, ?_, fun e' he' er => ?_, ?_, ?_⟩
    · have := (List.mem_filter.1 hp').2
      rw [takenB, e', decide_eq_true hw] at this
      cases this
    · dsimp only
      rw [hbat, if_pos (hmem.2 hw)]
      have := io.bat
      omega
    · dsimp only at he' er ⊢
      rw [e1] at he'
      rcases List.mem_append.1 he' with he' | he'
      · exact io.all e' he' er
      · obtain ⟨p', hp', k1, k2, k3, k4⟩ := mem_key e2 he'
        have : p' = x.Payment := uniqW hnW (hsub.subset hp') hst.2 (k1.symm.trans er)
        rw [this] at k2 k4
        exact ⟨k4, .inl ⟨k2, k3⟩⟩
    · dsimp only
      rw [e1, List.countP_append, co1]
      have := io.outs
      omega
    · dsimp only
      rw [e1, List.countP_append, ci0]
      have h1 := io.ins
      have g0 : goneN x = 0 := by simp [goneN, goneB, hst.1]
      have g1 : goneN ⟨x.Payment, 2, x.Attempts + 1⟩ = 1 := by simp [goneN, goneB]
      rw [g0] at h1
      rw [g1]
      omega
  · have co0 : es.countP (outE x.Payment) = 0 := by
      rw [co, List.countP_eq_zero]
      intro p hp e
      exact hw (List.mem_map.2 ⟨p, hp, (outK_iff.1 e).1⟩)
    have hsx : sentI (ps.map (·.Warrant)) x = x := by rw [sentI, if_neg hw]
    rw [hsx] at hsubs ⊢
    refine ⟨io.pay, hsubs, io.st, io.att, io.a5, io.a0, ?_, ?_, fun e' he' er => ?_, ?_, ?_⟩
    · rcases io.w with ⟨h1, h2⟩ | ⟨h1, h2⟩
      · refine .inl ⟨h1, List.mem_filter.2 ⟨h2, ?_⟩⟩
        rw [takenB, decide_eq_false hw]
        rfl
      · exact .inr ⟨h1, fun p hp => h2 p (List.mem_filter.1 hp).1⟩
    · dsimp only
      rw [hbat, if_neg (mt hmem.1 hw)]
      exact io.bat
    · dsimp only at he'
      rw [e1] at he'
      rcases List.mem_append.1 he' with he' | he'
      · exact io.all e' he' er
      · obtain ⟨p', hp', k1, k2, k3, k4⟩ := mem_key e2 he'
        exact absurd (List.mem_map.2 ⟨p', hp', k1.symm.trans er⟩) hw
    · dsimp only
      rw [e1, List.countP_append, co0]
      exact io.outs
    · dsimp only
      rw [e1, List.countP_append, ci0]
      exact io.ins
theorem sendD_ok {d x : TDesk} {b : TBatch} {day : Int} (h : sendD d day = (x, b, 0)) : DOk d ∧ busB day = true ∧ lastQ d.Queue ≤ day ∧ lastDay d.Account ≤ day ∧ ∃ ps a, ps.Sublist (readyQ d.Queue day) ∧ 1 ≤ ps.length ∧ ps.length ≤ 10 ∧ (goD d day).2.1 = ps.map (·.Warrant) ∧ (goD d day).1 = a ∧ Sent day d.Account ps a ∧ b = takeB d.Queue day (ps.map (·.Warrant)) ∧
    x = ⟨a, ⟨d.Queue.Waiting.filter (fun p => !takenB (ps.map (·.Warrant)) p), d.Queue.Known, d.Queue.Batches ++ [b]⟩, d.Items.map (sentI (ps.map (·.Warrant)))⟩ ∧ DOk x := by
  unfold sendD at h
  by_cases c1 : checkD d = 0
  rotate_left
  · rw [if_neg c1] at h
    exact absurd (congrArg (fun r => r.2.2) h) c1
  rw [if_pos c1] at h
  by_cases c2 : busB day = true
  rotate_left
  · rw [if_neg c2] at h
    simp at h
  rw [if_pos c2] at h
  by_cases c3 : day < lastQ d.Queue ∨ day < lastDay d.Account
  · rw [if_pos c3] at h
    simp at h
  rw [if_neg c3] at h
  by_cases c4 : (goD d day).2.1.length = 0
  · rw [if_pos c4] at h
    have := congrArg (fun r => r.2.2) h
    simp only at this
    split at this <;> cases this
  rw [if_neg c4] at h
  by_cases c5 : (takeQ d.Queue day (goD d day).2.1).2.2 = 0
  rotate_left
  · rw [if_neg c5] at h
    exact absurd (congrArg (fun r => r.2.2) h) c5
  rw [if_pos c5] at h
  have hd := checkD_iff.1 c1
  obtain ⟨ps, h1, h2, h3⟩ := goD_run hd day
  obtain ⟨_, _, _, t4, t5, _, t7, t8, t9⟩ := takeQ_ok (q := d.Queue) (day := day) (ws := (goD d day).2.1) (x := (takeQ d.Queue day (goD d day).2.1).1) (b := (takeQ d.Queue day (goD d day).2.1).2.1) (by rw [← c5])
  have hx := (congrArg Prod.fst h).symm
  have hb := (congrArg (fun r => r.2.1) h).symm
  simp only at hx hb
  rw [t8] at hb
  rw [t7] at hx t9
  rw [h2] at hx hb t4 t5 t9
  rw [List.length_map] at t4 t5
  rw [← hb] at hx t9
  refine ⟨hd, c2, by omega, by omega, ps, _, h1, t4, t5, h2, rfl, h3, hb, hx, ?_⟩
  rw [hx]
  exact sent_desk hd (h1.trans (readyQ_sub _ _)) h3 (by rw [hb]; rfl) t9
open Go.PA
open Go.RowKit
def RQ (lo hi : Int) (x : AV) : Prop := ∃ m : Int, x = iv m ∧ lo ≤ m ∧ m ≤ hi
theorem RQ_ex {lo hi : Int} (h : lo ≤ hi) : ∃ r, RQ lo hi r ∧ Imm r := ⟨_, ⟨lo, rfl, by omega, h⟩, .sc⟩
theorem rangeQ_pf (p : Nat) (src : Option Nat) (lo hi : Int) (h1 : -1000000000000000000 ≤ lo ∧ lo ≤ hi) (h2 : hi ≤ 1000000000000000000) : PFun Tryz.prog (some p) src 26 [sp p, iv lo, iv hi] (RQ lo hi) :=
  (range_pf p src lo hi (by omega) (by omega)).mono fun x h => by
    obtain ⟨m, rfl, h3, _⟩ := h
    exact ⟨m, rfl, h3 h1.2⟩
end Go.Proofs.YtmpncdlhmknkoaaGreat
