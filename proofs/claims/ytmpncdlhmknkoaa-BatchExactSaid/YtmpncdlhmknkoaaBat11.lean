/- Queues: Take. -/
import Derived.Test.YtmpncdlhmknkoaaBat10
set_option linter.unusedSimpArgs false
set_option linter.unusedVariables false
namespace Go.Proofs.Ytmpncdlhmknkoaa
open Go.PA
open Go.RowKit

theorem imm_trip {a b c : AV} (ha : Imm a) (hb : Imm b) (hc : Imm c) : Imm (.tup [a, b, c]) := by
  refine .tup fun x hx => ?_
  simp only [List.mem_cons, List.not_mem_nil, or_false] at hx
  rcases hx with rfl | rfl | rfl <;> assumption
theorem weak_tup3 {a b c a' b' c' : AV} (ha : Weak a a') (hb : Weak b b') (hc : Weak c c') : Weak (.tup [a, b, c]) (.tup [a', b', c']) := by
  refine .tup rfl fun i x y hx hy => ?_
  match i, hx, hy with
  | 0, hx, hy => simp at hx hy; subst hx; subst hy; exact ha
  | 1, hx, hy => simp at hx hy; subst hx; subst hy; exact hb
  | 2, hx, hy => simp at hx hy; subst hx; subst hy; exact hc
  | i + 3, hx, hy => simp at hx
theorem done_trip {H : Heap} {cs cs' ds ds' : List AV} {v : Value} {Q : AV → Prop} {b : Bx Q} (h : CW H cs cs') (h2 : CW H ds ds') (hq : Q (.tup [.agg cs', .agg ds', .sc v])) : Done H (.tup [.agg cs, .agg ds, .sc v]) Q b :=
  done_weak (imm_trip h.imm h2.imm .sc) (imm_trip h.imm' h2.imm' .sc) (weak_tup3 h.weak h2.weak (.refl _)) hq
theorem cw_zeroB {H : Heap} : CW H [iv 0, iv 0, .nil] zeroB.cells := cw_imm .sc (cw_imm .sc (cw_nil .nil))
theorem done_zeroQ3 {H : Heap} {n : Int} {Q : AV → Prop} {b : Bx Q} (h : Q (.tup [.agg zeroQ.cells, .agg zeroB.cells, iv n])) : Done H (.tup [.agg [.nil, .nil, .nil], .agg [iv 0, iv 0, .nil], iv n]) Q b := done_trip cw_zeroQ cw_zeroB h
theorem cw_immL {H : Heap} : ∀ {cs : List AV}, (∀ a, a ∈ cs → Imm a) → CW H cs cs
  | [], _ => .nil
  | a :: cs, h => cw_imm (h a (by simp)) (cw_immL fun x hx => h x (List.mem_cons_of_mem _ hx))

@[go_sem] theorem fsz : szOf Try.prog 60 = 1 := by kernel_rfl
@[go_sem] theorem fkn : knownT Try.prog 60 = true := by kernel_rfl
@[go_sem] theorem fag : aggOf Try.prog 60 = false := by kernel_rfl
@[go_sem] theorem fus : (Try.prog.underlying 60).isSome = true := by kernel_rfl
theorem ready1_m {row src : Option Nat} (p : TPayment) (day : Int) (o : Nat) (ty : TypeId) (H : Heap) (ho : H[o]? = some (some ⟨ty, 1, [[iv day]]⟩)) : MFun Try.prog row src 51 [.agg p.cells, .ref o 0 0] H (fun r H' => r = bv (decide (day < p.Due)) ∧ Kept [] H H') := by
  refine mfun_intro Try.func51 rfl (by simp [Try.f51]) (by kernel_rfl) (⟨_, H, rfl, kept_refl _ _⟩) ?_
  intro E hP hr hs hN
  have lt := (List.getElem?_eq_some_iff.1 ho).1
  simp -dsimp -implicitDefEqProofs [-getElem?_pos, go_sem, hP, cPy, ho, lt]
  exact kept_app _ _ _
theorem take1_m {row src : Option Nat} (p : TPayment) (ws : List Int) (o : Nat) (ty : TypeId) (H : Heap) (hw : ws.length ≤ 1000000) (ho : H[o]? = some (some ⟨ty, 1, [[intsL ws]]⟩)) : MFun Try.prog row src 53 [.agg p.cells, .ref o 0 0] H (fun r H' => r = bv (takenB ws p) ∧ Kept [] H H') := by
  refine mfun_intro Try.func53 rfl (by simp [Try.f53]) (by kernel_rfl) (⟨_, H, rfl, kept_refl _ _⟩) ?_
  intro E hP hr hs hN
  have lt := (List.getElem?_eq_some_iff.1 ho).1
  have iw := imm_ints ws
  simp -dsimp -implicitDefEqProofs [-getElem?_pos, go_sem, hP, cPy, ho, lt]
  refine callB_is ((containsInt_pf ws p.Warrant hw).lift _ _) hP en_54 (by simp [iw, imm_sc]) .sc ?_
  simp -dsimp -implicitDefEqProofs [-getElem?_pos, go_sem, hP, takenB]
  exact kept_app _ _ _
theorem take2_m {row src : Option Nat} (p : TPayment) (ws : List Int) (o o2 : Nat) (ty ty2 : TypeId) (H : Heap) (hw : ws.length ≤ 1000000) (ho : H[o]? = some (some ⟨ty, 1, [[intsL ws]]⟩)) (ho2 : H[o2]? = some (some ⟨ty2, 1, [[.fn 53 [.ref o 0 0]]]⟩)) :
    MFun Try.prog row src 55 [.agg p.cells, .ref o2 0 0] H (fun r H' => r = bv (!takenB ws p) ∧ Kept [] H H') := by
  refine mfun_intro Try.func55 rfl (by simp [Try.f55]) (by kernel_rfl) (⟨_, H, rfl, kept_refl _ _⟩) ?_
  intro E hP hr hs hN
  have lt := (List.getElem?_eq_some_iff.1 ho).1
  have lt2 := (List.getElem?_eq_some_iff.1 ho2).1
  simp -dsimp -implicitDefEqProofs [-getElem?_pos, go_sem, hP, cPy, ho2, lt2]
  generalize hH2 : H ++ _ = H2
  have k2 : Kept [] H H2 := by rw [← hH2]; exact kept_app _ _ _
  have tm := fun {row src : Option Nat} => take1_m (row := row) (src := src) p ws o ty H2 hw (k2 _ _ (by simp) ho)
  rw [cPy] at tm
  refine callB_m (by rw [hr, hs]; exact tm) hP en_53 ?_
  rintro r H3 ⟨rfl, hk3⟩
  simp -dsimp -implicitDefEqProofs [-getElem?_pos, go_sem, hP]
  exact k2.trans hk3

set_option maxHeartbeats 1000000 in
theorem bready_m {row src : Option Nat} (q : TQueue) (day : Int) (H : Heap) (hf : FitQ q) (c1 : checkQ q = 0) : MFun Try.prog row src 17 [.agg q.cells, iv day] H (fun r H' => ∃ id tl, r = .sref id 0 (readyQ q day).length ∧ H.length ≤ id ∧ H'[id]? = some (some ⟨34, 5, encL TPayment.cells (readyQ q day) ++ tl⟩) ∧ Kept [] H H') := by
  obtain ⟨L, hL⟩ : ∃ L, L = readyQ q day := ⟨_, rfl⟩
  have hrd : L = q.Waiting.filter (fun p => decide (p.Due ≤ day)) := by rw [hL, readyQ, if_pos c1]
  rw [← hL]
  obtain ⟨C, hC⟩ : ∃ C : AV → Heap → Prop, C = fun r H' => ∃ id tl, r = .sref id 0 L.length ∧ H.length ≤ id ∧ H'[id]? = some (some ⟨34, 5, encL TPayment.cells L ++ tl⟩) ∧ Kept [] H H' := ⟨_, rfl⟩
  rw [← hC]
  have ex : ∃ r H', C r H' := ⟨.sref H.length 0 L.length, H ++ [some ⟨34, 5, encL TPayment.cells L ++ []⟩], by
    rw [hC]
    exact ⟨H.length, [], rfl, Nat.le_refl _, by simp, kept_app _ _ _⟩⟩
  refine mfun_intro Try.func17 rfl (by simp [Try.f17]) (by kernel_rfl) (ex) ?_
  intro E hP hr hs hN
  have ck := bcheck_pf q hf
  have iq := imm_que q
  have ip := imm_pays q.Waiting
  have i2 := imm_ints q.Known
  have i3 := imm_bats q.Batches
  rw [cQu] at ck iq
  simp only [intsL] at i2 ck iq
  simp -dsimp -implicitDefEqProofs [-getElem?_pos, go_sem, hP, cQu, intsL]
  refine callB_is (ck.lift _ _) hP en_10 (by simpa using iq) .sc ?_
  simp -dsimp -implicitDefEqProofs [-getElem?_pos, go_sem, hP, c1]
  generalize hH2 : H ++ _ = H2
  have l2 : H2.length = H.length + 2 := by rw [← hH2]; simp
  have k2 : Kept [] H H2 := by rw [← hH2]; exact kept_app _ _ _
  have b1 : H2[H.length + 1]? = some (some ⟨3, 1, [[iv day]]⟩) := by rw [← hH2, List.getElem?_append_right (by omega)]; simp
  refine callB_m (by rw [hr, hs]; exact clone_m_pay q.Waiting H2 (by have := hf.w; omega)) hP en_50 ?_
  rintro r H3 ⟨id, rfl, hid, ho, hk⟩
  have e1 := hk _ _ (by simp) b1
  simp -dsimp -implicitDefEqProofs [-getElem?_pos, go_sem, hP]
  refine callB_m (by rw [hr, hs]; exact deleteFuncM_pay q.Waiting [] id H3 51 [.ref (H.length + 1) 0 0] (fun p => decide (day < p.Due)) (by have := hf.w; omega) (by rw [List.append_nil]; exact ho) en_51 (fun p _ H' hk' => ready1_m p day (H.length + 1) _ H' (hk' _ _ (by simp; omega) e1))) hP en_49 ?_
  rintro r H4 ⟨tl, rfl, ho4, hk4⟩
  have ef : (q.Waiting.filter fun a => !decide (day < a.Due)) = L := by
    rw [hrd]
    refine List.filter_congr fun p _ => ?_
    by_cases h : day < p.Due
    · simp [h, show ¬ p.Due ≤ day by omega]
    · simp [h, show p.Due ≤ day by omega]
  rw [ef] at ho4
  simp -dsimp -implicitDefEqProofs [-getElem?_pos, go_sem, hP, ef]
  rw [hC]
  refine ⟨id, tl, rfl, by omega, ho4, fun j o hj hoj => ?_⟩
  have hjl := (List.getElem?_eq_some_iff.1 hoj).1
  exact hk4 j o (by simp; omega) (hk j o (by simp) (k2 j o (by simp) hoj))
end Go.Proofs.Ytmpncdlhmknkoaa
