/- BatchOnce. -/
import Derived.Test.YtmpncdlhmknkoaaBatSane
set_option linter.unusedSimpArgs false
set_option linter.unusedVariables false
namespace Go.Proofs.Ytmpncdlhmknkoaa
open Go.PA
open Go.RowKit

set_option maxHeartbeats 4000000 in
theorem once25_pf (xs : List Int) (hx : Small xs) (hl : xs.length ≤ 9223372036854775807) : PFun Try.prog none none 3 [intsL xs] (· = bv true) := by
  refine pfun_introA Try.func3 rfl (by simp [Try.f3]) ?_
  intro E hP hr hs hW hN
  refine awp_cut (by rw [hN]; kernel_rfl) ?_
  simp [go_sem, hP]
  refine awp_cut (by rw [hN]; kernel_rfl) ?_
  simp [go_sem, hP]
  have hnew : POwn Try.prog E.row E.src 8 [intsL xs] 66 2 (· = [[intsL (xs.take 900), iv 0]]) := by rw [hr, hs]; exact new_pf xs hl
  refine callB_own hnew hP en_8 (args_same (by simp [go_sem, intsL])) (by simp [srefs_imm, go_sem, intsL]) ⟨_, rfl⟩ ?_
  rintro es rfl
  simp [go_sem, hP]
  refine awp_adopt 3 (ty := 66) (xs := xs.take 900) (at_ := 0) hr hs hW (by simp [go_sem]) (by simp [go_sem, intsL]) (by omega) (by simp; omega) (fun x hx' => hx x (List.mem_of_mem_take hx')) (by rw [hN]; kernel_rfl) ?_
  intro E' p hP' hr' hN' hW'
  rw [hP] at hP'
  rw [hN] at hN'
  clear hnew hP hr hs hW hN E
  rename Env => E
  rename E.P = _ => hP
  rename E.row = _ => hr
  rename E.N = _ => hN
  rename (∀ b, ¬ E.W b) => hW
  obtain ⟨src, hs⟩ : ∃ src, E.src = src := ⟨_, rfl⟩
  have up : ∀ {f : FuncId} {args : List AV} {Q : AV → Prop}, PFun Try.prog (some p) src f args Q → PFun Try.prog E.row E.src f args Q := fun h => hr ▸ hs ▸ h

  have saneB : ∀ {H : Heap} {C : AV → Heap → Prop} {b : Bx C}, C (bv true) H → CallB E 14 [] H C b := fun h => callB_pure sane25_pf hP en_14 (args_nil.2 trivial) .sc h
  simp -dsimp -implicitDefEqProofs [-getElem?_pos, go_sem, hP]
  refine aloop_cells (ty := 28) (k := 3) 1 [.nil, .nil, .nil] [paysL [], .list 1 [], batsL []] (by simp -dsimp -implicitDefEqProofs [-getElem?_pos, go_sem]) (by omega) (by simp) rfl (fun j a b ha hb => ?_) ?_
  · match j, ha, hb with
    | 0, ha, hb => simp at ha hb; subst ha; subst hb; exact .nil _
    | 1, ha, hb => simp at ha hb; subst ha; subst hb; exact .nil _
    | 2, ha, hb => simp at ha hb; subst ha; subst hb; exact .nil _
    | j + 3, ha, hb => simp at ha
  obtain ⟨I, hI⟩ : ∃ I : Nat → St → Prop, I = fun m s => ∃ (k : Nat) (q : TQueue) (d : Int), k ≤ 14 ∧ m = 14 - k ∧ QOk q ∧ 0 ≤ d ∧ d ≤ 6 * ((k : Nat) : Int) ∧ s.t 3 = sp p ∧ s.t 4 = .ref 1 0 0 ∧ s.t 5 = iv d ∧ s.t 6 = iv k ∧ s.H[1]? = some (some ⟨28, 3, [[paysL q.Waiting, .list 1 (q.Known.map fun x => [iv x]), batsL q.Batches]]⟩) := ⟨_, rfl⟩
  refine aloop0 I (14) (by rw [hN]; rfl) ?_ ?_
  · rw [hI]
    exact ⟨0, zeroQ, 0, by omega, by omega, zeroQ_ok, by omega, by omega, by simp -dsimp -implicitDefEqProofs [-getElem?_pos, go_sem], by simp -dsimp -implicitDefEqProofs [-getElem?_pos, go_sem], by simp -dsimp -implicitDefEqProofs [-getElem?_pos, go_sem], by simp -dsimp -implicitDefEqProofs [-getElem?_pos, go_sem], by simp -dsimp -implicitDefEqProofs [-getElem?_pos, go_sem]⟩
  intro m s hs'
  rw [hI] at hs'
  obtain ⟨k, q, d, hk, hm, hq, hd0, hd, t3, t4, t5, t6, h1⟩ := hs'
  have lt1 := (List.getElem?_eq_some_iff.1 h1).1
  simp -dsimp -implicitDefEqProofs [-getElem?_pos, go_sem, hP, t6]
  refine condP (fun hh => ?_) (fun hh => ?_)
  rotate_left
  · simp -dsimp -implicitDefEqProofs [-getElem?_pos, go_sem, hP]
    refine saneB ?_
    simp -dsimp -implicitDefEqProofs [-getElem?_pos, go_sem, hP]
  have hk : k < 14 := by
    simp at hh
    omega
  have st := bstep_pf p src q d hq (by omega)
  have iq := imm_que q
  simp only [cQu, intsL] at st iq
  have wk := wrap_in ((k : Int) + 1) (by omega)
  simp -dsimp -implicitDefEqProofs [-getElem?_pos, go_sem, hP, t3, t4, h1, lt1, t5]
  refine callB_isQ (up st) hP en_9 (by simp [imm_sc]; exact iq) (StepQ_ex hq d) ?_
  rintro r ⟨x, e, rfl, hxx⟩ _
  have hxo := hxx.ok
  have hxd := hxx.day
  have hfx := hxo.fit
  have ix := imm_que x
  have ck := bcheck_pf x hfx
  rw [checkQ_iff.2 hxo] at ck
  simp only [cQu, intsL] at ix ck
  obtain ⟨n, hn⟩ : ∃ n, n = s.H.length := ⟨_, rfl⟩
  have lk := hq.lk
  simp -dsimp -implicitDefEqProofs [-getElem?_pos, go_sem, hP, cQu, intsL, ← hn]
  generalize hH1 : s.H ++ _ = H1
  have e1 : H1[1]? = some (some ⟨28, 3, [[paysL q.Waiting, .list 1 (q.Known.map fun x => [iv x]), batsL q.Batches]]⟩) := by rw [← hH1, List.getElem?_append_left lt1, h1]
  have en : H1[n]? = some (some ⟨28, 3, [[paysL x.Waiting, .list 1 (x.Known.map fun x => [iv x]), batsL x.Batches]]⟩) := by rw [← hH1, hn]; simp
  have ltn := (List.getElem?_eq_some_iff.1 en).1
  have n1 : 1 < n := by rw [hn]; exact lt1
  refine callB_is (ck.lift _ _) hP en_10 (by simpa using ix) .sc ?_
  have lt1' := (List.getElem?_eq_some_iff.1 e1).1
  simp -dsimp -implicitDefEqProofs [-getElem?_pos, go_sem, hP, t4, e1, lt1']
  obtain ⟨J, hJ⟩ : ∃ I : Nat → St → Prop, I = fun m s => ∃ j : Nat, j ≤ q.Known.length ∧ m = q.Known.length - j ∧ s.t 3 = sp p ∧ s.t 4 = .ref 1 0 0 ∧ s.t 6 = iv k ∧ s.t 7 = .ref n 0 0 ∧ s.t 8 = iv e ∧ s.t 31 = .list 1 (q.Known.map fun x => [iv x]) ∧ s.t 32 = iv q.Known.length ∧ s.t 33 = iv j ∧ s.H[1]? = some (some ⟨28, 3, [[paysL q.Waiting, .list 1 (q.Known.map fun x => [iv x]), batsL q.Batches]]⟩) ∧ s.H[n]? = some (some ⟨28, 3, [[paysL x.Waiting, .list 1 (x.Known.map fun x => [iv x]), batsL x.Batches]]⟩) := ⟨_, rfl⟩
  refine aloop0 J (q.Known.length) (by rw [hN]; rfl) ?_ ?_
  · rw [hJ]
    exact ⟨0, by omega, by omega, by simp -dsimp -implicitDefEqProofs [-getElem?_pos, go_sem, t3], by simp -dsimp -implicitDefEqProofs [-getElem?_pos, go_sem, t4], by simp -dsimp -implicitDefEqProofs [-getElem?_pos, go_sem, t6], by simp -dsimp -implicitDefEqProofs [-getElem?_pos, go_sem], by simp -dsimp -implicitDefEqProofs [-getElem?_pos, go_sem], by simp -dsimp -implicitDefEqProofs [-getElem?_pos, go_sem], by simp -dsimp -implicitDefEqProofs [-getElem?_pos, go_sem], by simp -dsimp -implicitDefEqProofs [-getElem?_pos, go_sem], by simp -dsimp -implicitDefEqProofs [-getElem?_pos, go_sem, e1], by simp -dsimp -implicitDefEqProofs [-getElem?_pos, go_sem, en]⟩
  clear t3 t4 t5 t6 h1 lt1
  intro m s hs'
  rw [hJ] at hs'
  obtain ⟨j, hj, hm', t3, t4, t6, t7, t8, t31, t32, t33, h1, hnx⟩ := hs'
  have lt1 := (List.getElem?_eq_some_iff.1 h1).1
  have lt2 := (List.getElem?_eq_some_iff.1 hnx).1
  simp -dsimp -implicitDefEqProofs [-getElem?_pos, go_sem, hP, t32, t33]
  refine condP (fun hh => ?_) (fun hh => ?_)
  · have hj : j < q.Known.length := by simpa using hh
    obtain ⟨w, hw⟩ : ∃ w, q.Known[j]? = some w := ⟨_, List.getElem?_eq_getElem hj⟩
    have wj := wrap_in ((j : Int) + 1) (by omega)
    have hwm := List.mem_of_getElem? hw
    have hwx := hxx.kn w hwm
    have hwr := hq.kn w hwm
    simp -dsimp -implicitDefEqProofs [-getElem?_pos, go_sem, hP, t33, t31, hw, t3]
    refine callB_isQ (up (gpay_pf p src)) hP en_11 (by simp [imm_sc]) PayQ_ex ?_
    rintro r ⟨g, rfl, hg⟩ _
    obtain ⟨v, hv⟩ : ∃ v : TPayment, v = ⟨w, g.Payee, g.Amount, g.Due, g.Sub⟩ := ⟨_, rfl⟩
    have pv : PayOk v := by
      have := hg.ok
      rw [hv]
      exact ⟨hwr, this.payee, this.amount, this.due, this.sub⟩
    have ad := badd_pf x v hfx
    rw [addQ_known hxo pv (by rw [hv]; exact hwx), hv] at ad
    have kn := rknown_pf x w (by have := hxo.lk; omega)
    rw [decide_eq_true hwx] at kn
    have ivv := imm_pay ⟨w, g.Payee, g.Amount, g.Due, g.Sub⟩
    have iz := imm_que zeroQ
    simp only [cQu, cPy, intsL] at ad kn ivv iz
    obtain ⟨n', hn'⟩ : ∃ n, n = s.H.length := ⟨_, rfl⟩
    have nn : ¬ n = n' := by omega
    simp -dsimp -implicitDefEqProofs [-getElem?_pos, go_sem, hP, cPy, ← hn', t7]
    generalize hH2 : s.H ++ _ = H2
    have f1 : H2[1]? = some (some ⟨28, 3, [[paysL q.Waiting, .list 1 (q.Known.map fun x => [iv x]), batsL q.Batches]]⟩) := by rw [← hH2, List.getElem?_append_left lt1, h1]
    have fn : H2[n]? = some (some ⟨28, 3, [[paysL x.Waiting, .list 1 (x.Known.map fun x => [iv x]), batsL x.Batches]]⟩) := by rw [← hH2, List.getElem?_append_left lt2, hnx]
    have fp : H2[n']? = some (some ⟨34, 5, [[iv w, iv g.Payee, iv g.Amount, iv g.Due, iv g.Sub]]⟩) := by rw [← hH2, hn']; simp
    have gt1 := (List.getElem?_eq_some_iff.1 f1).1
    have gtn := (List.getElem?_eq_some_iff.1 fn).1
    have gtp := (List.getElem?_eq_some_iff.1 fp).1
    simp -dsimp -implicitDefEqProofs [-getElem?_pos, go_sem, hP, fn, gtn, fp, gtp]
    refine callB_is (ad.lift _ _) hP en_12 (by simp; exact ⟨ix, ivv⟩) (imm_pair iz .sc) ?_
    simp -dsimp -implicitDefEqProofs [-getElem?_pos, go_sem, hP, t7, fn, gtn]
    refine callB_is (kn.lift _ _) hP en_13 (by simp [imm_sc]; exact ix) .sc ?_
    simp -dsimp -implicitDefEqProofs [-getElem?_pos, go_sem, hP, t33, wj]
    refine ⟨q.Known.length - (j + 1), by omega, ?_⟩
    rw [hJ]
    exact ⟨j + 1, by omega, rfl, by simp -dsimp -implicitDefEqProofs [-getElem?_pos, go_sem, t3], by simp -dsimp -implicitDefEqProofs [-getElem?_pos, go_sem, t4], by simp -dsimp -implicitDefEqProofs [-getElem?_pos, go_sem, t6], by simp -dsimp -implicitDefEqProofs [-getElem?_pos, go_sem, t7], by simp -dsimp -implicitDefEqProofs [-getElem?_pos, go_sem, t8], by simp -dsimp -implicitDefEqProofs [-getElem?_pos, go_sem, t31], by simp -dsimp -implicitDefEqProofs [-getElem?_pos, go_sem, t32], by simp -dsimp -implicitDefEqProofs [-getElem?_pos, go_sem], by simp -dsimp -implicitDefEqProofs [-getElem?_pos, go_sem, f1, gt1], by simp -dsimp -implicitDefEqProofs [-getElem?_pos, go_sem, fn, gtn]⟩
  · have hj : j = q.Known.length := by simp at hh; omega
    subst hj
    simp -dsimp -implicitDefEqProofs [-getElem?_pos, go_sem, hP, t7, hnx, lt2, t8, t4, h1, lt1, t6, wk]
    refine ⟨14 - (k + 1), by omega, ?_⟩
    rw [hI]
    exact ⟨k + 1, x, e, by omega, rfl, hxo, by omega, by omega, by simp -dsimp -implicitDefEqProofs [-getElem?_pos, go_sem, t3], by simp -dsimp -implicitDefEqProofs [-getElem?_pos, go_sem, t4], by simp -dsimp -implicitDefEqProofs [-getElem?_pos, go_sem], by simp -dsimp -implicitDefEqProofs [-getElem?_pos, go_sem], by simp -dsimp -implicitDefEqProofs [-getElem?_pos, go_sem, lt1]⟩
end Go.Proofs.Ytmpncdlhmknkoaa
