/- TaxesSpans. -/
import Derived.Test.YtabdihohphlheaaDoorGen28
import Derived.Test.YtabdihohphlheaaDoorTax5
set_option linter.unusedSimpArgs false
set_option linter.unusedVariables false
namespace Go.Proofs.YtabdihohphlheaaDoor
open Go.PA
open Go.RowKit

set_option maxHeartbeats 4000000 in
set_option maxRecDepth 4000 in
theorem spans28_pf (xs : List Int) (a b : Nat) (hx : Small xs) (hl : xs.length ≤ 9223372036854775807) (ha : a ≤ 65535) (hb : b ≤ 65535) : PFun Tryd.prog none none 5 [intsL xs, .sc (.int .u16 a), .sc (.int .u16 b)] (· = bv true) := by
  refine pfun_introA Tryd.func5 rfl (by simp [Tryd.f5]) ?_
  intro E hP hr hs hW hN
  refine awp_cut (by rw [hN]; kernel_rfl) ?_
  simp [go_sem, hP]
  refine awp_cut (by rw [hN]; kernel_rfl) ?_
  simp [go_sem, hP]
  have hnew : POwn Tryd.prog E.row E.src 7 [intsL xs] 53 2 (· = [[intsL (xs.take 900), iv 0]]) := by rw [hr, hs]; exact new_pf xs hl
  refine callB_own hnew hP en_7 (args_same (by simp [go_sem, intsL])) (by simp [srefs_imm, go_sem, intsL]) ⟨_, rfl⟩ ?_
  rintro es rfl
  simp [go_sem, hP]
  refine awp_adopt 7 (ty := 53) (xs := xs.take 900) (at_ := 0) hr hs hW (by simp [go_sem]) (by simp [go_sem, intsL]) (by omega) (by simp; omega) (fun x hx' => hx x (List.mem_of_mem_take hx')) (by rw [hN]; kernel_rfl) ?_
  intro E' p hP' hr' hN' hW'
  rw [hP] at hP'
  rw [hN] at hN'
  clear hnew hP hr hs hW hN E
  rename Env => E
  rename E.P = _ => hP
  rename E.row = _ => hr
  rename E.N = _ => hN
  rename (∀ b, ¬ E.W b) => hW
  obtain ⟨src, hs⟩ : ∃ src, E.src = src := ⟨_, rfl⟩
  have up : ∀ {f : FuncId} {args : List AV} {Q : AV → Prop}, PFun Tryd.prog (some p) src f args Q → PFun Tryd.prog E.row E.src f args Q := fun h => hr ▸ hs ▸ h

  have saneB : ∀ {H : Heap} {C : AV → Heap → Prop} {b : Bx C}, C (bv true) H → CallB E 10 [] H C b := fun h => callB_pure sane28_pf hP en_10 (args_nil.2 trivial) .sc h
  simp -dsimp -implicitDefEqProofs [-getElem?_pos, go_sem, hP]
  refine callB_isQ (up (staxes_pf p src 5 (by omega))) hP en_12 (by simp [go_sem]) (taxesQ_ex 5) ?_
  rintro r ⟨l, rfl, hl5, hg⟩ _
  have it := imm_taxes l
  have hf := genFit hg
  obtain ⟨mid, hmid⟩ : ∃ mid : Int, mid = (a : Int) % 2000 := ⟨_, rfl⟩
  obtain ⟨e1, he1⟩ : ∃ e1 : Int, e1 = (b : Int) % 1000 := ⟨_, rfl⟩
  obtain ⟨en, hen⟩ : ∃ en : Int, en = 2000 + e1 := ⟨_, rfl⟩
  have tm1 : (a : Int).tmod 2000 = mid := by rw [hmid]; exact Int.tmod_eq_emod_of_nonneg (by omega)
  have tm2 : (b : Int).tmod 1000 = e1 := by rw [he1]; exact Int.tmod_eq_emod_of_nonneg (by omega)
  have wa := wrap_in (a : Int) (by omega)
  have wb := wrap_in (b : Int) (by omega)
  have we : IntKind.i64.wrap (2000 + e1) = en := by rw [wrap_in (2000 + e1) (by omega), hen]
  have w1 := wrap_in (mid + 1) (by omega)
  have ex := texpected_pf l hf (by omega) 0 mid
  have ey := texpected_pf l hf (by omega) (mid + 1) en
  have ez := texpected_pf l hf (by omega) 0 en
  have cl := tclaims_pf l hf (by omega) 0 mid 1
  rw [gen_expected hg (by omega)] at ex ey ez
  rw [gen_claims hg (by omega)] at cl
  have sp' := flows_spans l (a := 0) (m := mid) (b := en) (by omega) (by omega)
  have lx := flowsD_len6 (fun _ d => btw d 0 mid) hg
  have ly := flowsD_len6 (fun _ d => btw d (mid + 1) en) hg
  have lz := flowsD_len6 (fun _ d => btw d 0 en) hg
  have mem : ∀ x, x ∈ flowsD (fun _ d => btw d 0 mid) l → _ := fun x hx => mem_flowsD hx
  obtain ⟨X, hX⟩ : ∃ X, X = flowsD (fun _ d => btw d 0 mid) l := ⟨_, rfl⟩
  obtain ⟨Y, hY⟩ : ∃ Y, Y = flowsD (fun _ d => btw d (mid + 1) en) l := ⟨_, rfl⟩
  obtain ⟨Z, hZ⟩ : ∃ Z, Z = flowsD (fun _ d => btw d 0 en) l := ⟨_, rfl⟩
  rw [← hX] at ex cl sp' lx mem
  rw [← hY] at ey sp' ly
  rw [← hZ] at ez sp' lz
  obtain ⟨cs, hcs⟩ : ∃ cs, cs = X.mapIdx (clm l 1) := ⟨_, rfl⟩
  rw [← hcs] at cl
  have lc : cs.length = X.length := by rw [hcs, List.length_mapIdx]
  have cat : ∀ k x, X[k]? = some x → cs[k]? = some (clm l 1 k x) := fun k x h => by rw [hcs, List.getElem?_mapIdx, h]; rfl
  clear hcs hX hY hZ
  simp only at ex ey ez cl
  simp -dsimp -implicitDefEqProofs [-getElem?_pos, go_sem, hP, aconv, wa, wb, tm1, tm2, we]
  refine callB_is (ex.lift _ _) hP en_13 (by simpa [imm_sc] using it) (imm_pair (imm_flows _) .sc) ?_
  simp -dsimp -implicitDefEqProofs [-getElem?_pos, go_sem, hP, w1]
  refine callB_is (ey.lift _ _) hP en_13 (by simpa [imm_sc] using it) (imm_pair (imm_flows _) .sc) ?_
  simp -dsimp -implicitDefEqProofs [-getElem?_pos, go_sem, hP]
  refine callB_is (ez.lift _ _) hP en_13 (by simpa [imm_sc] using it) (imm_pair (imm_flows _) .sc) ?_
  simp -dsimp -implicitDefEqProofs [-getElem?_pos, go_sem, hP]
  refine callB_is (cl.lift _ _) hP en_14 (by simpa [imm_sc] using it) (imm_pair (imm_claims _) .sc) ?_
  simp -dsimp -implicitDefEqProofs [-getElem?_pos, go_sem, hP, lc]
  obtain ⟨I, hI⟩ : ∃ I : Nat → St → Prop, I = fun m s => ∃ k : Nat, k ≤ X.length ∧ m = X.length - k ∧ s.t 8 = taxesL l ∧ s.t 11 = flowsL X ∧ s.t 13 = flowsL Y ∧ s.t 15 = flowsL Z ∧ s.t 79 = claimsL cs ∧ s.t 80 = iv X.length ∧ s.t 81 = iv k := ⟨_, rfl⟩
  refine aloop0 I (X.length) (by rw [hN]; rfl) ?_ ?_
  · rw [hI]
    exact ⟨0, by omega, by omega, by simp -dsimp -implicitDefEqProofs [-getElem?_pos, go_sem], by simp -dsimp -implicitDefEqProofs [-getElem?_pos, go_sem], by simp -dsimp -implicitDefEqProofs [-getElem?_pos, go_sem], by simp -dsimp -implicitDefEqProofs [-getElem?_pos, go_sem], by simp -dsimp -implicitDefEqProofs [-getElem?_pos, go_sem], by simp -dsimp -implicitDefEqProofs [-getElem?_pos, go_sem, lc], by simp -dsimp -implicitDefEqProofs [-getElem?_pos, go_sem]⟩
  intro m s hs'
  rw [hI] at hs'
  obtain ⟨k, hk, hm, t8, t11, t13, t15, t79, t80, t81⟩ := hs'
  subst hm
  simp -dsimp -implicitDefEqProofs [-getElem?_pos, go_sem, hP, t80, t81]
  refine condP (fun hh => ?_) (fun hh => ?_)
  · have hk : k < X.length := by simpa using hh
    have wk := wrap_in ((k : Int) + 1) (by omega)
    obtain ⟨x, hx⟩ : ∃ x, X[k]? = some x := ⟨_, List.getElem?_eq_getElem hk⟩
    obtain ⟨j, t, ht, d, _, _, _, exx⟩ := mem x (List.mem_of_getElem? hx)
    have r1 : x.Ref = (j : Int) := by rw [exx]
    have ec : clm l 1 k x = ⟨(k : Int) + 1, t.Payer, x.Amount, x.Amount, x.Day, t.Code⟩ := by
      rw [clm, r1, Int.toNat_natCast, ht, Int.add_comm]
      rfl
    have hc := cat k x hx
    rw [ec] at hc
    simp -dsimp -implicitDefEqProofs [-getElem?_pos, go_sem, hP, t79, t81, hc, cCl]
    refine adrawB (fun _ => true) [] hP (by kernel_rfl) (by kernel_rfl) ?_
    simp -dsimp -implicitDefEqProofs [-getElem?_pos, go_sem, hP, t11, hx, cFl, t8, r1, ht, cTx, wk, t81]
    refine ⟨X.length - (k + 1), by omega, ?_⟩
    rw [hI]
    exact ⟨k + 1, by omega, rfl, by simp -dsimp -implicitDefEqProofs [-getElem?_pos, go_sem, t8], by simp -dsimp -implicitDefEqProofs [-getElem?_pos, go_sem, t11], by simp -dsimp -implicitDefEqProofs [-getElem?_pos, go_sem, t13], by simp -dsimp -implicitDefEqProofs [-getElem?_pos, go_sem, t15], by simp -dsimp -implicitDefEqProofs [-getElem?_pos, go_sem, t79], by simp -dsimp -implicitDefEqProofs [-getElem?_pos, go_sem, t80], by simp -dsimp -implicitDefEqProofs [-getElem?_pos, go_sem]⟩
  · have hk : k = X.length := by
      have : ¬ k < X.length := by simpa using hh
      omega
    subst hk
    simp -dsimp -implicitDefEqProofs [-getElem?_pos, go_sem, hP, t11, t13, t15]
    have fe := listEq_pf_flows28 Z Z (by omega) (by omega)
    rw [decide_eq_true rfl] at fe
    have eXY : encL TFlow.cells X ++ encL TFlow.cells Y = encL TFlow.cells Z := by rw [← sp']; simp [encL]
    have lXY : X.length + Y.length = Z.length := by rw [← sp', List.length_append]
    rw [eXY, lXY]
    refine ⟨by omega, by omega, by omega, by omega, ?_⟩
    refine callB_pure fe hP en_15 (args_sref (by simp; rfl) (by simp [encL]) (imm_flows Z) (args_imm (imm_flows Z) (args_nil.2 trivial))) .sc ?_
    simp -dsimp -implicitDefEqProofs [-getElem?_pos, go_sem, hP]
    refine saneB ?_
    simp -dsimp -implicitDefEqProofs [-getElem?_pos, go_sem, hP]
end Go.Proofs.YtabdihohphlheaaDoor
