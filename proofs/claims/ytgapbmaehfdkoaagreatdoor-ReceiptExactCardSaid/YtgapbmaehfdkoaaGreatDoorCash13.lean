/- Receipts: refunds. -/
import Derived.Test.YtgapbmaehfdkoaaGreatDoorCash11
import Derived.Test.YtgapbmaehfdkoaaGreatDoorCash12
set_option linter.unusedSimpArgs false
set_option linter.unusedVariables false
namespace Go.Proofs.YtgapbmaehfdkoaaGreatDoor
open Go.PA
open Go.RowKit

theorem weak_tup3s {a a' : AV} {v w : Value} (ha : Weak a a') : Weak (.tup [a, .sc v, .sc w]) (.tup [a', .sc v, .sc w]) := weak_tup3 ha (.refl _) (.refl _)
theorem done_cash2 {H : Heap} {cs cs' : List AV} {v w : Value} {Q : AV → Prop} {b : Bx Q} (h : CW H cs cs') (hq : Q (.tup [.agg cs', .sc v, .sc w])) : Done H (.tup [.agg cs, .sc v, .sc w]) Q b :=
  done_weak (imm_trip h.imm .sc .sc) (imm_trip h.imm' .sc .sc) (weak_tup3s h.weak) hq
set_option maxHeartbeats 4000000 in
set_option maxRecDepth 8000 in
theorem crefund_pf (c : TCash) (n : Int) (hf : FitC c) : PFun Tryz.prog none none 16 [.agg c.cells, iv n] (· = .tup [.agg (refundD c n).1.cells, iv (refundD c n).2.1, iv (refundD c n).2.2]) := by
  refine pfun_intro Tryz.func16 rfl (by simp [Tryz.f16]) (by kernel_rfl) ?_
  intro E hP hr hs hW hN
  have ck := ccheck_pf c hf
  have ia := incomeAt_pf c n hf
  have ic := imm_agg.2 c.imm
  rw [cCsh] at ck ic ia
  obtain ⟨Q, hQ⟩ : ∃ Q : AV → Prop, Q = (· = .tup [.agg (refundD c n).1.cells, iv (refundD c n).2.1, iv (refundD c n).2.2]) := ⟨_, rfl⟩
  rw [← hQ]
  obtain ⟨R, hR⟩ : ∃ R, R = refundD c n := ⟨_, rfl⟩
  rw [← hR] at hQ
  rw [refundD] at hR
  obtain ⟨O0, hO0⟩ : ∃ O : AObj, O = ⟨29, 4, [[claimsL c.Claims, incomesL c.Incomes, matchesL c.Matches, .list 1 (encL encI c.Loose)]]⟩ := ⟨_, rfl⟩
  obtain ⟨O2, hO2⟩ : ∃ O : AObj, O = ⟨29, 4, [[.nil, .nil, .nil, .nil]]⟩ := ⟨_, rfl⟩
  simp -dsimp -implicitDefEqProofs [-getElem?_pos, go_sem, hP, cCsh]
  refine callB_pure ck hP en_15 (args_same (by simpa using ic)) .sc ?_
  by_cases c1 : cashE c = 0
  rotate_left
  · rw [if_neg c1] at hR
    simp -dsimp -implicitDefEqProofs [-getElem?_pos, go_sem, hP, c1]
    refine done_cash2 cw_noCash ?_
    rw [hQ, hR]
  rw [if_pos c1] at hR
  have ok := (cashE_ok.1 c1).2
  simp -dsimp -implicitDefEqProofs [-getElem?_pos, go_sem, hP, c1]
  refine callB_pure ia hP en_49 (args_same (by simpa [imm_sc] using ic)) .sc ?_
  cases hi : incAt c.Incomes n with
  | none =>
    rw [hi] at hR
    simp -dsimp -implicitDefEqProofs [-getElem?_pos, go_sem, hP, idxO]
    refine done_cash2 cw_noCash ?_
    rw [hQ, hR]
  | some i =>
  rw [hi] at hR
  simp only at hR
  obtain ⟨y, hy, _⟩ := incAt_some hi
  have lti := (List.getElem?_eq_some_iff.1 hy).1
  obtain ⟨lo, hlo⟩ : ∃ lo, c.Loose[i]? = some lo := ⟨_, List.getElem?_eq_getElem (by rw [ok.len]; exact lti)⟩
  have ltl := (List.getElem?_eq_some_iff.1 hlo).1
  rw [hlo, Option.getD_some] at hR
  have d0 : decide ((i : Int) < 0) = false := decide_eq_false (by omega)
  by_cases c2 : lo = 0
  · rw [if_pos c2] at hR
    simp -dsimp -implicitDefEqProofs [-getElem?_pos, go_sem, hP, idxO, d0, hlo, encI, c2]
    refine done_cash2 cw_noCash ?_
    rw [hQ, hR]
  rw [if_neg c2] at hR
  simp -dsimp -implicitDefEqProofs [-getElem?_pos, go_sem, hP, idxO, d0, hlo, encI, c2]
  obtain ⟨H0, hH0⟩ : ∃ H0 : Heap, H0 = [some O0, some O2] := ⟨_, rfl⟩
  simp only [← hO0, ← hO2, ← hH0]
  have cp := copied_c (row := E.row) (src := E.src) c H0 hf
  rw [cCsh] at cp
  refine callB_m cp hP en_40 ?_
  rintro r H1 ⟨p, A, B, D, F, rfl, hp4, hc, hk⟩
  have l0 : H0.length = 2 := by rw [hH0]; rfl
  rw [l0] at hc hp4
  have g0 := hk 0 O0 (by simp) (by rw [hH0]; rfl)
  have g1 := hk 1 O2 (by simp) (by rw [hH0]; rfl)
  have lt0 := (List.getElem?_eq_some_iff.1 g0).1
  have lt1 := (List.getElem?_eq_some_iff.1 g1).1
  have ho := hc.obj
  have lto := (List.getElem?_eq_some_iff.1 ho).1
  obtain ⟨f, nf, hF, hf'⟩ := hc.f
  have ltf := (List.getElem?_eq_some_iff.1 hf').1
  have rf := rowsI_get hlo
  have lf := rowsI_len c.Loose
  have rs := rowsI_set c.Loose i 0
  have nf0 : ¬ f = 0 := by omega
  have nf1 : ¬ f = 1 := by omega
  have np1 : ¬ p = 1 := by omega
  have nfp := obj_ne hf' ho (by simp)
  have e1 := hc.a.set (o' := some ⟨3, 1, rowsI (c.Loose.set i 0)⟩) hf' (by simp)
  have e2 := hc.b.set (o' := some ⟨3, 1, rowsI (c.Loose.set i 0)⟩) hf' (by simp)
  have e3 := hc.d.set (o' := some ⟨3, 1, rowsI (c.Loose.set i 0)⟩) hf' (by simp)
  have ho2 := ho
  rw [hF, lf] at ho2
  obtain ⟨PF, hPF⟩ : ∃ P, P = rowsI c.Loose := ⟨_, rfl⟩
  rw [← hPF] at hf' rf lf rs
  have ca : A.cellish = true := by obtain ⟨_, _, rfl, _⟩ := hc.a; rfl
  have cb : B.cellish = true := by obtain ⟨_, _, rfl, _⟩ := hc.b; rfl
  have cd : D.cellish = true := by obtain ⟨_, _, rfl, _⟩ := hc.d; rfl
  simp -dsimp -implicitDefEqProofs [-getElem?_pos, go_sem, hP, ho2, lto, hf', ltf, rf, lf, ltl]
  refine adrawB (fun j => !decide (j = 1)) [] hP (by kernel_rfl) (by kernel_rfl) ?_
  have h1' : (H1.set f (some (⟨3, 1, rowsI (c.Loose.set i 0)⟩ : AObj)))[1]? = some (some O2) := by rw [List.getElem?_set_ne nf1]; exact g1
  simp -dsimp -implicitDefEqProofs [-getElem?_pos, go_sem, hP, restr_get, ho2, lto, nfp, g0, lt0, g1, lt1, hO0, hlo, encI, nf0, nf1, np1, ca, cb, cd, hO2]
  have rs' : PF.set i [AV.sc (Value.int IntKind.i64 0)] = rowsI (c.Loose.set i 0) := rs
  rw [rs']
  refine ⟨agree_set (by simp), done_cash2 (cs' := (refunded c i).cells) ?_ ?_⟩
  · rw [cCsh]
    refine (e1.set h1' (by rw [hO2]; simp)).cw (imm_claims _) ((e2.set h1' (by rw [hO2]; simp)).cw (imm_incomes _) ((e3.set h1' (by rw [hO2]; simp)).cw (imm_matches _) (cw_sref (ty := 3) (k := 1) (es := encL encI (c.Loose.set i 0)) ?_ (by rw [encL_len, List.length_set]) ((refunded c i).imm _ (by simp [cCsh, refunded])) .nil)))
    rw [List.getElem?_set_ne (fun e => nf1 e.symm), List.getElem?_set_self ltf]
  · rw [hQ, hR]
    rfl
set_option maxHeartbeats 4000000 in
set_option maxRecDepth 8000 in
theorem crrefund_pf (c : TCash) (n : Int) (hf : FitC c) : PFun Tryz.prog none none 35 [.agg c.cells, iv n] (· = .tup [.agg (refundD c n).1.cells, iv (refundD c n).2.1, iv (refundD c n).2.2]) := by
  refine pfun_intro Tryz.func35 rfl (by simp [Tryz.f35]) (by kernel_rfl) ?_
  intro E hP hr hs hW hN
  have ck := crcheck_pf c hf
  have ia := crincomeAt_pf c n hf
  have ic := imm_agg.2 c.imm
  rw [cCsh] at ck ic ia
  obtain ⟨Q, hQ⟩ : ∃ Q : AV → Prop, Q = (· = .tup [.agg (refundD c n).1.cells, iv (refundD c n).2.1, iv (refundD c n).2.2]) := ⟨_, rfl⟩
  rw [← hQ]
  obtain ⟨R, hR⟩ : ∃ R, R = refundD c n := ⟨_, rfl⟩
  rw [← hR] at hQ
  rw [refundD] at hR
  obtain ⟨O0, hO0⟩ : ∃ O : AObj, O = ⟨29, 4, [[claimsL c.Claims, incomesL c.Incomes, matchesL c.Matches, .list 1 (encL encI c.Loose)]]⟩ := ⟨_, rfl⟩
  obtain ⟨O2, hO2⟩ : ∃ O : AObj, O = ⟨29, 4, [[.nil, .nil, .nil, .nil]]⟩ := ⟨_, rfl⟩
  simp -dsimp -implicitDefEqProofs [-getElem?_pos, go_sem, hP, cCsh]
  refine callB_pure ck hP en_28 (args_same (by simpa using ic)) .sc ?_
  by_cases c1 : cashE c = 0
  rotate_left
  · rw [if_neg c1] at hR
    simp -dsimp -implicitDefEqProofs [-getElem?_pos, go_sem, hP, c1]
    refine done_cash2 cw_noCash ?_
    rw [hQ, hR]
  rw [if_pos c1] at hR
  have ok := (cashE_ok.1 c1).2
  simp -dsimp -implicitDefEqProofs [-getElem?_pos, go_sem, hP, c1]
  refine callB_pure ia hP en_56 (args_same (by simpa [imm_sc] using ic)) .sc ?_
  cases hi : incAt c.Incomes n with
  | none =>
    rw [hi] at hR
    simp -dsimp -implicitDefEqProofs [-getElem?_pos, go_sem, hP, idxO]
    refine done_cash2 cw_noCash ?_
    rw [hQ, hR]
  | some i =>
  rw [hi] at hR
  simp only at hR
  obtain ⟨y, hy, _⟩ := incAt_some hi
  have lti := (List.getElem?_eq_some_iff.1 hy).1
  obtain ⟨lo, hlo⟩ : ∃ lo, c.Loose[i]? = some lo := ⟨_, List.getElem?_eq_getElem (by rw [ok.len]; exact lti)⟩
  have ltl := (List.getElem?_eq_some_iff.1 hlo).1
  rw [hlo, Option.getD_some] at hR
  have d0 : decide ((i : Int) < 0) = false := decide_eq_false (by omega)
  by_cases c2 : lo = 0
  · rw [if_pos c2] at hR
    simp -dsimp -implicitDefEqProofs [-getElem?_pos, go_sem, hP, idxO, d0, hlo, encI, c2]
    refine done_cash2 cw_noCash ?_
    rw [hQ, hR]
  rw [if_neg c2] at hR
  simp -dsimp -implicitDefEqProofs [-getElem?_pos, go_sem, hP, idxO, d0, hlo, encI, c2]
  obtain ⟨H0, hH0⟩ : ∃ H0 : Heap, H0 = [some O0, some O2] := ⟨_, rfl⟩
  simp only [← hO0, ← hO2, ← hH0]
  have cp := rcopied_c (row := E.row) (src := E.src) c H0 hf
  rw [cCsh] at cp
  refine callB_m cp hP en_66 ?_
  rintro r H1 ⟨⟨A, B, D, F, rfl, ha, hb, hd, hff⟩, hk⟩
  have l0 : H0.length = 2 := by rw [hH0]; rfl
  rw [l0] at ha hb hd hff
  have g0 := hk 0 O0 (by simp) (by rw [hH0]; rfl)
  have g1 := hk 1 O2 (by simp) (by rw [hH0]; rfl)
  have lt0 := (List.getElem?_eq_some_iff.1 g0).1
  have lt1 := (List.getElem?_eq_some_iff.1 g1).1
  obtain ⟨f, nf, hF, hf'⟩ := hff
  have ltf := (List.getElem?_eq_some_iff.1 hf').1
  have rf := rowsI_get hlo
  have lf := rowsI_len c.Loose
  have rs := rowsI_set c.Loose i 0
  have nf0 : ¬ f = 0 := by omega
  have nf1 : ¬ f = 1 := by omega
  have nf0' : ¬ 0 = f := by omega
  rw [lf] at hF
  have ca : A.cellish = true := by obtain ⟨_, _, rfl, _⟩ := ha; rfl
  have cb : B.cellish = true := by obtain ⟨_, _, rfl, _⟩ := hb; rfl
  have cd : D.cellish = true := by obtain ⟨_, _, rfl, _⟩ := hd; rfl
  have f0 : (H1.set 0 (some (⟨29, 4, [[A, B, D, F]]⟩ : AObj)))[f]? = some (some ⟨3, 1, rowsI c.Loose⟩) := by rw [List.getElem?_set_ne nf0']; exact hf'
  have e1 := (ha.set (o' := some ⟨29, 4, [[A, B, D, F]]⟩) g0 (by rw [hO0]; simp)).set (o' := some ⟨3, 1, rowsI (c.Loose.set i 0)⟩) f0 (by simp)
  have e2 := (hb.set (o' := some ⟨29, 4, [[A, B, D, F]]⟩) g0 (by rw [hO0]; simp)).set (o' := some ⟨3, 1, rowsI (c.Loose.set i 0)⟩) f0 (by simp)
  have e3 := (hd.set (o' := some ⟨29, 4, [[A, B, D, F]]⟩) g0 (by rw [hO0]; simp)).set (o' := some ⟨3, 1, rowsI (c.Loose.set i 0)⟩) f0 (by simp)
  rw [hF] at e1 e2 e3
  obtain ⟨PF, hPF⟩ : ∃ P, P = rowsI c.Loose := ⟨_, rfl⟩
  rw [← hPF] at hf' rf lf rs
  rw [hF]
  simp -dsimp -implicitDefEqProofs [-getElem?_pos, go_sem, hP, g0, lt0, hO0, g1, lt1, hO2, hf', ltf, rf, lf, ltl, nf0, nf1, nf0', ca, cb, cd]
  have rs' : PF.set i [AV.sc (Value.int IntKind.i64 0)] = rowsI (c.Loose.set i 0) := rs
  rw [rs']
  have h1' : ((H1.set 0 (some (⟨29, 4, [[A, B, D, .sref f 0 c.Loose.length]]⟩ : AObj))).set f (some (⟨3, 1, rowsI (c.Loose.set i 0)⟩ : AObj)))[1]? = some (some O2) := by rw [List.getElem?_set_ne nf1, List.getElem?_set_ne (by omega)]; exact g1
  refine done_cash2 (cs' := (refunded c i).cells) ?_ ?_
  · rw [cCsh]
    refine (e1.set h1' (by rw [hO2]; simp)).cw (imm_claims _) ((e2.set h1' (by rw [hO2]; simp)).cw (imm_incomes _) ((e3.set h1' (by rw [hO2]; simp)).cw (imm_matches _) (cw_sref (ty := 3) (k := 1) (es := encL encI (c.Loose.set i 0)) ?_ (by rw [encL_len, List.length_set]) ((refunded c i).imm _ (by simp [cCsh, refunded])) .nil)))
    rw [List.getElem?_set_ne (fun e => nf1 e.symm), List.getElem?_set_self (by rw [List.length_set]; exact ltf)]
  · rw [hQ, hR]
    rfl
end Go.Proofs.YtgapbmaehfdkoaaGreatDoor
