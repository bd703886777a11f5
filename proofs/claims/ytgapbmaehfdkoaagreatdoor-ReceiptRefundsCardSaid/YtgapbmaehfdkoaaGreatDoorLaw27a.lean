/- ReceiptRefunds. -/
import Derived.Test.YtgapbmaehfdkoaaGreatDoorCashSane
set_option linter.unusedSimpArgs false
set_option linter.unusedVariables false
namespace Go.Proofs.YtgapbmaehfdkoaaGreatDoor
open Go.PA
open Go.RowKit

theorem refunded_cash {c : TCash} (h : cashE c = 0) (i : Nat) : cashE (refunded c i) = 0 := by
  have ok := cashE_ok.1 h
  exact cashE_ok.2 ⟨ok.1, refunded_ok ok.2 i⟩
theorem refunded_fit {c : TCash} (h : FitC c) (i : Nat) : FitC (refunded c i) := ⟨h.fc, h.fi, h.fm, by have := h.fl; simp [refunded]; omega, h.code⟩
theorem refund_cases {c : TCash} (h : cashE c = 0) (n : Int) : refundD c n = (noCash, 0, 6) ∨ refundD c n = (noCash, 0, 10) ∨ ∃ (i : Nat) (lo : Int), 0 < lo ∧ incAt c.Incomes n = some i ∧ c.Loose[i]? = some lo ∧ refundD c n = (refunded c i, lo, 0) ∧ refundD (refunded c i) n = (noCash, 0, 10) := by
  have ok := (cashE_ok.1 h).2
  cases hi : incAt c.Incomes n with
  | none => exact .inl (by rw [refundD, if_pos h, hi])
  | some i =>
    obtain ⟨y, hy, _⟩ := incAt_some hi
    have lti := (List.getElem?_eq_some_iff.1 hy).1
    obtain ⟨lo, hlo⟩ : ∃ lo, c.Loose[i]? = some lo := ⟨_, List.getElem?_eq_getElem (by rw [ok.len]; exact lti)⟩
    have hl0 := ok.pos.2 lo (List.mem_of_getElem? hlo)
    by_cases h0 : lo = 0
    · refine .inr (.inl ?_)
      rw [refundD, if_pos h, hi]
      simp only
      rw [hlo, Option.getD_some, if_pos h0]
    · refine .inr (.inr ⟨i, lo, by omega, rfl, hlo, ?_, ?_⟩)
      · rw [refundD, if_pos h, hi]
        simp only
        rw [hlo, Option.getD_some, if_neg h0]
        rfl
      · have hi' : incAt (refunded c i).Incomes n = some i := hi
        rw [refundD, if_pos (refunded_cash h i), hi']
        simp only
        have e : (refunded c i).Loose[i]? = some 0 := List.getElem?_set_self (List.getElem?_eq_some_iff.1 hlo).1
        rw [e, Option.getD_some, if_pos rfl]
set_option maxHeartbeats 4000000 in
set_option maxRecDepth 4000 in
theorem refunds27_pf (xs : List Int) (n : Nat) (hx : Small xs) (hl : xs.length ≤ 9223372036854775807) (hn : n ≤ 255) : PFun Tryz.prog none none 5 [intsL xs, .sc (.int .u8 n)] (· = bv true) := by
  refine pfun_introA Tryz.func5 rfl (by simp [Tryz.f5]) ?_
  intro E hP hr hs hW hN
  refine awp_cut (by rw [hN]; kernel_rfl) ?_
  simp [go_sem, hP]
  refine awp_cut (by rw [hN]; kernel_rfl) ?_
  simp [go_sem, hP]
  have hnew : POwn Tryz.prog E.row E.src 8 [intsL xs] 70 2 (· = [[intsL (xs.take 900), iv 0]]) := by rw [hr, hs]; exact new_pf xs hl
  refine callB_own hnew hP en_8 (args_same (by simp [go_sem, intsL])) (by simp [srefs_imm, go_sem, intsL]) ⟨_, rfl⟩ ?_
  rintro es rfl
  simp [go_sem, hP]
  refine awp_adopt 5 (ty := 70) (xs := xs.take 900) (at_ := 0) hr hs hW (by simp [go_sem]) (by simp [go_sem, intsL]) (by omega) (by simp; omega) (fun x hx' => hx x (List.mem_of_mem_take hx')) (by rw [hN]; kernel_rfl) ?_
  intro E' p hP' hr' hN' hW'
  rw [hP] at hP'
  rw [hN] at hN'
  clear hnew hP hr hs hW hN E
  rename Env => E
  rename E.P = _ => hP
  rename E.row = _ => hr
  rename E.N = _ => hN
  rename (∀ b, ¬ E.W b) => hW
  obtain ⟨src, hs⟩ : ∃ src, E.src = src := ⟨_, rfl⟩
  have up : ∀ {f : FuncId} {args : List AV} {Q : AV → Prop}, PFun Tryz.prog (some p) src f args Q → PFun Tryz.prog E.row E.src f args Q := fun h => hr ▸ hs ▸ h

  have saneB : ∀ {H : Heap} {C : AV → Heap → Prop} {b : Bx C}, C (bv true) H → CallB E 12 [] H C b := fun h => callB_pure sane27_pf hP en_12 (args_nil.2 trivial) .sc h
  simp -dsimp -implicitDefEqProofs [-getElem?_pos, go_sem, hP]
  refine callB_isQ (up (scash_pf p src 8 (by omega))) hP en_9 (by simp [go_sem]) (cashQ_ex 8) ?_
  rintro r ⟨c, k0, d0, rfl, hk0, hd0, hd1, hg⟩ _
  have c1 := hg.cash (by omega)
  have fit := hg.fit (by omega)
  obtain ⟨k, hk⟩ : ∃ k : Int, k = (n : Int) % 16 := ⟨_, rfl⟩
  have tm : (n : Int).tmod 16 = k := by rw [hk]; exact Int.tmod_eq_emod_of_nonneg (by omega)
  have wn := wrap_in (n : Int) (by omega)
  have wk := wrap_in k (by omega)
  have w1 := wrap_in (1 + k) (by omega)
  have rf := crefund_pf c (1 + k) fit
  have ic := imm_agg.2 c.imm
  rw [cCsh] at rf ic
  rcases refund_cases c1 (1 + k) with e | e | ⟨i, lo, hlo, _, _, e, e2⟩
  · rw [e, cCsh] at rf
    have iz := imm_agg.2 noCash.imm
    rw [cCsh] at iz
    simp -dsimp -implicitDefEqProofs [-getElem?_pos, go_sem, hP, cCsh, aconv, wn, wk, tm, w1]
    refine callB_is (rf.lift _ _) hP en_16 (by simpa [imm_sc] using ic) (imm_trip iz .sc .sc) ?_
    simp -dsimp -implicitDefEqProofs [-getElem?_pos, go_sem, hP]
    refine saneB ?_
    simp -dsimp -implicitDefEqProofs [-getElem?_pos, go_sem, hP]
  · rw [e, cCsh] at rf
    have iz := imm_agg.2 noCash.imm
    rw [cCsh] at iz
    simp -dsimp -implicitDefEqProofs [-getElem?_pos, go_sem, hP, cCsh, aconv, wn, wk, tm, w1]
    refine callB_is (rf.lift _ _) hP en_16 (by simpa [imm_sc] using ic) (imm_trip iz .sc .sc) ?_
    simp -dsimp -implicitDefEqProofs [-getElem?_pos, go_sem, hP]
    refine saneB ?_
    simp -dsimp -implicitDefEqProofs [-getElem?_pos, go_sem, hP]
  · have fit2 := refunded_fit fit i
    have rf2 := crefund_pf (refunded c i) (1 + k) fit2
    have ck := ccheck_pf (refunded c i) fit2
    rw [refunded_cash c1 i] at ck
    have ec := listEq_pf_claims27 c.Claims c.Claims fit.fc fit.fc
    have em := listEq_pf_matches27 c.Matches c.Matches fit.fm fit.fm
    rw [decide_eq_true rfl] at ec em
    obtain ⟨d, hd⟩ : ∃ d, d = refunded c i := ⟨_, rfl⟩
    have h1 : d.Claims = c.Claims := by rw [hd]; rfl
    have h2 : d.Matches = c.Matches := by rw [hd]; rfl
    rw [e, ← hd] at rf
    rw [e2, ← hd, cCsh] at rf2
    rw [← hd, cCsh] at ck
    rw [cCsh] at rf rf2
    have id := imm_agg.2 d.imm
    have iz := imm_agg.2 noCash.imm
    rw [cCsh] at id iz
    rw [h1, h2] at rf rf2 id ck
    have i1 := imm_claims c.Claims
    have i2 := imm_matches c.Matches
    simp -dsimp -implicitDefEqProofs [-getElem?_pos, go_sem, hP, cCsh, aconv, wn, wk, tm, w1]
    refine callB_is (rf.lift _ _) hP en_16 (by simpa [imm_sc] using ic) (imm_trip id .sc .sc) ?_
    simp -dsimp -implicitDefEqProofs [-getElem?_pos, go_sem, hP]
    refine callB_is (rf2.lift _ _) hP en_16 (by simpa [imm_sc] using id) (imm_trip iz .sc .sc) ?_
    simp -dsimp -implicitDefEqProofs [-getElem?_pos, go_sem, hP, hlo]
    refine callB_pure ec hP en_17 (args_same (by simpa using i1)) .sc ?_
    simp -dsimp -implicitDefEqProofs [-getElem?_pos, go_sem, hP, hlo]
    refine callB_pure em hP en_18 (args_same (by simpa using i2)) .sc ?_
    simp -dsimp -implicitDefEqProofs [-getElem?_pos, go_sem, hP]
    refine callB_pure ck hP en_15 (args_same (by simpa using id)) .sc ?_
    simp -dsimp -implicitDefEqProofs [-getElem?_pos, go_sem, hP]
    refine saneB ?_
    simp -dsimp -implicitDefEqProofs [-getElem?_pos, go_sem, hP]
end Go.Proofs.YtgapbmaehfdkoaaGreatDoor
