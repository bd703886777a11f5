/- SweepKeeps: the walk. -/
import Derived.Test.YtcfkdimndhapfaaSwGen
set_option linter.unusedSimpArgs false
set_option linter.unusedVariables false
namespace Go.Proofs.Ytcfkdimndhapfaa
open Go.PA
open Go.RowKit


set_option maxHeartbeats 1000000 in
theorem skeeps_law_pf (xs : List Int) (hx : Small xs) (hl : xs.length ≤ 9223372036854775807) :
    PFun Try.prog none none 12 [intsL xs] (· = bv true) := by
  refine pfun_introA Try.func12 rfl (by simp [Try.f12]) ?_
  intro E hP hr hs hW hN
  refine awp_cut (by rw [hN]; kernel_rfl) ?_
  simp [go_sem, hP]
  refine awp_cut (by rw [hN]; kernel_rfl) ?_
  simp [go_sem, hP]
  have hnew : POwn Try.prog E.row E.src 13 [intsL xs] 76 2 (· = [[intsL (xs.take 900), iv 0]]) := by rw [hr, hs]; exact new_pf xs hl
  refine callB_own hnew hP en_13 (args_same (by simp [go_sem, intsL])) (by simp [srefs_imm, go_sem, intsL]) ⟨_, rfl⟩ ?_
  rintro es rfl
  simp [go_sem, hP]
  refine awp_adopt 3 (ty := 76) (xs := xs.take 900) (at_ := 0) hr hs hW (by simp [go_sem]) (by simp [go_sem, intsL]) (by omega) (by simp; omega) (fun x hx' => hx x (List.mem_of_mem_take hx')) (by rw [hN]; kernel_rfl) ?_
  intro E' p hP' hr' hN' hW'
  rw [hP] at hP'
  rw [hN] at hN'
  clear hnew hP hr hs hW hN E
  rename Env => E
  rename E.P = _ => hP
  rename E.row = _ => hr
  rename E.N = _ => hN
  rename (∀ b, ¬ E.W b) => hW
  obtain ⟨src, hs⟩ : ∃ src, E.src = src := ⟨_, rfl⟩
  have up : ∀ {f : FuncId} {args : List AV} {Q : AV → Prop}, PFun Try.prog (some p) src f args Q → PFun Try.prog E.row E.src f args Q := fun h => hr ▸ hs ▸ h

  simp -dsimp -implicitDefEqProofs [-getElem?_pos, go_sem, hP]
  refine callB_isQ (up (account_pf p src 10 (by omega))) hP en_14 (by simp [go_sem]) (gen_ex 10) ?_
  rintro r ⟨a, rfl, hg⟩ _
  simp -dsimp -implicitDefEqProofs [-getElem?_pos, go_sem, hP]
  refine callB_isQ (up (keeps_pf p src)) hP en_41 (by simp [go_sem]) genk_ex ?_
  rintro r ⟨l, rfl, hk⟩ _
  have H := gen_SwH hg (by omega) hk
  obtain ⟨b, hb, ckA, hpl, hsw⟩ := sweep_all H
  have hll := hk.len
  have asl := hg.slen
  have ael := hg.len
  have bsl : b.Subs.length = 4 := by rw [← ids_len, hb.be.ids, hg.ids]; rfl
  have bel := (check_ok hb.be.ok).2.1
  have sw := ssweep_pf a l 50 (by omega) (by omega) (by omega)
  rw [hsw] at sw
  have pl := splan_pf b l 50 (by omega) (by omega) (by omega)
  rw [hb.again H] at pl
  have bl := balance23_pf b 1 (by omega) (by omega)
  rw [balance_in hb.be.ok (by rw [hb.be.ids]; exact H.one)] at bl
  have tb := total23_pf b (by omega) (by omega)
  have ta := total23_pf a (by omega) (by omega)
  rw [hb.be.total H.ok] at tb
  have kp := skept_pf b l (by omega) (by omega) (by omega)
  have sh := sshort_pf b l (by omega) (by omega) (by omega)
  have hor := hb.kept_or H
  have hiff := hb.kept_iff H
  obtain ⟨kb, hkb⟩ : ∃ kb, kb = keptA b l := ⟨_, rfl⟩
  obtain ⟨sb, hsb⟩ : ∃ sb, sb = shortA b l := ⟨_, rfl⟩
  obtain ⟨mb, hmb⟩ : ∃ mb, mb = balI b.Subs 1 := ⟨_, rfl⟩
  obtain ⟨ti, hti⟩ : ∃ ti, ti = totalA a := ⟨_, rfl⟩
  rw [← hkb] at kp hor hiff
  rw [← hsb] at sh hiff
  rw [← hmb] at bl hor
  rw [← hti] at ta tb
  rw [cA] at sw pl bl tb ta kp sh
  rw [cA] at sw
  have ia : Imm (.agg [iv a.Credit, subsL a.Subs, entsL a.Entries]) := imm_acc a
  have ib : Imm (.agg [iv b.Credit, subsL b.Subs, entsL b.Entries]) := imm_acc b
  simp -dsimp -implicitDefEqProofs [-getElem?_pos, go_sem, hP, cA]
  refine callB_is (sw.lift _ _) hP en_45 (by simp [ia, imm_keeps, imm_sc]) (imm_pair ib .sc) ?_
  simp -dsimp -implicitDefEqProofs [-getElem?_pos, go_sem, hP]
  refine callB_is (pl.lift _ _) hP en_42 (by simp [ib, imm_keeps, imm_sc]) (imm_pair (imm_ents _) .sc) ?_
  simp -dsimp -implicitDefEqProofs [-getElem?_pos, go_sem, hP]
  refine callB_is (bl.lift _ _) hP en_36 (by simp [ib, imm_sc]) (imm_pair .sc .sc) ?_
  simp -dsimp -implicitDefEqProofs [-getElem?_pos, go_sem, hP]
  refine adrawB (fun _ => true) [] hP (by kernel_rfl) (by kernel_rfl) ?_
  simp -dsimp -implicitDefEqProofs [-getElem?_pos, go_sem, hP]
  refine callB_is (tb.lift _ _) hP en_31 (by simp [ib]) .sc ?_
  simp -dsimp -implicitDefEqProofs [-getElem?_pos, go_sem, hP]
  refine callB_is (ta.lift _ _) hP en_31 (by simp [ia]) .sc ?_
  simp -dsimp -implicitDefEqProofs [-getElem?_pos, go_sem, hP]
  refine callB_is (kp.lift _ _) hP en_49 (by simp [ib, imm_keeps]) .sc ?_
  cases kb with
  | true =>
    have hs0 : sb = 0 := hiff.1 rfl
    subst hs0
    simp -dsimp -implicitDefEqProofs [-getElem?_pos, go_sem, hP]
    refine callB_is (kp.lift _ _) hP en_49 (by simp [ib, imm_keeps]) .sc ?_
    simp -dsimp -implicitDefEqProofs [-getElem?_pos, go_sem, hP]
    refine callB_is (sh.lift _ _) hP en_46 (by simp [ib, imm_keeps]) .sc ?_
    simp -dsimp -implicitDefEqProofs [-getElem?_pos, go_sem, hP]
    refine callB_pure sane24_pf hP en_44 (args_nil.2 trivial) .sc ?_
    simp -dsimp -implicitDefEqProofs [-getElem?_pos, go_sem, hP]
  | false =>
    have hm0 : mb ≤ 0 := by simpa using hor
    have hs0 : ¬ sb = 0 := fun h => by have := hiff.2 h; cases this
    simp -dsimp -implicitDefEqProofs [-getElem?_pos, go_sem, hP, hm0]
    refine callB_is (kp.lift _ _) hP en_49 (by simp [ib, imm_keeps]) .sc ?_
    simp -dsimp -implicitDefEqProofs [-getElem?_pos, go_sem, hP]
    refine callB_is (sh.lift _ _) hP en_46 (by simp [ib, imm_keeps]) .sc ?_
    simp -dsimp -implicitDefEqProofs [-getElem?_pos, go_sem, hP, hs0]
    refine callB_pure sane24_pf hP en_44 (args_nil.2 trivial) .sc ?_
    simp -dsimp -implicitDefEqProofs [-getElem?_pos, go_sem, hP]
end Go.Proofs.Ytcfkdimndhapfaa
