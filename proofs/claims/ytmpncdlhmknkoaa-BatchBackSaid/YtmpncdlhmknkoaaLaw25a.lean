/- BatchBack. -/
import Derived.Test.YtmpncdlhmknkoaaBatSane
set_option linter.unusedSimpArgs false
set_option linter.unusedVariables false
namespace Go.Proofs.Ytmpncdlhmknkoaa
open Go.PA
open Go.RowKit

theorem drop_add {q a : TQueue} {p : TPayment} (h : addQ q p = (a, 0)) : dropQ a p.Warrant = (⟨q.Waiting, a.Known, a.Batches⟩, 0) := by
  obtain ⟨hq, hp, hk, _, _, rfl, ha⟩ := addQ_ok h
  obtain ⟨A, B, h1, h2, _⟩ := ins_split befB q.Waiting p
  have hn : ∀ x, x ∈ A → x.Warrant ≠ p.Warrant := fun x hx => hq.nod hk x (by rw [h1]; simp [hx])
  have hw : waitQ ⟨ins befB q.Waiting p, ins ltB q.Known p.Warrant, q.Batches⟩ p.Warrant = A.length := by
    rw [h2]
    exact waitQ_mid hn
  unfold dropQ
  rw [if_pos (checkQ_iff.2 ha), hw, if_neg (by omega)]
  simp only [h2, Int.toNat_natCast, Prod.mk.injEq, TQueue.mk.injEq, and_true]
  rw [List.eraseIdx_append_of_length_le (Nat.le_refl _), Nat.sub_self, h1]
  rfl
theorem add_comm {q a c d : TQueue} {p r : TPayment} (h1 : addQ q p = (a, 0)) (h2 : addQ a r = (c, 0)) (h3 : addQ q r = (d, 0)) : addQ d p = (c, 0) := by
  obtain ⟨hq, hp, hk, l1, l2, rfl, ha⟩ := addQ_ok h1
  obtain ⟨_, hr, hk2, l3, l4, rfl, hc⟩ := addQ_ok h2
  obtain ⟨_, _, hk3, _, _, rfl, hd⟩ := addQ_ok h3
  simp only [ins_len] at l3 l4
  have hpd : p.Warrant ∉ ins ltB q.Known r.Warrant := fun h => by
    rcases mem_ins.1 h with h | h
    · exact hk2 (mem_ins.2 (.inl h.symm))
    · exact hk h
  have hx := addQ_run hd hp hpd (by simp only [ins_len]; exact l3) (by simp only [ins_len]; exact l4)
  have hox := (addQ_ok hx).2.2.2.2.2.2
  rw [hx]
  simp only [Prod.mk.injEq, TQueue.mk.injEq, and_true]
  exact ⟨ins_comm (fun a b => Bef.asymm) hox.asc.ord hc.asc.ord, ins_comm (fun a b (h : a < b) => by omega) hox.ks hc.ks⟩

set_option maxHeartbeats 4000000 in
theorem back_pf (xs : List Int) (hx : Small xs) (hl : xs.length ≤ 9223372036854775807) : PFun Try.prog none none 6 [intsL xs] (· = bv true) := by
  refine pfun_introA Try.func6 rfl (by simp [Try.f6]) ?_
  intro E hP hr hs hW hN
  refine awp_cut (by rw [hN]; kernel_rfl) ?_
  simp [go_sem, hP]
  refine awp_cut (by rw [hN]; kernel_rfl) ?_
  simp [go_sem, hP]
  have hnew : POwn Try.prog E.row E.src 8 [intsL xs] 66 2 (· = [[intsL (xs.take 900), iv 0]]) := by rw [hr, hs]; exact new_pf xs hl
  refine callB_own hnew hP en_8 (args_same (by simp [go_sem, intsL])) (by simp [srefs_imm, go_sem, intsL]) ⟨_, rfl⟩ ?_
  rintro es rfl
  simp [go_sem, hP]
  refine awp_adopt 3 (ty := 66) (xs := xs.take 900) (at_ := 0) hr hs hW (by simp [go_sem]) (by simp [go_sem, intsL]) (by omega) (by simp; omega) (fun x hx' => hx x (List.mem_of_mem_take hx')) (by rw [hN]; kernel_rfl) ?_
  intro E' p hP' hr' hN' hW'
  rw [hP] at hP'
  rw [hN] at hN'
  clear hnew hP hr hs hW hN E
  rename Env => E
  rename E.P = _ => hP
  rename E.row = _ => hr
  rename E.N = _ => hN
  rename (∀ b, ¬ E.W b) => hW
  obtain ⟨src, hs⟩ : ∃ src, E.src = src := ⟨_, rfl⟩
  have up : ∀ {f : FuncId} {args : List AV} {Q : AV → Prop}, PFun Try.prog (some p) src f args Q → PFun Try.prog E.row E.src f args Q := fun h => hr ▸ hs ▸ h

  have saneB : ∀ {H : Heap} {C : AV → Heap → Prop} {b : Bx C}, C (bv true) H → CallB E 14 [] H C b := fun h => callB_pure sane25_pf hP en_14 (args_nil.2 trivial) .sc h
  simp -dsimp -implicitDefEqProofs [-getElem?_pos, go_sem, hP]
  refine callB_isQ (up (queue_pf p src)) hP en_15 (by simp [imm_sc]) QueQ_ex ?_
  rintro r ⟨q, rfl, hgq⟩ _
  have hq := hgq.ok
  have hf := hq.fit
  have iq := imm_que q
  simp only [cQu, intsL] at iq
  simp -dsimp -implicitDefEqProofs [-getElem?_pos, go_sem, hP, cQu, intsL]
  refine callB_isQ (up (gpay_pf p src)) hP en_11 (by simp [imm_sc]) PayQ_ex ?_
  rintro r ⟨g, rfl, hg⟩ _
  have ig := imm_pay g
  rw [cPy] at ig
  simp -dsimp -implicitDefEqProofs [-getElem?_pos, go_sem, hP, cPy]
  refine callB_isQ (up (gpay_pf p src)) hP en_11 (by simp [imm_sc]) PayQ_ex ?_
  rintro r ⟨v, rfl, hv⟩ _
  have ivv := imm_pay v
  rw [cPy] at ivv
  have ad1 := badd_pf q g hf
  obtain ⟨a, ha⟩ : ∃ a, a = (addQ q g).1 := ⟨_, rfl⟩
  obtain ⟨e, he⟩ : ∃ e, e = (addQ q g).2 := ⟨_, rfl⟩
  have h1 : addQ q g = (a, e) := by rw [ha, he]
  have ia := imm_que a
  rw [h1] at ad1
  simp only [cQu, cPy, intsL] at ad1 ia
  simp -dsimp -implicitDefEqProofs [-getElem?_pos, go_sem, hP, cPy]
  refine callB_is (ad1.lift _ _) hP en_12 (by simp; exact ⟨iq, ig⟩) (imm_pair ia .sc) ?_
  by_cases c1 : e = 0
  rotate_left
  · have d1 : decide (e = 0) = false := decide_eq_false c1
    simp -dsimp -implicitDefEqProofs [-getElem?_pos, go_sem, hP, c1, d1]
    refine saneB ?_
    simp -dsimp -implicitDefEqProofs [-getElem?_pos, go_sem, hP]
  subst c1
  have oa := addQ_ok h1
  have fa := oa.2.2.2.2.2.2.fit
  have dr := bdrop_pf a g.Warrant fa
  rw [drop_add h1] at dr
  have iad := imm_que ⟨q.Waiting, a.Known, a.Batches⟩
  simp only [cQu, intsL] at dr iad
  have ipq := imm_pays q.Waiting
  have lw := hf.w
  simp -dsimp -implicitDefEqProofs [-getElem?_pos, go_sem, hP]
  refine callB_is (dr.lift _ _) hP en_23 (by simp [imm_sc]; exact ia) (imm_pair iad .sc) ?_
  simp -dsimp -implicitDefEqProofs [-getElem?_pos, go_sem, hP]
  refine callB_is ((listEq_pf_pays25 q.Waiting q.Waiting lw lw).lift _ _) hP en_22 (by simp [ipq]) .sc ?_
  have ad2 := badd_pf a v fa
  obtain ⟨c, hc⟩ : ∃ c, c = (addQ a v).1 := ⟨_, rfl⟩
  obtain ⟨e2, he2⟩ : ∃ e, e = (addQ a v).2 := ⟨_, rfl⟩
  have h2 : addQ a v = (c, e2) := by rw [hc, he2]
  have ic := imm_que c
  rw [h2] at ad2
  simp only [cQu, cPy, intsL] at ad2 ic
  simp -dsimp -implicitDefEqProofs [-getElem?_pos, go_sem, hP]
  refine callB_is (ad2.lift _ _) hP en_12 (by simp; exact ⟨ia, ivv⟩) (imm_pair ic .sc) ?_
  have ad3 := badd_pf q v hf
  obtain ⟨d, hd⟩ : ∃ d, d = (addQ q v).1 := ⟨_, rfl⟩
  obtain ⟨e3, he3⟩ : ∃ e, e = (addQ q v).2 := ⟨_, rfl⟩
  have h3 : addQ q v = (d, e3) := by rw [hd, he3]
  have id' := imm_que d
  rw [h3] at ad3
  simp only [cQu, cPy, intsL] at ad3 id'
  simp -dsimp -implicitDefEqProofs [-getElem?_pos, go_sem, hP]
  refine callB_is (ad3.lift _ _) hP en_12 (by simp; exact ⟨iq, ivv⟩) (imm_pair id' .sc) ?_
  by_cases c2 : e2 = 0
  rotate_left
  · have d2 : decide (e2 = 0) = false := decide_eq_false c2
    simp -dsimp -implicitDefEqProofs [-getElem?_pos, go_sem, hP, c2, d2]
    refine saneB ?_
    simp -dsimp -implicitDefEqProofs [-getElem?_pos, go_sem, hP]
  by_cases c3 : e3 = 0
  rotate_left
  · have d2 : decide (e2 = 0) = true := decide_eq_true c2
    have d3 : decide (e3 = 0) = false := decide_eq_false c3
    simp -dsimp -implicitDefEqProofs [-getElem?_pos, go_sem, hP, d2, c2, c3, d3]
    refine saneB ?_
    simp -dsimp -implicitDefEqProofs [-getElem?_pos, go_sem, hP]
  subst c2
  subst c3
  have fd := (addQ_ok h3).2.2.2.2.2.2.fit
  have fc := (addQ_ok h2).2.2.2.2.2.2.fit
  have ad4 := badd_pf d g fd
  rw [add_comm h1 h2 h3] at ad4
  have sm := same25_pf c c fc fc
  simp only [cQu, cPy, intsL, decide_true] at ad4 sm
  simp -dsimp -implicitDefEqProofs [-getElem?_pos, go_sem, hP]
  refine callB_is (ad4.lift _ _) hP en_12 (by simp; exact ⟨id', ig⟩) (imm_pair ic .sc) ?_
  simp -dsimp -implicitDefEqProofs [-getElem?_pos, go_sem, hP]
  refine callB_is (sm.lift _ _) hP en_24 (by simp; exact ic) .sc ?_
  simp -dsimp -implicitDefEqProofs [-getElem?_pos, go_sem, hP]
  refine saneB ?_
  simp -dsimp -implicitDefEqProofs [-getElem?_pos, go_sem, hP]
end Go.Proofs.Ytmpncdlhmknkoaa
