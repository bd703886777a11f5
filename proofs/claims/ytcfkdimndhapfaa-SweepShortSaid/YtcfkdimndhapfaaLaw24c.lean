/- SweepShort: the walk. -/
import Derived.Test.YtcfkdimndhapfaaSwGen
set_option linter.unusedSimpArgs false
set_option linter.unusedVariables false
namespace Go.Proofs.Ytcfkdimndhapfaa
open Go.PA
open Go.RowKit

set_option maxHeartbeats 1000000 in
theorem sshort_law_pf (xs : List Int) (hx : Small xs) (hl : xs.length ≤ 9223372036854775807) :
    PFun Try.prog none none 10 [intsL xs] (· = bv true) := by
  refine pfun_introA Try.func10 rfl (by simp [Try.f10]) ?_
  intro E hP hr hs hW hN
  refine awp_cut (by rw [hN]; kernel_rfl) ?_
  simp [go_sem, hP]
  refine awp_cut (by rw [hN]; kernel_rfl) ?_
  simp [go_sem, hP]
  have hnew : POwn Try.prog E.row E.src 13 [intsL xs] 76 2 (· = [[intsL (xs.take 900), iv 0]]) := by rw [hr, hs]; exact new_pf xs hl
  refine callB_own hnew hP en_13 (args_same (by simp [go_sem, intsL])) (by simp [srefs_imm, go_sem, intsL]) ⟨_, rfl⟩ ?_
  rintro es rfl
  simp [go_sem, hP]
  refine awp_adopt 3 (ty := 76) (xs := xs.take 900) (at_ := 0) hr hs hW (by simp [go_sem]) (by simp [go_sem, intsL]) (by omega) (by simp; omega) (fun x hx' => hx x (List.mem_of_mem_take hx')) (by rw [hN]; kernel_rfl) ?_
  intro E' p hP' hr' hN' hW'
  rw [hP] at hP'
  rw [hN] at hN'
  clear hnew hP hr hs hW hN E
  rename Env => E
  rename E.P = _ => hP
  rename E.row = _ => hr
  rename E.N = _ => hN
  rename (∀ b, ¬ E.W b) => hW
  obtain ⟨src, hs⟩ : ∃ src, E.src = src := ⟨_, rfl⟩
  have up : ∀ {f : FuncId} {args : List AV} {Q : AV → Prop}, PFun Try.prog (some p) src f args Q → PFun Try.prog E.row E.src f args Q := fun h => hr ▸ hs ▸ h

  simp -dsimp -implicitDefEqProofs [-getElem?_pos, go_sem, hP]
  refine callB_isQ (up (account_pf p src 10 (by omega))) hP en_14 (by simp [go_sem]) (gen_ex 10) ?_
  rintro r ⟨a, rfl, hg⟩ _
  simp -dsimp -implicitDefEqProofs [-getElem?_pos, go_sem, hP]
  refine callB_isQ (up (keeps_pf p src)) hP en_41 (by simp [go_sem]) genk_ex ?_
  rintro r ⟨l, rfl, hk⟩ _
  have H := gen_SwH hg (by omega) hk
  obtain ⟨b, hb, ckA, hpl, hsw⟩ := sweep_all H
  have hll := hk.len
  have asl := hg.slen
  have ael := hg.len
  have bsl : b.Subs.length = 4 := by rw [← ids_len, hb.be.ids, hg.ids]; rfl
  have bel := (check_ok hb.be.ok).2.1
  have sw := ssweep_pf a l 50 (by omega) (by omega) (by omega)
  rw [hsw] at sw
  have sb := sshort_pf b l (by omega) (by omega) (by omega)
  have sa := sshort_pf a l (by omega) (by omega) (by omega)
  have bl := balance23_pf a 1 (by omega) (by omega)
  rw [balance_in H.ok H.one] at bl
  obtain ⟨f1, f2⟩ := hb.shortfall H
  have hents := hb.be.ents
  have hmem := check_mem hb.be.ok
  obtain ⟨es, hes⟩ : ∃ es, es = (GK a l 50 l.length).2 := ⟨_, rfl⟩
  rw [← hes] at f1 f2 hents
  have belen : b.Entries.length = a.Entries.length + es.length := by rw [hents]; simp
  have gb : ∀ k, 0 ≤ givenE (es.take k) ∧ givenE (es.take k) ≤ 1000000000000 * 400 := fun k => by
    have := sumE_bound (fun e => if e.From = 1 then e.Amount else 0) 1000000000000 (es.take k) fun e he => by
      have := hmem e (by rw [hents]; exact List.mem_append.2 (.inr (List.mem_of_mem_take he)))
      split <;> omega
    have h2 : (es.take k).length ≤ 400 := by rw [List.length_take]; omega
    unfold givenE
    omega
  have tb : ∀ k, 0 ≤ takenE (es.take k) ∧ takenE (es.take k) ≤ 1000000000000 * 400 := fun k => by
    have := sumE_bound (fun e => if e.From = 1 then 0 else e.Amount) 1000000000000 (es.take k) fun e he => by
      have := hmem e (by rw [hents]; exact List.mem_append.2 (.inr (List.mem_of_mem_take he)))
      split <;> omega
    have h2 : (es.take k).length ≤ 400 := by rw [List.length_take]; omega
    unfold takenE
    omega
  have hmain := hg.balI 1
  have kmA := keepsB_mem _ l 0 H.keeps
  have hsA := shortL_bound (balI a.Subs) (balI_bounds H.ok) l fun k hk => by have := kmA k hk; omega
  have hsA' : 0 ≤ shortA a l ∧ shortA a l ≤ 2000000000000 * 3 := by
    rw [shortA, if_pos ckA]
    omega
  obtain ⟨va, hva⟩ : ∃ v, v = shortA a l := ⟨_, rfl⟩
  obtain ⟨vb, hvb⟩ : ∃ v, v = shortA b l := ⟨_, rfl⟩
  obtain ⟨mn, hmn⟩ : ∃ v, v = balI a.Subs 1 := ⟨_, rfl⟩
  rw [← hva] at sa f1 hsA'
  rw [← hvb] at sb f1
  rw [← hmn] at bl f2 hmain
  rw [cA] at sw sb sa bl
  rw [cA] at sw
  have ia : Imm (.agg [iv a.Credit, subsL a.Subs, entsL a.Entries]) := imm_acc a
  have ib : Imm (.agg [iv b.Credit, subsL b.Subs, entsL b.Entries]) := imm_acc b
  have dl : decide (b.Entries.length < a.Entries.length) = false := decide_eq_false (by omega)
  have c1 : (0 : Int) ≤ (a.Entries.length : Int) ∧ (a.Entries.length : Int) ≤ (b.Entries.length : Int) := by omega
  have etk : (encL TEntry.cells b.Entries).drop a.Entries.length = encL TEntry.cells es := by
    rw [hents, ← encL_app]
    exact List.drop_left' (encL_len ..)
  have eln : (b.Entries.length : Int) - (a.Entries.length : Int) = (es.length : Int) := by omega
  clear hsw hes hva hvb hmn hsA kmA
  simp -dsimp -implicitDefEqProofs [-getElem?_pos, go_sem, hP, cA]
  refine callB_is (sw.lift _ _) hP en_45 (by simp [ia, imm_keeps, imm_sc]) (imm_pair ib .sc) ?_
  simp -dsimp -implicitDefEqProofs [-getElem?_pos, go_sem, hP, dl, asliceOp, bound, aslice, c1, etk]
  obtain ⟨I, hI⟩ : ∃ I : Nat → St → Prop, I = fun m s => ∃ k : Nat, k ≤ es.length ∧ m = es.length - k ∧ s.t 4 = .ref 1 0 0 ∧ s.t 5 = keepsL l ∧ s.t 6 = .ref 2 0 0 ∧ s.t 8 = iv (givenE (es.take k)) ∧ s.t 9 = iv (takenE (es.take k)) ∧ s.t 42 = entsL es ∧ s.t 43 = iv es.length ∧ s.t 44 = iv k ∧ s.H[1]? = some (some ⟨28, 3, [a.cells]⟩) ∧ s.H[2]? = some (some ⟨28, 3, [b.cells]⟩) := ⟨_, rfl⟩
  refine aloop0 I (es.length) (by rw [hN]; rfl) ?_ ?_
  · rw [hI]
    exact ⟨0, by omega, by omega, by simp -dsimp -implicitDefEqProofs [-getElem?_pos, go_sem], by simp -dsimp -implicitDefEqProofs [-getElem?_pos, go_sem], by simp -dsimp -implicitDefEqProofs [-getElem?_pos, go_sem], by simp -dsimp -implicitDefEqProofs [-getElem?_pos, go_sem, givenE, sumE], by simp -dsimp -implicitDefEqProofs [-getElem?_pos, go_sem, takenE, sumE], by simp -dsimp -implicitDefEqProofs [-getElem?_pos, go_sem], by simp -dsimp -implicitDefEqProofs [-getElem?_pos, go_sem], by simp -dsimp -implicitDefEqProofs [-getElem?_pos, go_sem], by simp -dsimp -implicitDefEqProofs [-getElem?_pos, go_sem, cA], by simp -dsimp -implicitDefEqProofs [-getElem?_pos, go_sem, cA]⟩
  intro m s hs'
  rw [hI] at hs'
  obtain ⟨k, hk, hm, t4, t5, t6, t8, t9, t42, t43, t44, h1, h2⟩ := hs'
  have lt1 := (List.getElem?_eq_some_iff.1 h1).1
  have lt2 := (List.getElem?_eq_some_iff.1 h2).1
  simp -dsimp -implicitDefEqProofs [-getElem?_pos, go_sem, hP, t43, t44]
  refine condP (fun h => ?_) (fun h => ?_)
  · have hk : k < es.length := by simpa using h
    obtain ⟨e, he⟩ : ∃ e, es[k]? = some e := ⟨_, List.getElem?_eq_getElem hk⟩
    have wk := wrap_in ((k : Int) + 1) (by omega)
    have g1 := gb (k + 1)
    have g2 := tb (k + 1)
    have e1 : givenE (es.take (k + 1)) = givenE (es.take k) + if e.From = 1 then e.Amount else 0 := by rw [take_snoc he, givenE_snoc]
    have e2 : takenE (es.take (k + 1)) = takenE (es.take k) + if e.From = 1 then 0 else e.Amount := by rw [take_snoc he, takenE_snoc]
    have fin : ∀ s' : St, s'.t 4 = s.t 4 → s'.t 5 = s.t 5 → s'.t 6 = s.t 6 → s'.t 8 = iv (givenE (es.take (k + 1))) → s'.t 9 = iv (takenE (es.take (k + 1))) → s'.t 42 = s.t 42 → s'.t 43 = s.t 43 → s'.t 44 = iv ((k : Int) + 1) → s'.H[1]? = s.H[1]? → s'.H[2]? = s.H[2]? → ∃ n', n' < m ∧ I n' s' := fun s' e4 e5 e6 e8 e9 e42 e43 e44 q1 q2 => by
      refine ⟨es.length - (k + 1), by omega, ?_⟩
      rw [hI]
      exact ⟨k + 1, by omega, rfl, by rw [e4, t4], by rw [e5, t5], by rw [e6, t6], e8, e9, by rw [e42, t42], by rw [e43, t43], by rw [e44]; simp, by rw [q1, h1], by rw [q2, h2]⟩
    by_cases c2 : e.From = 1
    · have d2 : decide (e.From = 1) = true := decide_eq_true c2
      rw [if_pos c2] at e1 e2
      have w1 := wrap_in (givenE (es.take k) + e.Amount) (by omega)
      simp -dsimp -implicitDefEqProofs [-getElem?_pos, go_sem, hP, t42, t44, he, TEntry.cells, d2, t8, w1, wk]
      exact fin _ (by simp -dsimp -implicitDefEqProofs [-getElem?_pos, go_sem]) (by simp -dsimp -implicitDefEqProofs [-getElem?_pos, go_sem]) (by simp -dsimp -implicitDefEqProofs [-getElem?_pos, go_sem]) (by simp -dsimp -implicitDefEqProofs [-getElem?_pos, go_sem, e1]) (by simp -dsimp -implicitDefEqProofs [-getElem?_pos, go_sem, t9, e2]) (by simp -dsimp -implicitDefEqProofs [-getElem?_pos, go_sem]) (by simp -dsimp -implicitDefEqProofs [-getElem?_pos, go_sem]) (by simp -dsimp -implicitDefEqProofs [-getElem?_pos, go_sem]) (by simp -dsimp -implicitDefEqProofs [-getElem?_pos, go_sem, lt1]) (by simp -dsimp -implicitDefEqProofs [-getElem?_pos, go_sem, lt2])
    · rw [if_neg c2] at e1 e2
      have w1 := wrap_in (takenE (es.take k) + e.Amount) (by omega)
      simp -dsimp -implicitDefEqProofs [-getElem?_pos, go_sem, hP, t42, t44, he, TEntry.cells, c2, t9, w1, wk]
      exact fin _ (by simp -dsimp -implicitDefEqProofs [-getElem?_pos, go_sem]) (by simp -dsimp -implicitDefEqProofs [-getElem?_pos, go_sem]) (by simp -dsimp -implicitDefEqProofs [-getElem?_pos, go_sem]) (by simp -dsimp -implicitDefEqProofs [-getElem?_pos, go_sem, t8, e1]) (by simp -dsimp -implicitDefEqProofs [-getElem?_pos, go_sem, e2]) (by simp -dsimp -implicitDefEqProofs [-getElem?_pos, go_sem]) (by simp -dsimp -implicitDefEqProofs [-getElem?_pos, go_sem]) (by simp -dsimp -implicitDefEqProofs [-getElem?_pos, go_sem]) (by simp -dsimp -implicitDefEqProofs [-getElem?_pos, go_sem, lt1]) (by simp -dsimp -implicitDefEqProofs [-getElem?_pos, go_sem, lt2])
  have hk : k = es.length := by simp at h; omega
  subst hk
  have g1 := gb es.length
  have g2 := tb es.length
  rw [List.take_length] at t8 t9 g1 g2
  have w1 := wrap_in (va - givenE es) (by omega)
  have w2 := wrap_in (mn + takenE es) (by omega)
  rw [← f1] at w1
  obtain ⟨G, hG⟩ : ∃ G, G = givenE es := ⟨_, rfl⟩
  obtain ⟨T, hT⟩ : ∃ T, T = takenE es := ⟨_, rfl⟩
  rw [← hG] at t8 f1 f2
  rw [← hT] at t9 f2 w2
  have d1 : decide (G ≤ max (mn + T) 0) = true := decide_eq_true f2
  have e3 : va - G = vb := f1.symm
  simp -dsimp -implicitDefEqProofs [-getElem?_pos, go_sem, hP, t4, h1, lt1, cA]
  refine callB_is (bl.lift _ _) hP en_36 (by simp [ia, imm_sc]) (imm_pair .sc .sc) ?_
  simp -dsimp -implicitDefEqProofs [-getElem?_pos, go_sem, hP]
  refine adrawB (fun _ => true) [] hP (by kernel_rfl) (by kernel_rfl) ?_
  simp -dsimp -implicitDefEqProofs [-getElem?_pos, go_sem, hP, t6, h2, lt2, cA, t5]
  refine callB_is (sb.lift _ _) hP en_46 (by simp [ib, imm_keeps]) .sc ?_
  simp -dsimp -implicitDefEqProofs [-getElem?_pos, go_sem, hP, t4, h1, lt1, cA, t5]
  refine callB_is (sa.lift _ _) hP en_46 (by simp [ia, imm_keeps]) .sc ?_
  simp -dsimp -implicitDefEqProofs [-getElem?_pos, go_sem, hP, t8, t9, e3, w1, w2, amax, amaxFrom, d1]
  refine callB_pure sane24_pf hP en_44 (args_nil.2 trivial) .sc ?_
  simp -dsimp -implicitDefEqProofs [-getElem?_pos, go_sem, hP]
end Go.Proofs.Ytcfkdimndhapfaa
