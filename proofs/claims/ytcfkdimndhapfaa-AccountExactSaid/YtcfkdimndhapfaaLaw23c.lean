/- AccountBent: the walk. -/
import Derived.Test.YtcfkdimndhapfaaLaw23b
set_option linter.unusedSimpArgs false
set_option linter.unusedVariables false
namespace Go.Proofs.Ytcfkdimndhapfaa
open Go.PA
open Go.RowKit

set_option maxHeartbeats 1000000 in
theorem bent_law_pf (xs : List Int) (hx : Small xs) (hl : xs.length ≤ 9223372036854775807) :
    PFun Try.prog none none 3 [intsL xs] (· = bv true) := by
  refine pfun_introA Try.func3 rfl (by simp [Try.f3]) ?_
  intro E hP hr hs hW hN
  refine awp_cut (by rw [hN]; kernel_rfl) ?_
  simp [go_sem, hP]
  refine awp_cut (by rw [hN]; kernel_rfl) ?_
  simp [go_sem, hP]
  have hnew : POwn Try.prog E.row E.src 13 [intsL xs] 76 2 (· = [[intsL (xs.take 900), iv 0]]) := by rw [hr, hs]; exact new_pf xs hl
  refine callB_own hnew hP en_13 (args_same (by simp [go_sem, intsL])) (by simp [srefs_imm, go_sem, intsL]) ⟨_, rfl⟩ ?_
  rintro es rfl
  simp [go_sem, hP]
  refine awp_adopt 3 (ty := 76) (xs := xs.take 900) (at_ := 0) hr hs hW (by simp [go_sem]) (by simp [go_sem, intsL]) (by omega) (by simp; omega) (fun x hx' => hx x (List.mem_of_mem_take hx')) (by rw [hN]; kernel_rfl) ?_
  intro E' p hP' hr' hN' hW'
  rw [hP] at hP'
  rw [hN] at hN'
  clear hnew hP hr hs hW hN E
  rename Env => E
  rename E.P = _ => hP
  rename E.row = _ => hr
  rename E.N = _ => hN
  rename (∀ b, ¬ E.W b) => hW
  obtain ⟨src, hs⟩ : ∃ src, E.src = src := ⟨_, rfl⟩
  have up : ∀ {f : FuncId} {args : List AV} {Q : AV → Prop}, PFun Try.prog (some p) src f args Q → PFun Try.prog E.row E.src f args Q := fun h => hr ▸ hs ▸ h

  simp -dsimp -implicitDefEqProofs [-getElem?_pos, go_sem, hP]
  refine callB_isQ (up (account_pf p src 10 (by omega))) hP en_14 (by simp [go_sem]) (gen_ex 10) ?_
  rintro r ⟨a, rfl, hg⟩ _
  obtain ⟨n1, n2⟩ := gen_nums hg (by omega)
  have hsl := hg.slen
  have hel := hg.len
  have ia : Imm (.agg [iv a.Credit, subsL a.Subs, entsL a.Entries]) := imm_acc a
  have c0 : (a.Subs.length : Int) ≤ 9223372036854775807 := by omega
  simp -dsimp -implicitDefEqProofs [-getElem?_pos, go_sem, hP, cA]
  refine ⟨by omega, by omega, ?_⟩
  refine adrawB (fun _ => true) [16] hP (by kernel_rfl) (by kernel_rfl) ?_
  simp -dsimp -implicitDefEqProofs [-getElem?_pos, go_sem, hP]
  refine callB_flat (up (N_pf p src a.Subs.length (by omega))) hP en_15 (args_same (by simp -dsimp -implicitDefEqProofs [-getElem?_pos, go_sem])) (NQ_ex _) (NQ_flat _) ?_
  rintro r ⟨i, rfl, _, hi⟩
  have hi := hi (by omega)
  obtain ⟨i, rfl⟩ := Int.eq_ofNat_of_zero_le hi.1
  have hil : i < a.Subs.length := by omega
  obtain ⟨s, hs'⟩ : ∃ s, a.Subs[i]? = some s := ⟨_, List.getElem?_eq_getElem hil⟩
  have hlt : (i : Int) < a.Subs.length := by omega
  simp -dsimp -implicitDefEqProofs [-getElem?_pos, go_sem, hP, hlt, hs', TSub.cells]
  refine callB_flat (up (pick_pf p src [1, -1, 100] (by simp))) hP en_16 (by simp [go_sem, intsL]) ⟨iv 1, 1, rfl, by simp⟩ (by rintro r ⟨m, rfl, _⟩; exact .sc) ?_
  rintro r ⟨x, rfl, hx'⟩
  have hx' : (x = 1 ∨ x = -1 ∨ x = 100) := by simpa using hx'
  have sb := hg.bal s (List.mem_of_getElem? hs')
  have ws := wrap_in (s.Balance + x) (by omega)
  obtain ⟨l, hll⟩ : ∃ l, l = a.Subs.set i ⟨s.ID, s.Balance + x⟩ := ⟨_, rfl⟩
  have set1 : (encL TSub.cells a.Subs).set i [iv s.ID, iv (s.Balance + x)] = encL TSub.cells l := by
    rw [hll, ← encL_set]
    rfl
  have lids : ids l = ids a.Subs := by
    apply List.ext_getElem?
    intro j
    rw [ids_get, ids_get, hll, List.getElem?_set]
    by_cases h : i = j
    · subst h
      rw [if_pos rfl, if_pos hil, hs']
      rfl
    · rw [if_neg h]
  have lne : l ≠ a.Subs := fun h => by
    have h1 : l[i]? = some ⟨s.ID, s.Balance + x⟩ := by rw [hll, List.getElem?_set_self hil]
    rw [h, hs'] at h1
    have := congrArg TSub.Balance (Option.some.inj h1)
    dsimp only at this
    omega
  have llen : l.length = a.Subs.length := by rw [hll]; simp
  have ckb := check_pf ⟨a.Credit, l, a.Entries⟩ (by dsimp only; omega) n2
  rw [bent_sub hg.ok lids lne] at ckb
  simp -dsimp -implicitDefEqProofs [-getElem?_pos, go_sem, hP, hlt, hs', TSub.cells, ws, set1]
  refine callB_pure ckb hP en_17 (args_agg (cw_sc (cw_sref rfl (by simp [encL, llen]) (imm_subs _) (cw_imm (imm_ents _) .nil))) (args_nil.2 trivial)) .sc ?_
  by_cases hz : a.Entries.length = 0
  · simp -dsimp -implicitDefEqProofs [-getElem?_pos, go_sem, hP, hz]
    refine callB_pure sane23_pf hP en_18 (args_nil.2 trivial) .sc ?_
    simp -dsimp -implicitDefEqProofs [-getElem?_pos, go_sem, hP]
  have dz : ¬ a.Entries = [] := fun h => hz (by rw [h]; rfl)
  simp -dsimp -implicitDefEqProofs [-getElem?_pos, go_sem, hP, dz]
  refine ⟨by omega, by omega, ?_⟩
  refine adrawB (fun _ => true) [13] hP (by kernel_rfl) (by kernel_rfl) ?_
  simp -dsimp -implicitDefEqProofs [-getElem?_pos, go_sem, hP]
  refine callB_flat (up (N_pf p src a.Entries.length (by omega))) hP en_15 (args_same (by simp -dsimp -implicitDefEqProofs [-getElem?_pos, go_sem])) (NQ_ex _) (NQ_flat _) ?_
  rintro r ⟨j, rfl, _, hj⟩
  have hj := hj (by omega)
  obtain ⟨j, rfl⟩ := Int.eq_ofNat_of_zero_le hj.1
  have hjl : j < a.Entries.length := by omega
  obtain ⟨e, he⟩ : ∃ e, a.Entries[j]? = some e := ⟨_, List.getElem?_eq_getElem hjl⟩
  have hjt : (j : Int) < a.Entries.length := by omega
  have hsm := hg.small e (List.mem_of_getElem? he)
  have hpo := (check_mem hg.ok e (List.mem_of_getElem? he)).1
  have we := wrap_in (e.Amount + 1) (by omega)
  obtain ⟨es, hes⟩ : ∃ es, es = a.Entries.set j ⟨e.Number, e.Day, e.From, e.To, e.Amount + 1, e.Ref⟩ := ⟨_, rfl⟩
  have set2 : (encL TEntry.cells a.Entries).set j [iv e.Number, iv e.Day, iv e.From, iv e.To, iv (e.Amount + 1), iv e.Ref] = encL TEntry.cells es := by
    rw [hes, ← encL_set]
    rfl
  have elen : es.length = a.Entries.length := by rw [hes]; simp
  have be := bent_entry hg.ok he
  rw [← hes] at be
  have ckc := check_pf ⟨a.Credit, a.Subs, es⟩ n1 (by dsimp only; omega)
  have ttc := total_pf ⟨a.Credit, a.Subs, es⟩ n1 (by dsimp only; omega)
  rw [be] at ckc
  rw [total_bad be] at ttc
  simp -dsimp -implicitDefEqProofs [-getElem?_pos, go_sem, hP, hjt, he, TEntry.cells, we, set2]
  refine callB_pure ckc hP en_17 (args_agg (cw_sc (cw_imm (imm_subs _) (cw_sref rfl (by simp [encL, elen]) (imm_ents _) .nil))) (args_nil.2 trivial)) .sc ?_
  simp -dsimp -implicitDefEqProofs [-getElem?_pos, go_sem, hP]
  refine callB_pure ttc hP en_19 (args_agg (cw_sc (cw_imm (imm_subs _) (cw_sref rfl (by simp [encL, elen]) (imm_ents _) .nil))) (args_nil.2 trivial)) .sc ?_
  simp -dsimp -implicitDefEqProofs [-getElem?_pos, go_sem, hP]
  refine callB_pure sane23_pf hP en_18 (args_nil.2 trivial) .sc ?_
  simp -dsimp -implicitDefEqProofs [-getElem?_pos, go_sem, hP]
end Go.Proofs.Ytcfkdimndhapfaa
