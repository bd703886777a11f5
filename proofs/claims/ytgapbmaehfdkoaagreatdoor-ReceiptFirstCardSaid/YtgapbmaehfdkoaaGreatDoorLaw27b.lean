/- ReceiptSums. -/
import Derived.Test.YtgapbmaehfdkoaaGreatDoorCashSane
set_option linter.unusedSimpArgs false
set_option linter.unusedVariables false
namespace Go.Proofs.YtgapbmaehfdkoaaGreatDoor
open Go.PA
open Go.RowKit

/-- An income at the end of generated cash is taken in. -/
theorem gen_take {n k : Nat} {d : Int} {c : TCash} (hg : GenC n k d c) (hk : n + k ≤ 40) {x : TIncome} (hx : incB x = true) (hn : 2 * (k : Int) < x.Number) (hd : d ≤ x.Day) : takeD c x = (taken c x, (taken c x).Matches.drop c.Matches.length, 0) := by
  have amt := incB_amount hx
  refine takeD_yes (hg.cash (by omega)) hx (by have := hg.num; omega) (by have := hg.day; omega) (by have := hg.inc; omega) ?_
  have := taken_pot hg.ok.pos (x := x) (by omega)
  have := hg.pot
  unfold pot at *
  omega
theorem gen_taken {n k : Nat} {d : Int} {c : TCash} (hg : GenC n k d c) (hk : n + k ≤ 40) {x : TIncome} (hx : incB x = true) (hn : 2 * (k : Int) < x.Number) (hd : d ≤ x.Day) : cashE (taken c x) = 0 ∧ FitC (taken c x) := by
  have amt := incB_amount hx
  have ok := taken_ok hg.ok hx (by have := hg.num; omega) (by have := hg.day; omega)
  have f := taken_fall hg.ok.pos (x := x) (by omega)
  have e := taken_inc hg.ok.pos (x := x) (by omega)
  have p := taken_pot hg.ok.pos (x := x) (by omega)
  have h1 := hg.cl
  have h2 := hg.inc
  have h3 := hg.pot
  have l1 : (taken c x).Claims.length ≤ n := by rw [f.cn]; exact h1
  have l2 : (taken c x).Incomes.length ≤ k + 1 := by rw [e, List.length_append, List.length_singleton]; omega
  have l3 : (taken c x).Matches.length ≤ n + k + 1 := by unfold pot at p h3; omega
  refine ⟨cashE_ok.2 ⟨⟨by omega, by omega, by omega⟩, ok⟩, by omega, by omega, by omega, by rw [ok.len]; omega, fun z hz => ?_⟩
  obtain ⟨j, hj⟩ := List.getElem?_of_mem hz
  obtain ⟨y, hy, _, _, ey⟩ := f.back hj
  rw [ey]
  have := hg.code y (List.mem_of_getElem? hy)
  simp only
  omega
theorem owedS_bounds : ∀ (l : List TClaim) (p : Int), (∀ x, x ∈ l → 0 ≤ x.Open ∧ x.Open ≤ 1000000000000) → 0 ≤ owedS l p ∧ owedS l p ≤ l.length * 1000000000000
  | [], p, _ => by simp [owedS]
  | x :: l, p, h => by
    have ih := owedS_bounds l p fun z hz => h z (List.mem_cons_of_mem _ hz)
    have := h x (List.mem_cons_self ..)
    rw [owedS_cons, List.length_cons]
    split <;> omega
theorem looseS_bounds : ∀ (xs : List TIncome) (ls : List Int) (p : Int), (∀ l, l ∈ ls → 0 ≤ l ∧ l ≤ 1000000000000) → 0 ≤ looseS xs ls p ∧ looseS xs ls p ≤ ls.length * 1000000000000
  | [], ls, p, _ => by
    have : looseS [] ls p = 0 := rfl
    omega
  | x :: xs, [], p, _ => by
    have : looseS (x :: xs) [] p = 0 := by simp [looseS]
    simp [this]
  | x :: xs, a :: ls, p, h => by
    have ih := looseS_bounds xs ls p fun z hz => h z (List.mem_cons_of_mem _ hz)
    have := h a (List.mem_cons_self ..)
    rw [looseS_cons, List.length_cons]
    split <;> omega
theorem cash_owed {c : TCash} (h : cashE c = 0) (p : Int) : 0 ≤ owedS c.Claims p ∧ owedS c.Claims p ≤ 60000000000000 := by
  have ok := cashE_ok.1 h
  have := owedS_bounds c.Claims p fun x hx => by
    have := payB_iff.1 (ok.2.pays.1 x hx)
    omega
  omega
theorem cash_loose {c : TCash} (h : cashE c = 0) (p : Int) : 0 ≤ looseS c.Incomes c.Loose p ∧ looseS c.Incomes c.Loose p ≤ 100000000000000 := by
  have ok := cashE_ok.1 h
  have := looseS_bounds c.Incomes c.Loose p fun l hl => by
    obtain ⟨i, hi⟩ := List.getElem?_of_mem hl
    have lt := (List.getElem?_eq_some_iff.1 hi).1
    rw [ok.2.len] at lt
    have ub := ok.2.used i _ l (List.getElem?_eq_getElem lt) hi
    have un := usedS_nonneg c.Matches c.Incomes[i].Number fun z hz => (ok.2.mates z hz).1
    have yb := (incB_amount (ok.2.incs.1 _ (List.getElem_mem lt))).2
    omega
  have := ok.2.len
  omega
theorem amounts_bounds (ms : List TMatch) (h : ∀ m, m ∈ ms → 0 ≤ m.Amount ∧ m.Amount ≤ 1000000000000) : 0 ≤ amounts ms ∧ amounts ms ≤ ms.length * 1000000000000 := by
  induction ms with
  | nil => simp [amounts]
  | cons m ms ih =>
    have ih := ih fun z hz => h z (List.mem_cons_of_mem _ hz)
    have := h m (List.mem_cons_self ..)
    unfold amounts at ih ⊢
    rw [List.map_cons, List.sum_cons, List.length_cons]
    omega
set_option maxHeartbeats 4000000 in
set_option maxRecDepth 8000 in
theorem sums27_pf (xs : List Int) (hx : Small xs) (hl : xs.length ≤ 9223372036854775807) : PFun Tryz.prog none none 4 [intsL xs] (· = bv true) := by
  refine pfun_introA Tryz.func4 rfl (by simp [Tryz.f4]) ?_
  intro E hP hr hs hW hN
  refine awp_cut (by rw [hN]; kernel_rfl) ?_
  simp [go_sem, hP]
  refine awp_cut (by rw [hN]; kernel_rfl) ?_
  simp [go_sem, hP]
  have hnew : POwn Tryz.prog E.row E.src 8 [intsL xs] 70 2 (· = [[intsL (xs.take 900), iv 0]]) := by rw [hr, hs]; exact new_pf xs hl
  refine callB_own hnew hP en_8 (args_same (by simp [go_sem, intsL])) (by simp [srefs_imm, go_sem, intsL]) ⟨_, rfl⟩ ?_
  rintro es rfl
  simp [go_sem, hP]
  refine awp_adopt 3 (ty := 70) (xs := xs.take 900) (at_ := 0) hr hs hW (by simp [go_sem]) (by simp [go_sem, intsL]) (by omega) (by simp; omega) (fun x hx' => hx x (List.mem_of_mem_take hx')) (by rw [hN]; kernel_rfl) ?_
  intro E' p hP' hr' hN' hW'
  rw [hP] at hP'
  rw [hN] at hN'
  clear hnew hP hr hs hW hN E
  rename Env => E
  rename E.P = _ => hP
  rename E.row = _ => hr
  rename E.N = _ => hN
  rename (∀ b, ¬ E.W b) => hW
  obtain ⟨src, hs⟩ : ∃ src, E.src = src := ⟨_, rfl⟩
  have up : ∀ {f : FuncId} {args : List AV} {Q : AV → Prop}, PFun Tryz.prog (some p) src f args Q → PFun Tryz.prog E.row E.src f args Q := fun h => hr ▸ hs ▸ h

  have saneB : ∀ {H : Heap} {C : AV → Heap → Prop} {b : Bx C}, C (bv true) H → CallB E 12 [] H C b := fun h => callB_pure sane27_pf hP en_12 (args_nil.2 trivial) .sc h
  simp -dsimp -implicitDefEqProofs [-getElem?_pos, go_sem, hP]
  refine callB_isQ (up (scash_pf p src 6 (by omega))) hP en_9 (by simp [go_sem]) (cashQ_ex 6) ?_
  rintro r ⟨c, k0, d0, rfl, hk0, hd0, hd1, hg⟩ _
  have c1 := hg.cash (by omega)
  have fit := hg.fit (by omega)
  have ic := imm_agg.2 c.imm
  rw [cCsh] at ic
  simp -dsimp -implicitDefEqProofs [-getElem?_pos, go_sem, hP, cCsh]
  refine callB_isQ (up (sincome_pf p src 40 60)) hP en_10 (by simp -dsimp -implicitDefEqProofs [-getElem?_pos, go_sem]) (incomeQ_ex _ _) ?_
  rintro r ⟨x, rfl, hx⟩ _
  obtain ⟨xb, xa1, xa2⟩ := hx.inc (by omega) (by omega)
  have xp := hx.2.2.1
  have ix := imm_agg.2 x.imm
  have tk := ctake_pf c x fit (by have := hg.cl; omega)
  rw [gen_take hg (by omega) xb (by rw [hx.1]; omega) (by rw [hx.2.1]; omega)] at tk
  obtain ⟨d1c, fit2⟩ := gen_taken hg (by omega) xb (by rw [hx.1]; omega) (by rw [hx.2.1]; omega)
  obtain ⟨new, hnew, hmem, hsum⟩ := taken_sums (c := c) (x := x) hg.ok.pos hg.ok.len (by omega)
  have edr : (taken c x).Matches.drop c.Matches.length = new := by rw [hnew, List.drop_left]
  have pos := (cashE_ok.1 d1c).2.mates
  have ln : new.length ≤ 160 := by
    have := (cashE_ok.1 d1c).1.2.2
    rw [hnew, List.length_append] at this
    omega
  have nb : ∀ m, m ∈ new → 0 ≤ m.Amount ∧ m.Amount ≤ 1000000000000 := fun m hm => by
    have h1 := (pos m (by rw [hnew]; exact List.mem_append_right _ hm)).1
    obtain ⟨k, z, hz, _, _, hz2⟩ := hmem m hm
    have := payB_iff.1 (hg.ok.pays.1 z (List.mem_of_getElem? hz))
    omega
  rw [edr] at tk
  obtain ⟨b, hb⟩ : ∃ b, b = taken c x := ⟨_, rfl⟩
  rw [← hb] at tk d1c fit2 hsum
  have ib := imm_agg.2 b.imm
  have im := imm_matches new
  rw [cCsh, cCsh, cIncm] at tk
  rw [cCsh] at ib
  rw [cIncm] at ix
  have oc := fun q => cowed_pf c q fit
  have ob := fun q => cowed_pf b q fit2
  have lc := fun q => cloose_pf c q fit
  have lb := fun q => cloose_pf b q fit2
  have ck := ccheck_pf b fit2
  rw [d1c] at ck
  simp only [owedD_eq c1, cCsh] at oc
  simp only [owedD_eq d1c, cCsh] at ob
  simp only [looseD_eq c1, cCsh] at lc
  simp only [looseD_eq d1c, cCsh] at lb
  rw [cCsh] at ck
  have bo := fun q => cash_owed c1 q
  have bo2 := fun q => cash_owed d1c q
  have bl := fun q => cash_loose c1 q
  have bl2 := fun q => cash_loose d1c q
  obtain ⟨oC, hoC⟩ : ∃ f : Int → Int, f = owedS c.Claims := ⟨_, rfl⟩
  obtain ⟨oB, hoB⟩ : ∃ f : Int → Int, f = owedS b.Claims := ⟨_, rfl⟩
  obtain ⟨lC, hlC⟩ : ∃ f : Int → Int, f = looseS c.Incomes c.Loose := ⟨_, rfl⟩
  obtain ⟨lB, hlB⟩ : ∃ f : Int → Int, f = looseS b.Incomes b.Loose := ⟨_, rfl⟩
  simp only [← hoC] at oc bo hsum
  simp only [← hoB] at ob bo2 hsum
  simp only [← hlC] at lc bl hsum
  simp only [← hlB] at lb bl2 hsum
  obtain ⟨O4, hO4⟩ : ∃ O : AObj, O = ⟨29, 4, [[claimsL c.Claims, incomesL c.Incomes, matchesL c.Matches, .list 1 (encL encI c.Loose)]]⟩ := ⟨_, rfl⟩
  obtain ⟨O5, hO5⟩ : ∃ O : AObj, O = ⟨32, 5, [[iv x.Number, iv x.Day, iv x.Payer, iv x.Amount, iv x.Claim]]⟩ := ⟨_, rfl⟩
  obtain ⟨O6, hO6⟩ : ∃ O : AObj, O = ⟨29, 4, [[claimsL b.Claims, incomesL b.Incomes, matchesL b.Matches, .list 1 (encL encI b.Loose)]]⟩ := ⟨_, rfl⟩
  simp -dsimp -implicitDefEqProofs [-getElem?_pos, go_sem, hP, cIncm]
  refine callB_is (tk.lift _ _) hP en_11 (by simpa using ⟨ic, ix⟩) (imm_trip ib im .sc) ?_
  simp -dsimp -implicitDefEqProofs [-getElem?_pos, go_sem, hP, encL_len]
  simp only [← hO4, ← hO5, ← hO6]
  obtain ⟨S, hS⟩ : ∃ S, S = amounts new := ⟨_, rfl⟩
  have bS := amounts_bounds new nb
  rw [← hS] at bS
  simp only [← hS] at hsum
  obtain ⟨I, hI⟩ : ∃ I : Nat → St → Prop, I = fun m s => ∃ (k : Nat), k ≤ new.length ∧ m = new.length - k ∧ s.t 4 = .ref 1 0 0 ∧ s.t 5 = .ref 2 0 0 ∧ s.t 6 = .ref 3 0 0 ∧ s.t 9 = iv (amounts (new.take k)) ∧ s.t 30 = matchesL new ∧ s.t 31 = iv new.length ∧ s.t 32 = iv k ∧ s.H[1]? = some (some O4) ∧ s.H[2]? = some (some O5) ∧ s.H[3]? = some (some O6) := ⟨_, rfl⟩
  refine aloop0 I (new.length) (by rw [hN]; rfl) ?_ ?_
  · rw [hI]
    exact ⟨0, by omega, by omega, by simp -dsimp -implicitDefEqProofs [-getElem?_pos, go_sem], by simp -dsimp -implicitDefEqProofs [-getElem?_pos, go_sem], by simp -dsimp -implicitDefEqProofs [-getElem?_pos, go_sem], by simp -dsimp -implicitDefEqProofs [-getElem?_pos, go_sem, amounts], by simp -dsimp -implicitDefEqProofs [-getElem?_pos, go_sem], by simp -dsimp -implicitDefEqProofs [-getElem?_pos, go_sem], by simp -dsimp -implicitDefEqProofs [-getElem?_pos, go_sem], by simp -dsimp -implicitDefEqProofs [-getElem?_pos, go_sem], by simp -dsimp -implicitDefEqProofs [-getElem?_pos, go_sem], by simp -dsimp -implicitDefEqProofs [-getElem?_pos, go_sem]⟩
  intro m s hs'
  rw [hI] at hs'
  obtain ⟨k, hk, hm, t4, t5, t6, t9, t30, t31, t32, h1, h2, h3⟩ := hs'
  have lt1 := (List.getElem?_eq_some_iff.1 h1).1
  have lt2 := (List.getElem?_eq_some_iff.1 h2).1
  have lt3 := (List.getElem?_eq_some_iff.1 h3).1
  simp -dsimp -implicitDefEqProofs [-getElem?_pos, go_sem, hP, t31, t32]
  refine condP (fun h => ?_) (fun h => ?_)
  · have hk : k < new.length := by simpa using h
    obtain ⟨q, hq⟩ : ∃ q, new[k]? = some q := ⟨_, List.getElem?_eq_getElem hk⟩
    have wk := wrap_in ((k : Int) + 1) (by omega)
    have ea : amounts (new.take (k + 1)) = amounts (new.take k) + q.Amount := by rw [take_snoc hq, amounts_snoc]
    have ba := amounts_bounds (new.take (k + 1)) fun z hz => nb z (List.mem_of_mem_take hz)
    have lk : (new.take (k + 1)).length ≤ 160 := by rw [List.length_take]; omega
    obtain ⟨A, hA⟩ : ∃ A, A = amounts (new.take k) := ⟨_, rfl⟩
    rw [ea] at ba
    rw [← hA] at t9 ea ba
    have wa := wrap_in (A + q.Amount) (by omega)
    simp -dsimp -implicitDefEqProofs [-getElem?_pos, go_sem, hP, t30, t32, hq, cMtc, t9, wa, wk]
    refine ⟨new.length - (k + 1), by omega, ?_⟩
    rw [hI]
    exact ⟨k + 1, by omega, rfl, by simp -dsimp -implicitDefEqProofs [-getElem?_pos, go_sem, t4], by simp -dsimp -implicitDefEqProofs [-getElem?_pos, go_sem, t5], by simp -dsimp -implicitDefEqProofs [-getElem?_pos, go_sem, t6], by simp -dsimp -implicitDefEqProofs [-getElem?_pos, go_sem, ea], by simp -dsimp -implicitDefEqProofs [-getElem?_pos, go_sem, t30], by simp -dsimp -implicitDefEqProofs [-getElem?_pos, go_sem, t31], by simp -dsimp -implicitDefEqProofs [-getElem?_pos, go_sem], by simp -dsimp -implicitDefEqProofs [-getElem?_pos, go_sem, lt1, h1], by simp -dsimp -implicitDefEqProofs [-getElem?_pos, go_sem, lt2, h2], by simp -dsimp -implicitDefEqProofs [-getElem?_pos, go_sem, lt3, h3]⟩
  have hk : k = new.length := by simp at h; omega
  subst hk
  rw [List.take_length, ← hS] at t9
  clear hI h t30 t31 t32
  simp -dsimp -implicitDefEqProofs [-getElem?_pos, go_sem, hP]
  obtain ⟨I, hI⟩ : ∃ I : Nat → St → Prop, I = fun m s => ∃ (q : Nat), q ≤ 3 ∧ m = 3 - q ∧ s.t 4 = .ref 1 0 0 ∧ s.t 5 = .ref 2 0 0 ∧ s.t 6 = .ref 3 0 0 ∧ s.t 9 = iv S ∧ s.t 12 = iv ((q : Int) + 1) ∧ s.H[1]? = some (some O4) ∧ s.H[2]? = some (some O5) ∧ s.H[3]? = some (some O6) := ⟨_, rfl⟩
  refine aloop0 I (3) (by rw [hN]; rfl) ?_ ?_
  · rw [hI]
    exact ⟨0, by omega, by omega, by simp -dsimp -implicitDefEqProofs [-getElem?_pos, go_sem, t4], by simp -dsimp -implicitDefEqProofs [-getElem?_pos, go_sem, t5], by simp -dsimp -implicitDefEqProofs [-getElem?_pos, go_sem, t6], by simp -dsimp -implicitDefEqProofs [-getElem?_pos, go_sem, t9], by simp -dsimp -implicitDefEqProofs [-getElem?_pos, go_sem], by simp -dsimp -implicitDefEqProofs [-getElem?_pos, go_sem, h1], by simp -dsimp -implicitDefEqProofs [-getElem?_pos, go_sem, h2], by simp -dsimp -implicitDefEqProofs [-getElem?_pos, go_sem, h3]⟩
  clear t4 t5 t6 t9 h1 h2 h3 lt1 lt2 lt3
  intro m s hs'
  rw [hI] at hs'
  obtain ⟨q, hq, hm, t4, t5, t6, t9, t12, h1, h2, h3⟩ := hs'
  have lt1 := (List.getElem?_eq_some_iff.1 h1).1
  have lt2 := (List.getElem?_eq_some_iff.1 h2).1
  have lt3 := (List.getElem?_eq_some_iff.1 h3).1
  simp -dsimp -implicitDefEqProofs [-getElem?_pos, go_sem, hP, t12]
  refine condP (fun h => ?_) (fun h => ?_)
  · have hq3 : q < 3 := by
      have : (q : Int) + 1 ≤ 3 := by simpa using h
      omega
    obtain ⟨v, hv⟩ : ∃ v : Int, v = (q : Int) + 1 := ⟨_, rfl⟩
    have wv := wrap_in (v + 1) (by omega)
    rw [← hv] at t12
    obtain ⟨s1, s2⟩ := hsum v
    have b1 := bo v
    have b2 := bo2 v
    have b3 := bl v
    have b4 := bl2 v
    have w1 := wrap_in (oC v - oB v) (by omega)
    have w2 := wrap_in (lB v - lC v) (by omega)
    have w3 := wrap_in (x.Amount - S) (by omega)
    simp -dsimp -implicitDefEqProofs [-getElem?_pos, go_sem, hP, t12]
    refine adrawB (fun _ => true) [] hP (by kernel_rfl) (by kernel_rfl) ?_
    simp -dsimp -implicitDefEqProofs [-getElem?_pos, go_sem, hP, t12, t4, t6, h1, h3, lt1, lt3, hO4, hO6]
    refine callB_pure (oc v) hP en_13 (args_same (by simpa [imm_sc] using ic)) .sc ?_
    simp -dsimp -implicitDefEqProofs [-getElem?_pos, go_sem, hP, t12, t4, t6, h1, h3, lt1, lt3, hO4, hO6]
    refine callB_pure (ob v) hP en_13 (args_same (by simpa [imm_sc] using ib)) .sc ?_
    simp -dsimp -implicitDefEqProofs [-getElem?_pos, go_sem, hP, t12, t4, t6, h1, h3, lt1, lt3, hO4, hO6, w1]
    refine callB_pure (lb v) hP en_14 (args_same (by simpa [imm_sc] using ib)) .sc ?_
    simp -dsimp -implicitDefEqProofs [-getElem?_pos, go_sem, hP, t12, t4, t6, h1, h3, lt1, lt3, hO4, hO6, w1]
    refine callB_pure (lc v) hP en_14 (args_same (by simpa [imm_sc] using ic)) .sc ?_
    have nxt : ∀ s' : St, s'.t 4 = .ref 1 0 0 → s'.t 5 = .ref 2 0 0 → s'.t 6 = .ref 3 0 0 → s'.t 9 = iv S → s'.t 12 = iv (v + 1) → s'.H[1]? = some (some O4) → s'.H[2]? = some (some O5) → s'.H[3]? = some (some O6) → ∃ m', m' < m ∧ I m' s' := fun s' a4 a5 a6 a9 a12 c1 c2 c3 => by
      refine ⟨3 - (q + 1), by omega, ?_⟩
      rw [hI]
      exact ⟨q + 1, by omega, rfl, a4, a5, a6, a9, by rw [a12, hv]; simp, c1, c2, c3⟩
    by_cases e : v = x.Payer
    · have ep : x.Payer = v := e.symm
      rw [if_pos ep] at s1 s2
      have f1 : oC v - oB v = S := by omega
      have f2 : lB v - lC v = x.Amount - S := by omega
      have ev : (v = x.Payer) = True := eq_true e
      rw [f1] at w1
      rw [f2] at w2
      simp -dsimp -implicitDefEqProofs [-getElem?_pos, go_sem, hP, w1, w2, t5, h2, lt2, hO5, ev, f1, t9, f2, w3, t12, wv]
      exact nxt _ (by simp -dsimp -implicitDefEqProofs [-getElem?_pos, go_sem, t4]) (by simp -dsimp -implicitDefEqProofs [-getElem?_pos, go_sem, t5]) (by simp -dsimp -implicitDefEqProofs [-getElem?_pos, go_sem, t6]) (by simp -dsimp -implicitDefEqProofs [-getElem?_pos, go_sem, t9]) (by simp -dsimp -implicitDefEqProofs [-getElem?_pos, go_sem]) (by simp -dsimp -implicitDefEqProofs [-getElem?_pos, go_sem, h1]) (by simp -dsimp -implicitDefEqProofs [-getElem?_pos, go_sem, h2]) (by simp -dsimp -implicitDefEqProofs [-getElem?_pos, go_sem, h3])
    · have ep : ¬ x.Payer = v := fun h => e h.symm
      rw [if_neg ep] at s1 s2
      have f1 : oC v - oB v = 0 := by omega
      have f2 : lB v - lC v = 0 := by omega
      have ev : (v = x.Payer) = False := eq_false e
      have w0 := wrap_in 0 (by omega)
      simp -dsimp -implicitDefEqProofs [-getElem?_pos, go_sem, hP, t5, h2, lt2, hO5, ev, f1, t9, f2, w0, t12, wv]
      exact nxt _ (by simp -dsimp -implicitDefEqProofs [-getElem?_pos, go_sem, t4]) (by simp -dsimp -implicitDefEqProofs [-getElem?_pos, go_sem, t5]) (by simp -dsimp -implicitDefEqProofs [-getElem?_pos, go_sem, t6]) (by simp -dsimp -implicitDefEqProofs [-getElem?_pos, go_sem, t9]) (by simp -dsimp -implicitDefEqProofs [-getElem?_pos, go_sem]) (by simp -dsimp -implicitDefEqProofs [-getElem?_pos, go_sem, h1]) (by simp -dsimp -implicitDefEqProofs [-getElem?_pos, go_sem, h2]) (by simp -dsimp -implicitDefEqProofs [-getElem?_pos, go_sem, h3])
  · have hq3 : q = 3 := by
      have : ¬ ((q : Int) + 1 ≤ 3) := by simpa using h
      omega
    simp -dsimp -implicitDefEqProofs [-getElem?_pos, go_sem, hP, t6, h3, lt3, hO6]
    refine callB_pure ck hP en_15 (args_same (by simpa using ib)) .sc ?_
    simp -dsimp -implicitDefEqProofs [-getElem?_pos, go_sem, hP]
    refine saneB ?_
    simp -dsimp -implicitDefEqProofs [-getElem?_pos, go_sem, hP]
end Go.Proofs.YtgapbmaehfdkoaaGreatDoor
