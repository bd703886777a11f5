/- ReceiptExact. -/
import Derived.Test.YtgapbmaehfdkoaaGreatDoorCashSane
import Derived.Test.YtgapbmaehfdkoaaGreatDoorCash16
set_option linter.unusedSimpArgs false
set_option linter.unusedVariables false
namespace Go.Proofs.YtgapbmaehfdkoaaGreatDoor
open Go.PA
open Go.RowKit

/-! ### What comes out is not too long -/
theorem noCash_fit : FitC noCash := ⟨by simp [noCash], by simp [noCash], by simp [noCash], by simp [noCash], fun x hx => by simp [noCash] at hx⟩
theorem fall_codeX {c d : TCash} (f : Fall c d) {n : Nat} (h : ∀ x, x ∈ c.Claims → x.Code.size ≤ n) : ∀ x, x ∈ d.Claims → x.Code.size ≤ n := fun z hz => by
  obtain ⟨j, hj⟩ := List.getElem?_of_mem hz
  obtain ⟨y, hy, _, _, ey⟩ := f.back hj
  rw [ey]
  exact h y (List.mem_of_getElem? hy)
theorem newD_fit {l : List TClaim} (hl : l.length ≤ 100) (hc : ∀ x, x ∈ l → x.Code.size ≤ 1000000) : FitC (newD l).1 := by
  unfold newD
  split
  · split
    · exact ⟨by simp only; omega, by simp, by simp, by simp, hc⟩
    · exact noCash_fit
  · exact noCash_fit
theorem addD_fit {c : TCash} {x : TClaim} (hf : FitC c) (hc : x.Code.size ≤ 1000000) : FitC (addD c x).1 := by
  unfold addD
  split
  rotate_left
  · exact noCash_fit
  rename_i h1
  split
  rotate_left
  · exact noCash_fit
  rename_i h2
  split
  rotate_left
  · exact noCash_fit
  rename_i h3
  split
  rotate_left
  · exact noCash_fit
  rename_i h4
  simp only [Bool.and_eq_true, decide_eq_true_eq, Option.isNone_iff_eq_none] at h2
  have ok := cashE_ok.1 h1
  have px := payB_iff.1 h2.1.1
  have f := added_fall ok.2.pos (x := x) (by omega)
  have aok := added_ok ok.2 h2.1.1 h2.1.2 h2.2
  have e : (added c x).Incomes = c.Incomes := f.inc
  have lc : (added c x).Claims.length = c.Claims.length + 1 := by
    rw [f.cn]
    have := insAt_le c.Claims x.ID
    unfold withC
    simp only [List.length_append, List.length_cons, List.length_take, List.length_drop]
    omega
  refine ⟨by simp only; omega, by simp only [e]; omega, by simp only; omega, by simp only [aok.len, e]; omega, fall_codeX f fun z hz => ?_⟩
  rcases withC_mem.1 hz with rfl | hz
  · exact hc
  · exact hf.code z hz
theorem takeD_fit {c : TCash} {x : TIncome} (hf : FitC c) : FitC (takeD c x).1 ∧ (takeD c x).2.1.length ≤ 1000 := by
  by_cases h : (takeD c x).2.2 = 0
  · obtain ⟨⟨h1, h2, h3, h4⟩, e⟩ := takeD_ok h
    have ok := cashE_ok.1 h1
    have amt := incB_amount h2
    have f := taken_fall ok.2.pos (x := x) (by omega)
    have tok := taken_ok ok.2 h2 h3 h4
    have ei := taken_inc ok.2.pos (x := x) (by omega)
    have p := taken_pot ok.2.pos (x := x) (by omega)
    have lp : pot c ≤ 160 + 60 + 100 := by
      have a1 : c.Claims.countP (fun x => decide (0 < x.Open)) ≤ c.Claims.length := List.countP_le_length
      have a2 : c.Loose.countP (fun l => decide (0 < l)) ≤ c.Loose.length := List.countP_le_length
      have := ok.2.len
      unfold pot
      omega
    have lm : (taken c x).Matches.length ≤ 400 := by
      unfold pot at p lp
      omega
    rw [e]
    have lc : (taken c x).Claims.length = c.Claims.length := f.cn
    have li : (taken c x).Incomes.length ≤ 101 := by rw [ei, List.length_append, List.length_singleton]; omega
    exact ⟨⟨by simp only; omega, by simp only; omega, by simp only; omega, by simp only [tok.len]; omega, fall_codeX f hf.code⟩, by simp only [List.length_drop]; omega⟩
  · have e : (takeD c x).1 = noCash ∧ (takeD c x).2.1 = [] := by
      unfold takeD at h ⊢
      split
      · rename_i h1
        rw [if_pos h1] at h
        split
        · rename_i h2
          rw [if_pos h2] at h
          split
          · rename_i h3
            rw [if_pos h3] at h
            split
            · rename_i h4
              rw [if_pos h4] at h
              split
              · rename_i h5
                rw [if_pos h5] at h
                split
                · rename_i h6
                  rw [if_pos h6] at h
                  exact absurd rfl h
                · exact ⟨rfl, rfl⟩
              · exact ⟨rfl, rfl⟩
            · exact ⟨rfl, rfl⟩
          · exact ⟨rfl, rfl⟩
        · exact ⟨rfl, rfl⟩
      · exact ⟨rfl, rfl⟩
    rw [e.1, e.2]
    exact ⟨noCash_fit, by simp⟩
theorem refundD_fit {c : TCash} {n : Int} (hf : FitC c) : FitC (refundD c n).1 := by
  unfold refundD
  split
  · cases incAt c.Incomes n with
    | none => exact noCash_fit
    | some i =>
      simp only
      split
      · exact noCash_fit
      · exact ⟨hf.fc, hf.fi, hf.fm, by simp only [List.length_set]; exact hf.fl, hf.code⟩
  · exact noCash_fit

/-! ### Small cash -/
def smallC (c : TCash) : Bool := (c.Claims.all fun x => decide (x.Code.size ≤ 30)) && decide (c.Claims.length ≤ 12 ∧ c.Incomes.length ≤ 12 ∧ c.Matches.length ≤ 20 ∧ c.Loose.length ≤ 15)
def Len64 (c : TCash) : Prop := c.Claims.length ≤ 9223372036854775807 ∧ c.Incomes.length ≤ 9223372036854775807 ∧ c.Matches.length ≤ 9223372036854775807 ∧ c.Loose.length ≤ 9223372036854775807
set_option maxHeartbeats 2000000 in
theorem small27_pf (c : TCash) (hl : Len64 c) : PFun Tryz.prog none none 19 [.agg c.cells] (· = bv (smallC c)) := by
  obtain ⟨l1, l2, l3, l4⟩ := hl
  refine pfun_intro Tryz.func19 rfl (by simp [Tryz.f19]) (by kernel_rfl) ?_
  intro E hP hr hs hW hN
  obtain ⟨O, hO⟩ : ∃ O : AObj, O = ⟨29, 4, [[claimsL c.Claims, incomesL c.Incomes, matchesL c.Matches, .list 1 (encL encI c.Loose)]]⟩ := ⟨_, rfl⟩
  simp -dsimp -implicitDefEqProofs [-getElem?_pos, go_sem, hP, cCsh]
  simp only [← hO]
  obtain ⟨I, hI⟩ : ∃ I : Nat → St → Prop, I = fun m s => ∃ k : Nat, k ≤ c.Claims.length ∧ m = c.Claims.length - k ∧ s.t 1 = .ref 0 0 0 ∧ s.t 6 = claimsL c.Claims ∧ s.t 7 = iv c.Claims.length ∧ s.t 8 = iv k ∧ s.H[0]? = some (some O) ∧ ∀ x, x ∈ c.Claims.take k → x.Code.size ≤ 30 := ⟨_, rfl⟩
  refine aloop0 I (c.Claims.length) (by rw [hN]; rfl) ?_ ?_
  · rw [hI]
    exact ⟨0, by omega, by omega, by simp -dsimp -implicitDefEqProofs [-getElem?_pos, go_sem], by simp -dsimp -implicitDefEqProofs [-getElem?_pos, go_sem], by simp -dsimp -implicitDefEqProofs [-getElem?_pos, go_sem, encL_len], by simp -dsimp -implicitDefEqProofs [-getElem?_pos, go_sem], by simp -dsimp -implicitDefEqProofs [-getElem?_pos, go_sem, hO], by simp⟩
  intro m s hs'
  rw [hI] at hs'
  obtain ⟨k, hk, hm, t1, t6, t7, t8, h0, hall⟩ := hs'
  subst hm
  have lt0 := (List.getElem?_eq_some_iff.1 h0).1
  simp -dsimp -implicitDefEqProofs [-getElem?_pos, go_sem, hP, t7, t8]
  refine condP (fun h => ?_) (fun h => ?_)
  · have hk : k < c.Claims.length := by simpa using h
    obtain ⟨x, hx⟩ : ∃ x, c.Claims[k]? = some x := ⟨_, List.getElem?_eq_getElem hk⟩
    have wk := wrap_in ((k : Int) + 1) (by omega)
    by_cases d : 30 < x.Code.size
    · have d' : decide ((30 : Int) < (x.Code.size : Int)) = true := decide_eq_true (by omega)
      have e : smallC c = false := by
        have : (c.Claims.all fun x => decide (x.Code.size ≤ 30)) = false := by
          rw [List.all_eq_false]
          exact ⟨x, List.mem_of_getElem? hx, by simpa using d⟩
        rw [smallC, this, Bool.false_and]
      simp -dsimp -implicitDefEqProofs [-getElem?_pos, go_sem, hP, t6, t8, hx, cClm, d', e]
    · have d' : decide ((30 : Int) < (x.Code.size : Int)) = false := decide_eq_false (by omega)
      simp -dsimp -implicitDefEqProofs [-getElem?_pos, go_sem, hP, t6, t8, hx, cClm, d', wk]
      refine ⟨c.Claims.length - (k + 1), by omega, ?_⟩
      rw [hI]
      refine ⟨k + 1, by omega, rfl, by simp -dsimp -implicitDefEqProofs [-getElem?_pos, go_sem, t1], by simp -dsimp -implicitDefEqProofs [-getElem?_pos, go_sem, t6], by simp -dsimp -implicitDefEqProofs [-getElem?_pos, go_sem, t7], by simp -dsimp -implicitDefEqProofs [-getElem?_pos, go_sem], by simp -dsimp -implicitDefEqProofs [-getElem?_pos, go_sem, lt0, h0], fun u hu => ?_⟩
      rw [take_snoc hx] at hu
      rcases List.mem_append.1 hu with hu | hu
      · exact hall u hu
      · rw [List.mem_singleton.1 hu]; omega
  · have hk : k = c.Claims.length := by
      have : ¬ k < c.Claims.length := by simpa using h
      omega
    subst hk
    rw [List.take_length] at hall
    have e : smallC c = decide (c.Claims.length ≤ 12 ∧ c.Incomes.length ≤ 12 ∧ c.Matches.length ≤ 20 ∧ c.Loose.length ≤ 15) := by
      have : (c.Claims.all fun x => decide (x.Code.size ≤ 30)) = true := List.all_eq_true.2 fun t ht => decide_eq_true (hall t ht)
      rw [smallC, this, Bool.true_and]
    obtain ⟨n1, hn1⟩ : ∃ n, n = c.Claims.length := ⟨_, rfl⟩
    obtain ⟨n2, hn2⟩ : ∃ n, n = c.Incomes.length := ⟨_, rfl⟩
    obtain ⟨n3, hn3⟩ : ∃ n, n = c.Matches.length := ⟨_, rfl⟩
    obtain ⟨n4, hn4⟩ : ∃ n, n = c.Loose.length := ⟨_, rfl⟩
    have q1 : (encL TClaim.cells c.Claims).length = n1 := by rw [encL_len, hn1]
    have q2 : (encL TIncome.cells c.Incomes).length = n2 := by rw [encL_len, hn2]
    have q3 : (encL TMatch.cells c.Matches).length = n3 := by rw [encL_len, hn3]
    have q4 : (encL encI c.Loose).length = n4 := by rw [encL_len, hn4]
    rw [← hn1, ← hn2, ← hn3, ← hn4] at e
    rw [e]
    by_cases c1 : (n1 : Int) ≤ 12
    rotate_left
    · have : ¬ n1 ≤ 12 := by omega
      simp -dsimp -implicitDefEqProofs [-getElem?_pos, go_sem, hP, t1, h0, lt0, hO, q1, c1, this]
    have d1 : n1 ≤ 12 := by omega
    by_cases c2 : (n2 : Int) ≤ 12
    rotate_left
    · have : ¬ n2 ≤ 12 := by omega
      simp -dsimp -implicitDefEqProofs [-getElem?_pos, go_sem, hP, t1, h0, lt0, hO, q1, q2, c1, c2, this]
    have d2 : n2 ≤ 12 := by omega
    by_cases c3 : (n3 : Int) ≤ 20
    rotate_left
    · have : ¬ n3 ≤ 20 := by omega
      simp -dsimp -implicitDefEqProofs [-getElem?_pos, go_sem, hP, t1, h0, lt0, hO, q1, q2, q3, c1, c2, c3, this]
    have d3 : n3 ≤ 20 := by omega
    by_cases c4 : (n4 : Int) ≤ 15
    · have d4 : n4 ≤ 15 := by omega
      simp -dsimp -implicitDefEqProofs [-getElem?_pos, go_sem, hP, t1, h0, lt0, hO, q1, q2, q3, q4, c1, c2, c3, c4, d1, d2, d3, d4]
    · have : ¬ n4 ≤ 15 := by omega
      simp -dsimp -implicitDefEqProofs [-getElem?_pos, go_sem, hP, t1, h0, lt0, hO, q1, q2, q3, q4, c1, c2, c3, c4, this]

/-! ### Cash of which one thing is changed -/
def BentC (c : TCash) (x : AV) : Prop := ∃ b : TCash, x = .agg b.cells ∧ FitC b ∧ b.Claims.length = c.Claims.length
theorem bentC_ex (c : TCash) (h : FitC c) : ∃ r, BentC c r ∧ Imm r := ⟨_, ⟨c, rfl, h, rfl⟩, imm_agg.2 c.imm⟩
theorem bent_claim {c : TCash} (h : FitC c) {j : Nat} {e : TClaim} (he : c.Claims[j]? = some e) (v : Int) : BentC c (.agg (TCash.mk (c.Claims.set j ⟨e.ID, e.Payer, e.Amount, v, e.Day, e.Code⟩) c.Incomes c.Matches c.Loose).cells) :=
  ⟨_, rfl, ⟨by simp only [List.length_set]; exact h.fc, h.fi, h.fm, h.fl, fun x hx => by
    rcases List.mem_or_eq_of_mem_set hx with hx | hx
    · exact h.code x hx
    · rw [hx]; exact h.code e (List.mem_of_getElem? he)⟩, by simp⟩
set_option maxHeartbeats 4000000 in
set_option maxRecDepth 8000 in
theorem bent27_pf (p : Nat) (src : Option Nat) (c : TCash) (hf : FitC c) (h3 : c.Matches.length ≤ 1000) (h4 : c.Loose.length ≤ 1000) : PFun Tryz.prog (some p) src 27 [sp p, .agg c.cells] (BentC c) := by
  refine pfun_intro Tryz.func27 rfl (by simp [Tryz.f27]) (by kernel_rfl) ?_
  intro E hP hr hs hW hN
  have up : ∀ {f : FuncId} {args : List AV} {Q : AV → Prop}, PFun Tryz.prog (some p) src f args Q → PFun Tryz.prog E.row E.src f args Q := fun h => hr ▸ hs ▸ h
  have i1 := imm_claims c.Claims
  have i2 := imm_incomes c.Incomes
  have i3 := imm_matches c.Matches
  have i4 : Imm (.list 1 (encL encI c.Loose)) := c.imm _ (by simp [cCsh])
  have f1 := hf.fc
  have f2 := hf.fi
  obtain ⟨nC, hnC⟩ : ∃ n, n = c.Claims.length := ⟨_, rfl⟩
  obtain ⟨nM, hnM⟩ : ∃ n, n = c.Matches.length := ⟨_, rfl⟩
  obtain ⟨nL, hnL⟩ : ∃ n, n = c.Loose.length := ⟨_, rfl⟩
  have q1 : (encL TClaim.cells c.Claims).length = nC := by rw [encL_len, hnC]
  have q3 : (encL TMatch.cells c.Matches).length = nM := by rw [encL_len, hnM]
  have q4 : (encL encI c.Loose).length = nL := by rw [encL_len, hnL]
  rw [← hnC] at f1
  rw [← hnM] at h3
  rw [← hnL] at h4
  simp -dsimp -implicitDefEqProofs [-getElem?_pos, go_sem, hP, cCsh, q1, q3, q4]
  refine ⟨by omega, by omega, by omega, by omega, by omega, by omega, ?_⟩
  refine callB_flat (up (N_pf p src 4 (by omega))) hP en_38 (args_same (by simp -dsimp -implicitDefEqProofs [-getElem?_pos, go_sem])) (NQ_ex _) (NQ_flat _) ?_
  rintro r ⟨z, rfl, _, hz⟩
  have hz := hz (by omega)
  obtain ⟨lC, hlC⟩ : ∃ l, l = encL TClaim.cells c.Claims := ⟨_, rfl⟩
  obtain ⟨lM, hlM⟩ : ∃ l, l = encL TMatch.cells c.Matches := ⟨_, rfl⟩
  obtain ⟨lL, hlL⟩ : ∃ l, l = encL encI c.Loose := ⟨_, rfl⟩
  have fin : ∀ {H : Heap} {b : TCash} {i j k x y z : Nat}, H[i]? = some (some ⟨38, 6, encL TClaim.cells b.Claims⟩) → H[j]? = some (some ⟨40, 3, encL TMatch.cells b.Matches⟩) → H[k]? = some (some ⟨3, 1, encL encI b.Loose⟩) → b.Incomes = c.Incomes → x = b.Claims.length → y = b.Matches.length → z = b.Loose.length → CW H [.sref i 0 x, incomesL c.Incomes, .sref j 0 y, .sref k 0 z] b.cells := fun {H b i j k x y z} g1 g2 g3 g4 g5 g6 g7 => by
    rw [cCsh, g4, g5, g6, g7]
    exact cw_sref g1 (by rw [encL_len]) (imm_claims _) (cw_imm i2 (cw_sref g2 (by rw [encL_len]) (imm_matches _) (cw_sref g3 (by rw [encL_len]) (b.imm _ (by simp [cCsh])) .nil)))
  by_cases z0 : z = 0
  · subst z0
    by_cases e0 : 0 < nC
    rotate_left
    · simp -dsimp -implicitDefEqProofs [-getElem?_pos, go_sem, hP, e0]
      exact done_agg (fin (b := c) (by simp -dsimp -implicitDefEqProofs [-getElem?_pos, go_sem]) (by simp -dsimp -implicitDefEqProofs [-getElem?_pos, go_sem]) (by simp -dsimp -implicitDefEqProofs [-getElem?_pos, go_sem]) rfl hnC hnM hnL) ⟨c, rfl, hf, rfl⟩
    simp -dsimp -implicitDefEqProofs [-getElem?_pos, go_sem, hP, e0]
    refine adrawB (fun _ => true) [13] hP (by kernel_rfl) (by kernel_rfl) ?_
    simp -dsimp -implicitDefEqProofs [-getElem?_pos, go_sem, hP]
    refine callB_flat (up (N_pf p src nC (by omega))) hP en_38 (args_same (by simp -dsimp -implicitDefEqProofs [-getElem?_pos, go_sem])) (NQ_ex _) (NQ_flat _) ?_
    rintro r ⟨j, rfl, _, hj⟩
    have hj := hj (by omega)
    obtain ⟨j, rfl⟩ := Int.eq_ofNat_of_zero_le hj.1
    have hjl : j < c.Claims.length := by omega
    have hjn : j < nC := by omega
    obtain ⟨e, he⟩ : ∃ e, c.Claims[j]? = some e := ⟨_, List.getElem?_eq_getElem hjl⟩
    have set2 : (encL TClaim.cells c.Claims).set j [iv e.ID, iv e.Payer, iv e.Amount, iv (IntKind.i64.wrap (e.Open + 1)), iv e.Day, .sc (.string e.Code)] = encL TClaim.cells (c.Claims.set j ⟨e.ID, e.Payer, e.Amount, IntKind.i64.wrap (e.Open + 1), e.Day, e.Code⟩) := by rw [← encL_set]; rfl
    simp -dsimp -implicitDefEqProofs [-getElem?_pos, go_sem, hP, hjn, he, cClm, set2]
    exact done_agg (fin (b := ⟨c.Claims.set j ⟨e.ID, e.Payer, e.Amount, IntKind.i64.wrap (e.Open + 1), e.Day, e.Code⟩, c.Incomes, c.Matches, c.Loose⟩) rfl rfl rfl rfl (by simp [hnC]) hnM hnL) (bent_claim hf he _)
  by_cases z1 : z = 1
  · subst z1
    by_cases e0 : 0 < nL
    rotate_left
    · simp -dsimp -implicitDefEqProofs [-getElem?_pos, go_sem, hP, e0]
      exact done_agg (fin (b := c) (by simp -dsimp -implicitDefEqProofs [-getElem?_pos, go_sem]) (by simp -dsimp -implicitDefEqProofs [-getElem?_pos, go_sem]) (by simp -dsimp -implicitDefEqProofs [-getElem?_pos, go_sem]) rfl hnC hnM hnL) ⟨c, rfl, hf, rfl⟩
    simp -dsimp -implicitDefEqProofs [-getElem?_pos, go_sem, hP, e0]
    refine adrawB (fun _ => true) [11] hP (by kernel_rfl) (by kernel_rfl) ?_
    simp -dsimp -implicitDefEqProofs [-getElem?_pos, go_sem, hP]
    refine callB_flat (up (N_pf p src nL (by omega))) hP en_38 (args_same (by simp -dsimp -implicitDefEqProofs [-getElem?_pos, go_sem])) (NQ_ex _) (NQ_flat _) ?_
    rintro r ⟨j, rfl, _, hj⟩
    have hj := hj (by omega)
    obtain ⟨j, rfl⟩ := Int.eq_ofNat_of_zero_le hj.1
    have hjl : j < c.Loose.length := by omega
    have hjn : j < nL := by omega
    obtain ⟨e, he⟩ : ∃ e, c.Loose[j]? = some e := ⟨_, List.getElem?_eq_getElem hjl⟩
    have set2 : (encL encI c.Loose).set j [iv (IntKind.i64.wrap (e - 1))] = encL encI (c.Loose.set j (IntKind.i64.wrap (e - 1))) := by rw [← encL_set]; rfl
    simp -dsimp -implicitDefEqProofs [-getElem?_pos, go_sem, hP, hjn, he, encI, set2]
    exact done_agg (fin (b := ⟨c.Claims, c.Incomes, c.Matches, c.Loose.set j (IntKind.i64.wrap (e - 1))⟩) rfl rfl rfl rfl hnC hnM (by simp [hnL])) ⟨_, rfl, ⟨hf.fc, hf.fi, hf.fm, by simp only [List.length_set]; exact hf.fl, hf.code⟩, rfl⟩
  by_cases z2 : z = 2
  · subst z2
    simp -dsimp -implicitDefEqProofs [-getElem?_pos, go_sem, hP]
    refine adrawB (fun _ => true) [11, 13] hP (by kernel_rfl) (by kernel_rfl) ?_
    simp -dsimp -implicitDefEqProofs [-getElem?_pos, go_sem, hP]
    refine callB_flat (up (range_pf p src 1 6 (by omega) (by omega))) hP en_24 (args_same (by simp -dsimp -implicitDefEqProofs [-getElem?_pos, go_sem])) ⟨iv 1, 1, rfl, by omega, by omega⟩ (by rintro r ⟨m, rfl, _⟩; exact .sc) ?_
    rintro r ⟨v1, rfl, _⟩
    simp -dsimp -implicitDefEqProofs [-getElem?_pos, go_sem, hP]
    refine callB_flat (up (range_pf p src 1 7 (by omega) (by omega))) hP en_24 (args_same (by simp -dsimp -implicitDefEqProofs [-getElem?_pos, go_sem])) ⟨iv 1, 1, rfl, by omega, by omega⟩ (by rintro r ⟨m, rfl, _⟩; exact .sc) ?_
    rintro r ⟨v2, rfl, _⟩
    simp -dsimp -implicitDefEqProofs [-getElem?_pos, go_sem, hP]
    refine callB_flat (up (pick_pf p src [0, 1, 5] (by simp))) hP en_25 (by simp [go_sem, intsL]) ⟨iv 0, 0, rfl, by simp⟩ (by rintro r ⟨m, rfl, _⟩; exact .sc) ?_
    rintro r ⟨v3, rfl, _⟩
    have app : encL TMatch.cells c.Matches ++ [[iv v1, iv v2, iv v3]] = encL TMatch.cells (c.Matches ++ [⟨v1, v2, v3⟩]) := encL_snoc TMatch.cells c.Matches ⟨v1, v2, v3⟩
    simp -dsimp -implicitDefEqProofs [-getElem?_pos, go_sem, hP, ← hnM, app]
    refine ⟨by omega, by omega, ?_⟩
    exact done_agg (fin (b := ⟨c.Claims, c.Incomes, c.Matches ++ [⟨v1, v2, v3⟩], c.Loose⟩) rfl rfl rfl rfl hnC (by simp [hnM]) hnL) ⟨_, rfl, ⟨hf.fc, hf.fi, by simp only [List.length_append, List.length_singleton]; omega, hf.fl, hf.code⟩, rfl⟩
  have app : encL encI c.Loose ++ [[iv 0]] = encL encI (c.Loose ++ [0]) := encL_snoc encI c.Loose 0
  simp -dsimp -implicitDefEqProofs [-getElem?_pos, go_sem, hP, z0, z1, z2, ← hnL, app]
  refine ⟨by omega, by omega, ?_⟩
  exact done_agg (fin (b := ⟨c.Claims, c.Incomes, c.Matches, c.Loose ++ [0]⟩) rfl rfl rfl rfl hnC hnM (by simp [hnL])) ⟨_, rfl, ⟨hf.fc, hf.fi, hf.fm, by simp only [List.length_append, List.length_singleton]; omega, hf.code⟩, rfl⟩
/-! ### The source's claims, the caller's own -/
set_option maxHeartbeats 2000000 in
theorem sclaims_m (p : Nat) (src : Option Nat) (n : Nat) (hn : n ≤ 100) (H : Heap) : MFun Tryz.prog (some p) src 20 [sp p, iv n] H (fun r H' => ∃ (id : Nat) (l : List TClaim), r = .sref id 0 l.length ∧ H.length ≤ id ∧ H'[id]? = some (some ⟨38, 6, encL TClaim.cells l⟩) ∧ l.length ≤ n ∧ GenCs l ∧ Kept [] H H') := by
  obtain ⟨C, hC⟩ : ∃ C : AV → Heap → Prop, C = fun r H' => ∃ (id : Nat) (l : List TClaim), r = .sref id 0 l.length ∧ H.length ≤ id ∧ H'[id]? = some (some ⟨38, 6, encL TClaim.cells l⟩) ∧ l.length ≤ n ∧ GenCs l ∧ Kept [] H H' := ⟨_, rfl⟩
  rw [← hC]
  have ex : ∃ r H', C r H' := by
    rw [hC]
    exact ⟨_, H ++ [some ⟨38, 6, []⟩], H.length, [], rfl, Nat.le_refl _, by simp [encL], by simp, fun i y h => by simp at h, kept_app _ _ _⟩
  refine mfun_intro Tryz.func20 rfl (by simp [Tryz.f20]) (by kernel_rfl) (ex) ?_
  intro E hP hr hs hN
  have up : ∀ {f : FuncId} {args : List AV} {Q : AV → Prop}, PFun Tryz.prog (some p) src f args Q → PFun Tryz.prog E.row E.src f args Q := fun h => hr ▸ hs ▸ h
  have w1 := wrap_in ((n : Int) + 1) (by omega)
  simp -dsimp -implicitDefEqProofs [-getElem?_pos, go_sem, hP, w1]
  refine callB_flat (up (N_pf p src ((n : Int) + 1) (by omega))) hP en_38 (args_same (by simp -dsimp -implicitDefEqProofs [-getElem?_pos, go_sem])) (NQ_ex _) (NQ_flat _) ?_
  rintro r ⟨z, rfl, _, hz⟩
  have hz := hz (by omega)
  obtain ⟨c, rfl⟩ : ∃ c : Nat, z = c := ⟨z.toNat, by omega⟩
  simp -dsimp -implicitDefEqProofs [-getElem?_pos, go_sem, hP]
  refine aloop_own 5 38 6 (by simp -dsimp -implicitDefEqProofs [-getElem?_pos, go_sem]) ?_
  obtain ⟨I, hI⟩ : ∃ I : Nat → St → Prop, I = fun m s => ∃ (id : Nat) (l : List TClaim), m ≤ c ∧ l.length + m = c ∧ GenCs l ∧ H.length ≤ id ∧ Kept [] H s.H ∧ s.t 0 = sp p ∧ s.t 5 = .sref id 0 l.length ∧ s.t 6 = iv m ∧ s.H[id]? = some (some ⟨38, 6, encL TClaim.cells l⟩) := ⟨_, rfl⟩
  refine aloop0 I (c) (by rw [hN]; rfl) ?_ ?_
  · rw [hI]
    exact ⟨H.length, [], by omega, by simp, fun i y h => by simp at h, by omega, kept_app _ _ _, by simp -dsimp -implicitDefEqProofs [-getElem?_pos, go_sem], by simp -dsimp -implicitDefEqProofs [-getElem?_pos, go_sem], by simp -dsimp -implicitDefEqProofs [-getElem?_pos, go_sem], by simp -dsimp -implicitDefEqProofs [-getElem?_pos, go_sem, encL]⟩
  intro m s hs'
  rw [hI] at hs'
  obtain ⟨id, l, hk, hl, hg, hid, hkp, t0, t5, t6, hH⟩ := hs'
  have ltH := (List.getElem?_eq_some_iff.1 hH).1
  simp -dsimp -implicitDefEqProofs [-getElem?_pos, go_sem, hP, t6]
  refine condP (fun h => ?_) (fun h => ?_)
  · have hm : 0 < m := by simpa using h
    have wm := wrap_in ((m : Int) - 1) (by omega)
    have w3 := wrap_in ((l.length : Int) * 3) (by omega)
    have w4 := wrap_in ((l.length : Int) * 3 + 1) (by omega)
    simp -dsimp -implicitDefEqProofs [-getElem?_pos, go_sem, hP, t5, t0, hH]
    refine callB_isQ (up (pick_pf p src [5, 10, 10, 100, 250] (by simp))) hP en_25 (by simp -dsimp -implicitDefEqProofs [-getElem?_pos, go_sem]) (picks_ex (by simp)) ?_
    rintro r ⟨m1, rfl, a1⟩ _
    simp -dsimp -implicitDefEqProofs [-getElem?_pos, go_sem, hP, t5, t0, hH, w3, w4, encL_len]
    refine callB_isQ (up (range_pf p src 1 3 (by omega) (by omega))) hP en_24 (by simp -dsimp -implicitDefEqProofs [-getElem?_pos, go_sem]) (ranges_ex _ _ (by omega)) ?_
    rintro r ⟨m2, rfl, a2, _⟩ _
    have a2 := a2 (by omega)
    simp -dsimp -implicitDefEqProofs [-getElem?_pos, go_sem, hP, t5, t0, hH]
    refine callB_isQ (up (N_pf p src 60 (by omega))) hP en_38 (by simp -dsimp -implicitDefEqProofs [-getElem?_pos, go_sem]) ⟨_, ⟨0, rfl, by omega, by omega⟩, .sc⟩ ?_
    rintro r ⟨m3, rfl, _, a3⟩ _
    have a3 := a3 (by omega)
    simp -dsimp -implicitDefEqProofs [-getElem?_pos, go_sem, hP, t5, t0, hH]
    refine callB_isQ (up (ccode_pf p src)) hP en_50 (by simp -dsimp -implicitDefEqProofs [-getElem?_pos, go_sem]) (strC_ex (by simp [codesC])) ?_
    rintro r ⟨b, rfl, hb⟩ _
    simp -dsimp -implicitDefEqProofs [-getElem?_pos, go_sem, hP, t5, t0, hH, ltH, encL_len, t6, wm]
    refine ⟨by omega, by omega, m - 1, by omega, ?_⟩
    rw [hI]
    refine ⟨s.H.length, l ++ [⟨(l.length : Int) * 3 + 1, m2, m1, m1, m3, b⟩], by omega, by simp; omega, ?_, by omega, ?_, by simp -dsimp -implicitDefEqProofs [-getElem?_pos, go_sem, t0], by simp -dsimp -implicitDefEqProofs [-getElem?_pos, go_sem], ?_, by simp -dsimp -implicitDefEqProofs [-getElem?_pos, go_sem, encL, cClm]⟩
    · intro i y hy
      by_cases e : i < l.length
      · rw [List.getElem?_append_left e] at hy
        exact hg i y hy
      · have lt := (List.getElem?_eq_some_iff.1 hy).1
        rw [List.length_append, List.length_singleton] at lt
        have ei : i = l.length := by omega
        subst ei
        rw [List.getElem?_append_right (Nat.le_refl _), Nat.sub_self] at hy
        cases hy
        exact ⟨by simp only; omega, a2, a1, rfl, a3, hb⟩
    · exact kept_push _ (kept_new _ hid hkp)
    · simp -dsimp -implicitDefEqProofs [-getElem?_pos, go_sem, hP]
      omega
  · have hm : m = 0 := by
      have : ¬ 0 < m := by simpa using h
      omega
    simp -dsimp -implicitDefEqProofs [-getElem?_pos, go_sem, hP, t5]
    rw [hC]
    exact ⟨id, l, rfl, hid, hH, by omega, hg, hkp⟩

/-! ### A list of the walk's own within a value is frozen -/
theorem weaker_frzV {E : Env} {s : St} (hW : ∀ b, ¬ E.W b) (j : Nat) {id : Nat} {o : AObj} {r : AV} (hview : view s.H (s.t j) = r) (hsr : ∀ x, x ∈ srefs (s.t j) → x = id) (ho : s.H[id]? = some (some o)) (hi : Imm r) :
    Weaker E s ⟨upd s.t j r, s.H.set id none⟩ := by
  rintro a w ⟨ρ, ok, g, hx, hd, hs, hr⟩
  obtain ⟨g', x'⟩ := g.kill id (fun b => ok b ∨ ∃ o c, s.H[id]? = some (some o) ∧ ρ id = some (b, c)) (fun _ h => .inl h) (fun b hb => hb.imp (fun h => h) fun ⟨o, c, h1, h2⟩ => ⟨o, c, h1, h2, hW b⟩)
  refine ⟨ρ, _, g', hx.trans x', hd, hs, fun i => ?_⟩
  simp only [upd]
  split
  · rename_i hij
    subst hij
    have hv := hr i
    have := view_soundX (fun x => x = id) g hv (by rw [hview]; exact hi) hsr
    rw [hview] at this
    refine this.imm (fun b hb => ?_) hi
    rcases hb with hb | ⟨x, o', c, rfl, h1, h2⟩
    · exact .inl hb
    · exact .inr ⟨o', c, h1, h2⟩
  · exact (hr i).ext x'

theorem aloop_frzV {E : Env} {c : Code} {s : St} {Q : Exit → St → Prop} {b : Bx (c, Q)} (hW : ∀ b, ¬ E.W b) (j : Nat) {id : Nat} {o : AObj} {r : AV} (hview : view s.H (s.t j) = r) (hsr : ∀ x, x ∈ srefs (s.t j) → x = id) (ho : s.H[id]? = some (some o)) (hi : Imm r)
    (hl : ALoop E c ⟨upd s.t j r, s.H.set id none⟩ Q .mk) : ALoop E c s Q b := AWp.weaken (weaker_frzV hW j hview hsr ho hi) hl

theorem three27 {k : Nat} (h : k < 3) : k = 0 ∨ k = 1 ∨ k = 2 := by omega
def cashOX (c : TCash) : AObj := ⟨29, 4, [[claimsL c.Claims, incomesL c.Incomes, matchesL c.Matches, .list 1 (encL encI c.Loose)]]⟩
def clmO (x : TClaim) : AObj := ⟨38, 6, [[iv x.ID, iv x.Payer, iv x.Amount, iv x.Open, iv x.Day, .sc (.string x.Code)]]⟩
theorem cash_immX (c : TCash) : Imm (.agg [claimsL c.Claims, incomesL c.Incomes, matchesL c.Matches, .list 1 (encL encI c.Loose)]) := by
  have := imm_agg.2 c.imm
  rwa [cCsh] at this
theorem clm_immX (x : TClaim) : Imm (.agg [iv x.ID, iv x.Payer, iv x.Amount, iv x.Open, iv x.Day, .sc (.string x.Code)]) := imm_agg.2 x.imm
theorem inc_immX (x : TIncome) : Imm (.agg [iv x.Number, iv x.Day, iv x.Payer, iv x.Amount, iv x.Claim]) := imm_agg.2 x.imm
set_option maxRecDepth 8000 in
set_option maxHeartbeats 16000000 in
theorem exact27_pf (xs : List Int) (raw : TCash) (x : TClaim) (y : TIncome) (n : Int) (hx : Small xs) (hl : xs.length ≤ 9223372036854775807) (hraw : Len64 raw) :
    PFun Tryz.prog none none 6 [intsL xs, .agg raw.cells, .agg x.cells, .agg y.cells, iv n] (· = bv true) := by
  refine pfun_introA Tryz.func6 rfl (by simp [Tryz.f6]) ?_
  intro E hP hr hs hW hN
  have ir := cash_immX raw
  have ix := clm_immX x
  have iy := inc_immX y
  have sm := small27_pf raw hraw
  rw [cCsh] at sm
  have irc := imm_agg.1 ir
  have ixc := imm_agg.1 ix
  have iyc := imm_agg.1 iy
  have saneB : ∀ {H : Heap} {C : AV → Heap → Prop} {b : Bx C}, C (bv true) H → CallB E 12 [] H C b := fun h => callB_pure sane27_pf hP en_12 (args_nil.2 trivial) .sc h
  obtain ⟨RC, hRC⟩ : ∃ RC, RC = [claimsL raw.Claims, incomesL raw.Incomes, matchesL raw.Matches, .list 1 (encL encI raw.Loose)] := ⟨_, rfl⟩
  obtain ⟨XC, hXC⟩ : ∃ XC, XC = [iv x.ID, iv x.Payer, iv x.Amount, iv x.Open, iv x.Day, .sc (.string x.Code)] := ⟨_, rfl⟩
  obtain ⟨YC, hYC⟩ : ∃ YC, YC = [iv y.Number, iv y.Day, iv y.Payer, iv y.Amount, iv y.Claim] := ⟨_, rfl⟩
  refine awp_cut (by rw [hN]; kernel_rfl) ?_
  simp -dsimp -implicitDefEqProofs [-getElem?_pos, go_sem, hP, cCsh, cClm, cIncm]
  refine AWp.weaken (weaker_iref 6 (id := 0) (cs := [claimsL raw.Claims, incomesL raw.Incomes, matchesL raw.Matches, .list 1 (encL encI raw.Loose)]) hW (by simp -dsimp -implicitDefEqProofs [-getElem?_pos, go_sem]) (by simp -dsimp -implicitDefEqProofs [-getElem?_pos, go_sem]) irc) ?_
  refine AWp.weaken (weaker_iref 7 (id := 1) (cs := [iv x.ID, iv x.Payer, iv x.Amount, iv x.Open, iv x.Day, .sc (.string x.Code)]) hW (by simp -dsimp -implicitDefEqProofs [-getElem?_pos, go_sem]) (by simp -dsimp -implicitDefEqProofs [-getElem?_pos, go_sem]) ixc) ?_
  refine AWp.weaken (weaker_iref 8 (id := 2) (cs := [iv y.Number, iv y.Day, iv y.Payer, iv y.Amount, iv y.Claim]) hW (by simp -dsimp -implicitDefEqProofs [-getElem?_pos, go_sem]) (by simp -dsimp -implicitDefEqProofs [-getElem?_pos, go_sem]) iyc) ?_
  refine awp_cut (by rw [hN]; kernel_rfl) ?_
  simp -dsimp -implicitDefEqProofs [-getElem?_pos, go_sem, hP]
  refine callB_is (sm.lift _ _) hP en_19 (by simpa using ir) .sc ?_
  cases hs1 : smallC raw
  · simp -dsimp -implicitDefEqProofs [-getElem?_pos, go_sem, hP]
    refine saneB ?_
    simp -dsimp -implicitDefEqProofs [-getElem?_pos, go_sem, hP]
  by_cases c2 : 30 < x.Code.size
  · have d2 : decide ((30 : Int) < (x.Code.size : Int)) = true := decide_eq_true (by omega)
    simp -dsimp -implicitDefEqProofs [-getElem?_pos, go_sem, hP, d2]
    refine saneB ?_
    simp -dsimp -implicitDefEqProofs [-getElem?_pos, go_sem, hP]
  have d2 : decide ((30 : Int) < (x.Code.size : Int)) = false := decide_eq_false (by omega)
  have sr : (∀ z, z ∈ raw.Claims → z.Code.size ≤ 30) ∧ raw.Claims.length ≤ 12 ∧ raw.Incomes.length ≤ 12 ∧ raw.Matches.length ≤ 20 ∧ raw.Loose.length ≤ 15 := by
    rw [smallC, Bool.and_eq_true, decide_eq_true_eq] at hs1
    refine ⟨fun z hz => ?_, hs1.2⟩
    have := List.all_eq_true.1 hs1.1 z hz
    simpa using this
  have hfr : FitC raw := ⟨by omega, by omega, by omega, by omega, fun z hz => by have := sr.1 z hz; omega⟩
  simp -dsimp -implicitDefEqProofs [-getElem?_pos, go_sem, hP, d2]
  refine awp_cut (by rw [hN]; kernel_rfl) ?_
  simp -dsimp -implicitDefEqProofs [-getElem?_pos, go_sem, hP]
  have hnew : POwn Tryz.prog E.row E.src 8 [intsL xs] 70 2 (· = [[intsL (xs.take 900), iv 0]]) := by rw [hr, hs]; exact new_pf xs hl
  refine callB_own hnew hP en_8 (args_same (by simp [go_sem, intsL])) (by simp [srefs_imm, go_sem, intsL]) ⟨_, rfl⟩ ?_
  rintro es rfl
  simp -dsimp -implicitDefEqProofs [-getElem?_pos, go_sem, hP]
  refine awp_adoptW 11 3 (ty := 70) (xs := xs.take 900) (at_ := 0) hr hs (by simp -dsimp -implicitDefEqProofs [-getElem?_pos, go_sem]) (by simp -dsimp -implicitDefEqProofs [-getElem?_pos, go_sem, intsL]) (by omega) (by simp; omega) (fun x hx' => hx x (List.mem_of_mem_take hx')) ?_
  intro E' p hP' hr' hN' hWx
  have hW' : ∀ b, ¬ E'.W b := fun b hb => by
    obtain ⟨id, o, ho⟩ := hWx b hb
    rcases id with _ | _ | _ | _ | id <;> simp at ho
  rw [hP] at hP'
  rw [hN] at hN'
  clear hnew hP hr hs hW hN saneB hWx E
  rename Env => E
  rename E.P = _ => hP
  rename E.row = _ => hr
  rename E.N = _ => hN
  rename (∀ b, ¬ E.W b) => hW
  obtain ⟨src, hs⟩ : ∃ src, E.src = src := ⟨_, rfl⟩
  have up : ∀ {f : FuncId} {args : List AV} {Q : AV → Prop}, PFun Tryz.prog (some p) src f args Q → PFun Tryz.prog E.row E.src f args Q := fun h => hr ▸ hs ▸ h
  have saneB : ∀ {H : Heap} {C : AV → Heap → Prop} {b : Bx C}, C (bv true) H → CallB E 12 [] H C b := fun h => callB_pure sane27_pf hP en_12 (args_nil.2 trivial) .sc h
  refine awp_cut (by rw [hN]; kernel_rfl) ?_
  simp -dsimp -implicitDefEqProofs [-getElem?_pos, go_sem, hP]
  refine callB_isQ (up (scash_pf p src 8 (by omega))) hP en_9 (by simp [imm_sc]) (cashQ_ex 8) ?_
  rintro r ⟨c, k0, d0, rfl, hk0, hd0, hd1, hg⟩ _
  have hf := hg.fit (by omega)
  have ic := cash_immX c
  simp -dsimp -implicitDefEqProofs [-getElem?_pos, go_sem, hP, cCsh]
  refine awp_cut (by rw [hN]; kernel_rfl) ?_
  simp -dsimp -implicitDefEqProofs [-getElem?_pos, go_sem, hP]
  refine adrawB (fun _ => false) [] hP (by kernel_rfl) (by kernel_rfl) ?_
  simp -dsimp -implicitDefEqProofs [-getElem?_pos, go_sem, hP]
  refine callB_isQ (up (sclaims_pf p src 5 (by omega))) hP en_20 (by simp [imm_sc]) (claimsQ_ex 5) ?_
  rintro r ⟨l1, rfl, hl1, hg1⟩ _
  simp -dsimp -implicitDefEqProofs [-getElem?_pos, go_sem, hP]
  refine callB_m (by rw [hr, hs]; exact sclaims_m p src 2 (by omega) _) hP en_20 ?_
  rintro r H' ⟨id2, l2, rfl, hid2, ho2, hl2, hg2, hk2⟩
  have h4 : H'[4]? = some (some (cashOX c)) := hk2 4 _ (by simp) (by simp [cashOX])
  have lt2 := (List.getElem?_eq_some_iff.1 ho2).1
  simp only [List.length_cons, List.length_nil] at hid2
  obtain ⟨L3, hL3⟩ : ∃ L3, L3 = l2 ++ [x] := ⟨_, rfl⟩
  have eo : encL TClaim.cells l2 ++ [[iv x.ID, iv x.Payer, iv x.Amount, iv x.Open, iv x.Day, .sc (.string x.Code)]] = encL TClaim.cells L3 := by rw [hL3]; exact encL_snoc TClaim.cells l2 x
  have l3 : l2.length + 1 = L3.length := by rw [hL3]; simp
  have cs : ∀ l : List TClaim, GenCs l → l.length ≤ 5 → ∀ z, z ∈ l → z.Code.size ≤ 1000000 := fun l h h5 z hz => by
    have := (h.new h5 (by omega)).2.code z hz
    omega
  have f1 : FitL l1 := ⟨by omega, cs l1 hg1 hl1⟩
  have f2 : FitL raw.Claims := ⟨by omega, hfr.code⟩
  have f3 : FitL L3 := ⟨by omega, fun z hz => by
    rw [hL3] at hz
    rcases List.mem_append.1 hz with hz | hz
    · exact cs l2 hg2 (by omega) z hz
    · rw [List.mem_singleton.1 hz]; omega⟩
  have i1 := imm_claims l1
  have i2 := imm_claims raw.Claims
  have i3 := imm_claims L3
  simp -dsimp -implicitDefEqProofs [-getElem?_pos, go_sem, hP, restr_get, ho2, lt2, encL_len, eo, l3]
  have ag0 : ∀ (X X' : Heap), Agree (fun _ => false) X X' := fun X X' i hi => by cases hi
  refine ⟨ag0 _ _, by omega, by omega, ag0 _ _, ?_⟩
  have hsr3 : ∀ z, z ∈ srefs (.agg [claimsL l1, claimsL raw.Claims, .sref H'.length 0 L3.length]) → z = H'.length := fun z hz => by
    have e1 := srefs1_imm i1
    have e2 := srefs1_imm i2
    simp only [srefs, srefs2, List.flatMap_cons, List.flatMap_nil, e1, e2] at hz
    simpa [srefs1] using hz
  refine aloop_frzV hW 67 (id := H'.length) (o := ⟨38, 6, encL TClaim.cells L3⟩) (r := .agg [claimsL l1, claimsL raw.Claims, claimsL L3]) ?_ ?_ ?_ (.agg fun a ha => ?_) ?_
  · simp -dsimp -implicitDefEqProofs [-getElem?_pos, go_sem, hP]
  · simp -dsimp -implicitDefEqProofs [-getElem?_pos, go_sem, hP]
  · simp -dsimp -implicitDefEqProofs [-getElem?_pos, go_sem, hP]
  · simp only [List.mem_cons, List.not_mem_nil, or_false] at ha
    rcases ha with rfl | rfl | rfl
    · exact i1
    · exact i2
    · exact i3
  have lt4 := (List.getElem?_eq_some_iff.1 h4).1
  have h4' : ((H'.set id2 none ++ [some (⟨38, 6, encL TClaim.cells L3⟩ : AObj)]).set H'.length none)[4]? = some (some (cashOX c)) := by
    rw [List.getElem?_set_ne (by omega), List.getElem?_append_left (by simp; omega), List.getElem?_set_ne (by omega)]
    exact h4
  have yA : ∀ k : Nat, k < 3 → ∃ L : List TClaim, FitL L ∧ L.length ≤ 100 ∧ aixV Tryz.prog 52 (.agg [claimsL l1, claimsL raw.Claims, claimsL L3]) (iv k) = some (claimsL L) := fun k hk => by
    rcases three27 hk with rfl | rfl | rfl
    · exact ⟨l1, f1, by omega, by kernel_rfl⟩
    · exact ⟨raw.Claims, f2, by omega, by kernel_rfl⟩
    · exact ⟨L3, f3, by omega, by kernel_rfl⟩
  obtain ⟨XA, hXA⟩ : ∃ XA : AV, XA = .agg [claimsL l1, claimsL raw.Claims, claimsL L3] := ⟨_, rfl⟩
  rw [← hXA] at yA
  obtain ⟨I, hI⟩ : ∃ I : Nat → St → Prop, I = fun m s => ∃ k : Nat, k ≤ 3 ∧ m = 3 - k ∧ s.t 4 = iv n ∧ s.t 6 = .iref RC ∧ s.t 7 = .iref XC ∧ s.t 8 = .iref YC ∧ s.t 11 = sp p ∧ s.t 12 = .ref 4 0 0 ∧ s.t 67 = XA ∧ s.t 68 = iv k ∧ s.H[4]? = some (some (cashOX c)) := ⟨_, rfl⟩
  refine aloop0 I (3) (by rw [hN]; rfl) ?_ ?_
  · rw [hI]
    exact ⟨0, by omega, by omega, by simp -dsimp -implicitDefEqProofs [-getElem?_pos, go_sem], by simp -dsimp -implicitDefEqProofs [-getElem?_pos, go_sem, hRC], by simp -dsimp -implicitDefEqProofs [-getElem?_pos, go_sem, hXC], by simp -dsimp -implicitDefEqProofs [-getElem?_pos, go_sem, hYC], by simp -dsimp -implicitDefEqProofs [-getElem?_pos, go_sem], by simp -dsimp -implicitDefEqProofs [-getElem?_pos, go_sem], by simp -dsimp -implicitDefEqProofs [-getElem?_pos, go_sem, hXA], by simp -dsimp -implicitDefEqProofs [-getElem?_pos, go_sem], h4'⟩
  clear hsr3 h4 h4' ho2 lt2 lt4 hk2
  intro m s hs'
  rw [hI] at hs'
  obtain ⟨k, hk, hm, t4, t6, t7, t8, t11, t12, t67, t68, h4⟩ := hs'
  subst hm
  have lt4 := (List.getElem?_eq_some_iff.1 h4).1
  simp -dsimp -implicitDefEqProofs [-getElem?_pos, go_sem, hP, t68]
  refine condP (fun hh => ?_) (fun hh => ?_)
  · have hk : k < 3 := by simp at hh; omega
    have wk := wrap_in ((k : Int) + 1) (by omega)
    obtain ⟨L, fL, lL, hix⟩ := yA k hk
    have k1 := cnew_pf L fL
    have k2 := crnew_pf L fL
    have iL := imm_claims L
    obtain ⟨X, hX⟩ : ∃ X, X = (newD L).1 := ⟨_, rfl⟩
    obtain ⟨e, he⟩ : ∃ e, e = (newD L).2 := ⟨_, rfl⟩
    have fX : FitC X := hX ▸ newD_fit lL fL.code
    have sX := same27_pf X X fX fX
    rw [← hX, ← he, cCsh] at k1 k2
    rw [cCsh] at sX
    rw [decide_eq_true (rfl : X = X)] at sX
    have iX := cash_immX X
    have nx4 : ∀ z : Heap, (s.H ++ z)[4]? = some (some (cashOX c)) := fun z => by rw [List.getElem?_append_left lt4]; exact h4
    simp -dsimp -implicitDefEqProofs [-getElem?_pos, go_sem, hP, t67, t68, hix]
    refine callB_is (k1.lift _ _) hP en_21 (by simpa using iL) (imm_pair iX .sc) ?_
    simp -dsimp -implicitDefEqProofs [-getElem?_pos, go_sem, hP]
    refine callB_is (k2.lift _ _) hP en_22 (by simpa using iL) (imm_pair iX .sc) ?_
    simp -dsimp -implicitDefEqProofs [-getElem?_pos, go_sem, hP]
    refine callB_is (sX.lift _ _) hP en_23 (by simpa using iX) .sc ?_
    simp -dsimp -implicitDefEqProofs [-getElem?_pos, go_sem, hP, t68, wk]
    refine ⟨3 - (k + 1), by omega, ?_⟩
    rw [hI]
    exact ⟨k + 1, by omega, rfl, by simp -dsimp -implicitDefEqProofs [-getElem?_pos, go_sem, t4], by simp -dsimp -implicitDefEqProofs [-getElem?_pos, go_sem, t6], by simp -dsimp -implicitDefEqProofs [-getElem?_pos, go_sem, t7], by simp -dsimp -implicitDefEqProofs [-getElem?_pos, go_sem, t8], by simp -dsimp -implicitDefEqProofs [-getElem?_pos, go_sem, t11], by simp -dsimp -implicitDefEqProofs [-getElem?_pos, go_sem, t12], by simp -dsimp -implicitDefEqProofs [-getElem?_pos, go_sem, t67], by simp -dsimp -implicitDefEqProofs [-getElem?_pos, go_sem], by simp -dsimp -implicitDefEqProofs [-getElem?_pos, go_sem, nx4]⟩
  clear hXA yA hI
  have k3 : k = 3 := by simp at hh; omega
  -- a claim that is new
  refine awp_sound _ _ _ (by rw [hN]; kernel_rfl) ?_
  simp -dsimp -implicitDefEqProofs [-getElem?_pos, go_sem, hP, t11]
  refine callB_isQ (up (rangeQ_pf p src 1 20 (by omega) (by omega))) hP en_24 (by simp [imm_sc]) (RQ_ex (by omega)) ?_
  rintro r ⟨v1, rfl, _⟩ _
  simp -dsimp -implicitDefEqProofs [-getElem?_pos, go_sem, hP, t11]
  refine callB_isQ (up (rangeQ_pf p src 1 3 (by omega) (by omega))) hP en_24 (by simp [imm_sc]) (RQ_ex (by omega)) ?_
  rintro r ⟨v2, rfl, _⟩ _
  simp -dsimp -implicitDefEqProofs [-getElem?_pos, go_sem, hP, t11]
  refine callB_isQ (up (pickQ_pf p src [30, 30, 29] (by simp))) hP en_25 (by simp [go_sem]) (PQ_ex (by simp)) ?_
  rintro r ⟨v3, rfl, _⟩ _
  simp -dsimp -implicitDefEqProofs [-getElem?_pos, go_sem, hP, t11]
  refine callB_isQ (up (ctext_pf p src [⟨#[49]⟩, ⟨#[49, 46, 50]⟩, ⟨#[48, 49]⟩, ⟨#[]⟩] (by simp))) hP en_26 (by simp -dsimp -implicitDefEqProofs [-getElem?_pos, go_sem]) (strC_ex (by simp)) ?_
  rintro r ⟨tx, rfl, htx⟩ _
  have htx : tx.size ≤ 1000 := by
    simp only [List.mem_cons, List.not_mem_nil, or_false] at htx
    rcases htx with rfl | rfl | rfl | rfl <;> decide
  obtain ⟨z, hz⟩ : ∃ z : TClaim, z = ⟨v1, v2, 30, v3, 0, tx⟩ := ⟨_, rfl⟩
  obtain ⟨nz, hnz⟩ : ∃ q, q = s.H.length := ⟨_, rfl⟩
  have be := bent27_pf p src c hf (by have := hg.pot; unfold pot at this; omega) (by have := hg.ok.len; have := hg.inc; omega)
  rw [cCsh] at be
  simp -dsimp -implicitDefEqProofs [-getElem?_pos, go_sem, hP]
  refine adrawB (fun _ => true) [] hP (by kernel_rfl) (by kernel_rfl) ?_
  simp -dsimp -implicitDefEqProofs [-getElem?_pos, go_sem, hP, t11, t12, h4, lt4, cashOX, t6, hRC]
  refine callB_isQ (up be) hP en_27 (by simp [imm_sc]; exact ic) (bentC_ex c hf) ?_
  rintro r ⟨o, rfl, fo, lo⟩ _
  obtain ⟨A7, hA7⟩ : ∃ A7 : AV, A7 = .agg [claimsL c.Claims, incomesL c.Incomes, matchesL c.Matches, .list 1 (encL encI c.Loose), claimsL o.Claims, incomesL o.Incomes, matchesL o.Matches, .list 1 (encL encI o.Loose), claimsL raw.Claims, incomesL raw.Incomes, matchesL raw.Matches, .list 1 (encL encI raw.Loose)] := ⟨_, rfl⟩
  simp -dsimp -implicitDefEqProofs [-getElem?_pos, go_sem, hP, cCsh, t6, hRC]
  obtain ⟨J, hJ⟩ : ∃ I : Nat → St → Prop, I = fun m s => ∃ k : Nat, k ≤ 3 ∧ m = 3 - k ∧ s.t 4 = iv n ∧ s.t 7 = .iref XC ∧ s.t 8 = .iref YC ∧ s.t 11 = sp p ∧ s.t 19 = .ref nz 0 0 ∧ s.t 107 = A7 ∧ s.t 108 = iv k ∧ s.H[nz]? = some (some (clmO z)) := ⟨_, rfl⟩
  refine aloop0 J (3) (by rw [hN]; rfl) ?_ ?_
  · rw [hJ]
    exact ⟨0, by omega, by omega, by simp -dsimp -implicitDefEqProofs [-getElem?_pos, go_sem, t4], by simp -dsimp -implicitDefEqProofs [-getElem?_pos, go_sem, t7], by simp -dsimp -implicitDefEqProofs [-getElem?_pos, go_sem, t8], by simp -dsimp -implicitDefEqProofs [-getElem?_pos, go_sem, t11], by simp -dsimp -implicitDefEqProofs [-getElem?_pos, go_sem, hnz], by simp -dsimp -implicitDefEqProofs [-getElem?_pos, go_sem, hA7], by simp -dsimp -implicitDefEqProofs [-getElem?_pos, go_sem], by simp -dsimp -implicitDefEqProofs [-getElem?_pos, go_sem, hnz, clmO, hz]⟩
  clear t4 t6 t7 t8 t11 t12 t67 t68 h4 lt4 hh hnz
  intro m s hs'
  rw [hJ] at hs'
  obtain ⟨k, hk, hm, t4, t7, t8, t11, t19, t107, t108, hz0⟩ := hs'
  subst hm
  simp -dsimp -implicitDefEqProofs [-getElem?_pos, go_sem, hP, t108]
  refine condP (fun hh => ?_) (fun hh => ?_)
  rotate_left
  · simp -dsimp -implicitDefEqProofs [-getElem?_pos, go_sem, hP]
    refine saneB ?_
    simp -dsimp -implicitDefEqProofs [-getElem?_pos, go_sem, hP]
  have hk : k < 3 := by simp at hh; omega
  clear hh
  have wk := wrap_in ((k : Int) + 1) (by omega)
  have hcl : c.Claims.length ≤ 5 := hg.cl
  obtain ⟨K, fK, lK, hix⟩ : ∃ K : TCash, FitC K ∧ K.Claims.length < 20 ∧ aixV Tryz.prog 60 A7 (iv k) = some (.agg [claimsL K.Claims, incomesL K.Incomes, matchesL K.Matches, .list 1 (encL encI K.Loose)]) := by
    rw [hA7]
    rcases three27 hk with rfl | rfl | rfl
    · exact ⟨c, hf, by omega, by kernel_rfl⟩
    · exact ⟨o, fo, by omega, by kernel_rfl⟩
    · exact ⟨raw, hfr, by omega, by kernel_rfl⟩
  clear hA7
  have sx : x.Code.size ≤ 1000000 := by omega
  have sz : z.Code.size ≤ 1000000 := by rw [hz]; simp only; omega
  have k1 := ccheck_pf K fK
  have k2 := crcheck_pf K fK
  have x1 := cclaim_pf x sx
  have x2 := crclaim_pf x sx
  have z1 := cclaim_pf z sz
  have z2 := crclaim_pf z sz
  have iK := cash_immX K
  have iz := clm_immX z
  rw [cCsh] at k1 k2
  rw [cClm] at x1 x2 z1 z2
  obtain ⟨nK, hnK⟩ : ∃ n, n = s.H.length := ⟨_, rfl⟩
  have ltz := (List.getElem?_eq_some_iff.1 hz0).1
  have nz0 : ∀ l : Heap, (s.H ++ l)[nz]? = some (some (clmO z)) := fun l => by rw [List.getElem?_append_left ltz]; exact hz0
  simp -dsimp -implicitDefEqProofs [-getElem?_pos, go_sem, hP, t107, t108, hix]
  refine adrawB (fun _ => true) [] hP (by kernel_rfl) (by kernel_rfl) ?_
  simp -dsimp -implicitDefEqProofs [-getElem?_pos, go_sem, hP]
  refine callB_is (k1.lift _ _) hP en_15 (by simpa using iK) .sc ?_
  simp -dsimp -implicitDefEqProofs [-getElem?_pos, go_sem, hP]
  refine callB_is (k2.lift _ _) hP en_28 (by simpa using iK) .sc ?_
  simp -dsimp -implicitDefEqProofs [-getElem?_pos, go_sem, hP, t7, hXC]
  refine callB_is (x1.lift _ _) hP en_29 (by simpa using ix) .sc ?_
  simp -dsimp -implicitDefEqProofs [-getElem?_pos, go_sem, hP, t7, hXC]
  refine callB_is (x2.lift _ _) hP en_30 (by simpa using ix) .sc ?_
  simp -dsimp -implicitDefEqProofs [-getElem?_pos, go_sem, hP, t19, nz0, clmO]
  refine callB_is (z1.lift _ _) hP en_29 (by simpa using iz) .sc ?_
  simp -dsimp -implicitDefEqProofs [-getElem?_pos, go_sem, hP, t19, nz0, clmO]
  refine callB_is (z2.lift _ _) hP en_30 (by simpa using iz) .sc ?_
  obtain ⟨A2, hA2⟩ : ∃ A2 : AV, A2 = .agg [iv x.ID, iv x.Payer, iv x.Amount, iv x.Open, iv x.Day, .sc (.string x.Code), iv z.ID, iv z.Payer, iv z.Amount, iv z.Open, iv z.Day, .sc (.string z.Code)] := ⟨_, rfl⟩
  simp -dsimp -implicitDefEqProofs [-getElem?_pos, go_sem, hP, t7, hXC, t19, nz0, clmO]
  obtain ⟨L, hL⟩ : ∃ I : Nat → St → Prop, I = fun m s => ∃ q : Nat, q ≤ 2 ∧ m = 2 - q ∧ s.t 4 = iv n ∧ s.t 7 = .iref XC ∧ s.t 8 = .iref YC ∧ s.t 11 = sp p ∧ s.t 19 = .ref nz 0 0 ∧ s.t 107 = A7 ∧ s.t 108 = iv k ∧ s.t 21 = .ref nK 0 0 ∧ s.t 132 = A2 ∧ s.t 133 = iv q ∧ s.H[nz]? = some (some (clmO z)) ∧ s.H[nK]? = some (some (cashOX K)) := ⟨_, rfl⟩
  refine aloop0 L (2) (by rw [hN]; rfl) ?_ ?_
  · rw [hL]
    exact ⟨0, by omega, by omega, by simp -dsimp -implicitDefEqProofs [-getElem?_pos, go_sem, t4], by simp -dsimp -implicitDefEqProofs [-getElem?_pos, go_sem, t7], by simp -dsimp -implicitDefEqProofs [-getElem?_pos, go_sem, t8], by simp -dsimp -implicitDefEqProofs [-getElem?_pos, go_sem, t11], by simp -dsimp -implicitDefEqProofs [-getElem?_pos, go_sem, t19], by simp -dsimp -implicitDefEqProofs [-getElem?_pos, go_sem, t107], by simp -dsimp -implicitDefEqProofs [-getElem?_pos, go_sem, t108], by simp -dsimp -implicitDefEqProofs [-getElem?_pos, go_sem, hnK], by simp -dsimp -implicitDefEqProofs [-getElem?_pos, go_sem, hA2], by simp -dsimp -implicitDefEqProofs [-getElem?_pos, go_sem], by simp -dsimp -implicitDefEqProofs [-getElem?_pos, go_sem, nz0], by simp -dsimp -implicitDefEqProofs [-getElem?_pos, go_sem, hnK, cashOX]⟩
  clear t4 t7 t8 t11 t19 t107 t108 hz0 nz0 ltz hnK
  intro m s hs'
  rw [hL] at hs'
  obtain ⟨q, hq, hmq, t4, t7, t8, t11, t19, t107, t108, t21, t132, t133, hz0, hK0⟩ := hs'
  subst hmq
  have ltz := (List.getElem?_eq_some_iff.1 hz0).1
  have ltK := (List.getElem?_eq_some_iff.1 hK0).1
  have nz0 : ∀ l : Heap, (s.H ++ l)[nz]? = some (some (clmO z)) := fun l => by rw [List.getElem?_append_left ltz]; exact hz0
  have nK0 : ∀ l : Heap, (s.H ++ l)[nK]? = some (some (cashOX K)) := fun l => by rw [List.getElem?_append_left ltK]; exact hK0
  simp -dsimp -implicitDefEqProofs [-getElem?_pos, go_sem, hP, t133]
  refine condP (fun hh => ?_) (fun hh => ?_)
  · have hq : q < 2 := by simp at hh; omega
    have wq := wrap_in ((q : Int) + 1) (by omega)
    obtain ⟨v, sv, hiv⟩ : ∃ v : TClaim, v.Code.size ≤ 1000000 ∧ aixV Tryz.prog 62 A2 (iv q) = some (.agg [iv v.ID, iv v.Payer, iv v.Amount, iv v.Open, iv v.Day, .sc (.string v.Code)]) := by
      rw [hA2]
      rcases (show q = 0 ∨ q = 1 by omega) with rfl | rfl
      · exact ⟨x, sx, by kernel_rfl⟩
      · exact ⟨z, sz, by kernel_rfl⟩
    have k1 := cadd_pf K v fK sv
    have k2 := cradd_pf K v fK sv
    obtain ⟨X, hX⟩ : ∃ X, X = (addD K v).1 := ⟨_, rfl⟩
    obtain ⟨e, he⟩ : ∃ e, e = (addD K v).2 := ⟨_, rfl⟩
    have fX : FitC X := hX ▸ addD_fit fK sv
    have sX := same27_pf X X fX fX
    rw [← hX, ← he, cClm, cCsh, cCsh] at k1 k2
    rw [cCsh] at sX
    rw [decide_eq_true (rfl : X = X)] at sX
    have iX := cash_immX X
    have iv' := clm_immX v
    simp -dsimp -implicitDefEqProofs [-getElem?_pos, go_sem, hP, t132, t133, hiv, t21, nK0, cashOX]
    refine callB_is (k1.lift _ _) hP en_31 (by simpa using ⟨iK, iv'⟩) (imm_pair iX .sc) ?_
    simp -dsimp -implicitDefEqProofs [-getElem?_pos, go_sem, hP, t21, nK0, cashOX]
    refine callB_is (k2.lift _ _) hP en_32 (by simpa using ⟨iK, iv'⟩) (imm_pair iX .sc) ?_
    simp -dsimp -implicitDefEqProofs [-getElem?_pos, go_sem, hP]
    refine callB_is (sX.lift _ _) hP en_23 (by simpa using iX) .sc ?_
    simp -dsimp -implicitDefEqProofs [-getElem?_pos, go_sem, hP, t133, wq]
    refine ⟨2 - (q + 1), by omega, ?_⟩
    rw [hL]
    exact ⟨q + 1, by omega, rfl, by simp -dsimp -implicitDefEqProofs [-getElem?_pos, go_sem, t4], by simp -dsimp -implicitDefEqProofs [-getElem?_pos, go_sem, t7], by simp -dsimp -implicitDefEqProofs [-getElem?_pos, go_sem, t8], by simp -dsimp -implicitDefEqProofs [-getElem?_pos, go_sem, t11], by simp -dsimp -implicitDefEqProofs [-getElem?_pos, go_sem, t19], by simp -dsimp -implicitDefEqProofs [-getElem?_pos, go_sem, t107], by simp -dsimp -implicitDefEqProofs [-getElem?_pos, go_sem, t108], by simp -dsimp -implicitDefEqProofs [-getElem?_pos, go_sem, t21], by simp -dsimp -implicitDefEqProofs [-getElem?_pos, go_sem, t132], by simp -dsimp -implicitDefEqProofs [-getElem?_pos, go_sem], by simp -dsimp -implicitDefEqProofs [-getElem?_pos, go_sem, nz0], by simp -dsimp -implicitDefEqProofs [-getElem?_pos, go_sem, nK0]⟩
  clear hA2 hL
  simp -dsimp -implicitDefEqProofs [-getElem?_pos, go_sem, hP]
  refine adrawB (fun _ => true) [] hP (by kernel_rfl) (by kernel_rfl) ?_
  simp -dsimp -implicitDefEqProofs [-getElem?_pos, go_sem, hP, t8, hYC, t11]
  refine callB_isQ (up (pickQ_pf p src [1, 40] (by simp))) hP en_25 (by simp [go_sem]) (PQ_ex (by simp)) ?_
  rintro r ⟨u1, rfl, _⟩ _
  simp -dsimp -implicitDefEqProofs [-getElem?_pos, go_sem, hP, t11]
  refine callB_isQ (up (pickQ_pf p src [0, 60] (by simp))) hP en_25 (by simp [go_sem]) (PQ_ex (by simp)) ?_
  rintro r ⟨u2, rfl, _⟩ _
  simp -dsimp -implicitDefEqProofs [-getElem?_pos, go_sem, hP, t11]
  refine callB_isQ (up (sincome_pf p src u1 u2)) hP en_10 (by simp -dsimp -implicitDefEqProofs [-getElem?_pos, go_sem]) (incomeQ_ex _ _) ?_
  rintro r ⟨y2, rfl, _⟩ _
  simp -dsimp -implicitDefEqProofs [-getElem?_pos, go_sem, hP, cIncm, t11]
  refine callB_isQ (up (odd_pf p src)) hP en_33 (by simp -dsimp -implicitDefEqProofs [-getElem?_pos, go_sem]) OQ_ex ?_
  rintro r ⟨u3, rfl⟩ _
  obtain ⟨A3, hA3⟩ : ∃ A3 : AV, A3 = .agg [iv y.Number, iv y.Day, iv y.Payer, iv y.Amount, iv y.Claim, iv y2.Number, iv y2.Day, iv y2.Payer, iv y2.Amount, iv y2.Claim, iv 50, iv 60, iv 1, iv u3, iv 0] := ⟨_, rfl⟩
  simp -dsimp -implicitDefEqProofs [-getElem?_pos, go_sem, hP, cIncm, t11]
  obtain ⟨M, hM⟩ : ∃ I : Nat → St → Prop, I = fun m s => ∃ q : Nat, q ≤ 3 ∧ m = 3 - q ∧ s.t 4 = iv n ∧ s.t 7 = .iref XC ∧ s.t 8 = .iref YC ∧ s.t 11 = sp p ∧ s.t 19 = .ref nz 0 0 ∧ s.t 107 = A7 ∧ s.t 108 = iv k ∧ s.t 21 = .ref nK 0 0 ∧ s.t 170 = A3 ∧ s.t 171 = iv q ∧ s.H[nz]? = some (some (clmO z)) ∧ s.H[nK]? = some (some (cashOX K)) := ⟨_, rfl⟩
  refine aloop0 M (3) (by rw [hN]; rfl) ?_ ?_
  · rw [hM]
    exact ⟨0, by omega, by omega, by simp -dsimp -implicitDefEqProofs [-getElem?_pos, go_sem, t4], by simp -dsimp -implicitDefEqProofs [-getElem?_pos, go_sem, t7], by simp -dsimp -implicitDefEqProofs [-getElem?_pos, go_sem, t8], by simp -dsimp -implicitDefEqProofs [-getElem?_pos, go_sem, t11], by simp -dsimp -implicitDefEqProofs [-getElem?_pos, go_sem, t19], by simp -dsimp -implicitDefEqProofs [-getElem?_pos, go_sem, t107], by simp -dsimp -implicitDefEqProofs [-getElem?_pos, go_sem, t108], by simp -dsimp -implicitDefEqProofs [-getElem?_pos, go_sem, t21], by simp -dsimp -implicitDefEqProofs [-getElem?_pos, go_sem, hA3], by simp -dsimp -implicitDefEqProofs [-getElem?_pos, go_sem], by simp -dsimp -implicitDefEqProofs [-getElem?_pos, go_sem, hz0], by simp -dsimp -implicitDefEqProofs [-getElem?_pos, go_sem, hK0]⟩
  clear t4 t7 t8 t11 t19 t107 t108 t21 t132 t133 hz0 nz0 ltz hK0 nK0 ltK hh hq
  intro m s hs'
  rw [hM] at hs'
  obtain ⟨q, hq, hmq, t4, t7, t8, t11, t19, t107, t108, t21, t170, t171, hz0, hK0⟩ := hs'
  subst hmq
  have ltz := (List.getElem?_eq_some_iff.1 hz0).1
  have ltK := (List.getElem?_eq_some_iff.1 hK0).1
  have nz0 : ∀ l : Heap, (s.H ++ l)[nz]? = some (some (clmO z)) := fun l => by rw [List.getElem?_append_left ltz]; exact hz0
  have nK0 : ∀ l : Heap, (s.H ++ l)[nK]? = some (some (cashOX K)) := fun l => by rw [List.getElem?_append_left ltK]; exact hK0
  simp -dsimp -implicitDefEqProofs [-getElem?_pos, go_sem, hP, t171]
  refine condP (fun hh => ?_) (fun hh => ?_)
  · have hq : q < 3 := by simp at hh; omega
    have wq := wrap_in ((q : Int) + 1) (by omega)
    obtain ⟨v, hiv⟩ : ∃ v : TIncome, aixV Tryz.prog 65 A3 (iv q) = some (.agg [iv v.Number, iv v.Day, iv v.Payer, iv v.Amount, iv v.Claim]) := by
      rw [hA3]
      rcases three27 hq with rfl | rfl | rfl
      · exact ⟨y, by kernel_rfl⟩
      · exact ⟨y2, by kernel_rfl⟩
      · exact ⟨⟨50, 60, 1, u3, 0⟩, by kernel_rfl⟩
    have k1 := ctake_pf K v fK lK
    have k2 := rtake_pf K v fK
    obtain ⟨X, hX⟩ : ∃ X, X = (takeD K v).1 := ⟨_, rfl⟩
    obtain ⟨ms, hms⟩ : ∃ X, X = (takeD K v).2.1 := ⟨_, rfl⟩
    obtain ⟨e, he⟩ : ∃ e, e = (takeD K v).2.2 := ⟨_, rfl⟩
    have fX : FitC X := hX ▸ (takeD_fit fK).1
    have fm : ms.length ≤ 1000 := hms ▸ (takeD_fit fK).2
    have sX := same27_pf X X fX fX
    have sM := listEq_pf_matches27 ms ms (by omega) (by omega)
    rw [← hX, ← hms, ← he, cIncm, cCsh, cCsh] at k1 k2
    rw [cCsh] at sX
    rw [decide_eq_true (rfl : X = X)] at sX
    rw [decide_eq_true (rfl : ms = ms)] at sM
    have iX := cash_immX X
    have iv' := inc_immX v
    have im := imm_matches ms
    simp -dsimp -implicitDefEqProofs [-getElem?_pos, go_sem, hP, t170, t171, hiv, t21, nK0, cashOX]
    refine callB_is (k1.lift _ _) hP en_11 (by simpa using ⟨iK, iv'⟩) (imm_trip iX im .sc) ?_
    simp -dsimp -implicitDefEqProofs [-getElem?_pos, go_sem, hP, t21, nK0, cashOX]
    refine callB_is (k2.lift _ _) hP en_34 (by simpa using ⟨iK, iv'⟩) (imm_trip iX im .sc) ?_
    simp -dsimp -implicitDefEqProofs [-getElem?_pos, go_sem, hP]
    refine callB_is (sX.lift _ _) hP en_23 (by simpa using iX) .sc ?_
    simp -dsimp -implicitDefEqProofs [-getElem?_pos, go_sem, hP]
    refine callB_is (sM.lift _ _) hP en_18 (by simpa using im) .sc ?_
    simp -dsimp -implicitDefEqProofs [-getElem?_pos, go_sem, hP, t171, wq]
    refine ⟨3 - (q + 1), by omega, ?_⟩
    rw [hM]
    exact ⟨q + 1, by omega, rfl, by simp -dsimp -implicitDefEqProofs [-getElem?_pos, go_sem, t4], by simp -dsimp -implicitDefEqProofs [-getElem?_pos, go_sem, t7], by simp -dsimp -implicitDefEqProofs [-getElem?_pos, go_sem, t8], by simp -dsimp -implicitDefEqProofs [-getElem?_pos, go_sem, t11], by simp -dsimp -implicitDefEqProofs [-getElem?_pos, go_sem, t19], by simp -dsimp -implicitDefEqProofs [-getElem?_pos, go_sem, t107], by simp -dsimp -implicitDefEqProofs [-getElem?_pos, go_sem, t108], by simp -dsimp -implicitDefEqProofs [-getElem?_pos, go_sem, t21], by simp -dsimp -implicitDefEqProofs [-getElem?_pos, go_sem, t170], by simp -dsimp -implicitDefEqProofs [-getElem?_pos, go_sem], by simp -dsimp -implicitDefEqProofs [-getElem?_pos, go_sem, nz0], by simp -dsimp -implicitDefEqProofs [-getElem?_pos, go_sem, nK0]⟩
  clear hA3 hM
  simp -dsimp -implicitDefEqProofs [-getElem?_pos, go_sem, hP, t4, t11]
  refine callB_isQ (up (rangeQ_pf p src 1 16 (by omega) (by omega))) hP en_24 (by simp [imm_sc]) (RQ_ex (by omega)) ?_
  rintro r ⟨w1, rfl, _⟩ _
  simp -dsimp -implicitDefEqProofs [-getElem?_pos, go_sem, hP, t4, t11]
  refine callB_isQ (up (rangeQ_pf p src 1 3 (by omega) (by omega))) hP en_24 (by simp [imm_sc]) (RQ_ex (by omega)) ?_
  rintro r ⟨w2, rfl, _⟩ _
  obtain ⟨A4, hA4⟩ : ∃ A4 : AV, A4 = .agg [iv n, iv w1, iv w2] := ⟨_, rfl⟩
  simp -dsimp -implicitDefEqProofs [-getElem?_pos, go_sem, hP, t4, t11]
  obtain ⟨O, hO⟩ : ∃ I : Nat → St → Prop, I = fun m s => ∃ q : Nat, q ≤ 3 ∧ m = 3 - q ∧ s.t 4 = iv n ∧ s.t 7 = .iref XC ∧ s.t 8 = .iref YC ∧ s.t 11 = sp p ∧ s.t 19 = .ref nz 0 0 ∧ s.t 107 = A7 ∧ s.t 108 = iv k ∧ s.t 21 = .ref nK 0 0 ∧ s.t 209 = A4 ∧ s.t 210 = iv q ∧ s.H[nz]? = some (some (clmO z)) ∧ s.H[nK]? = some (some (cashOX K)) := ⟨_, rfl⟩
  refine aloop0 O (3) (by rw [hN]; rfl) ?_ ?_
  · rw [hO]
    exact ⟨0, by omega, by omega, by simp -dsimp -implicitDefEqProofs [-getElem?_pos, go_sem, t4], by simp -dsimp -implicitDefEqProofs [-getElem?_pos, go_sem, t7], by simp -dsimp -implicitDefEqProofs [-getElem?_pos, go_sem, t8], by simp -dsimp -implicitDefEqProofs [-getElem?_pos, go_sem, t11], by simp -dsimp -implicitDefEqProofs [-getElem?_pos, go_sem, t19], by simp -dsimp -implicitDefEqProofs [-getElem?_pos, go_sem, t107], by simp -dsimp -implicitDefEqProofs [-getElem?_pos, go_sem, t108], by simp -dsimp -implicitDefEqProofs [-getElem?_pos, go_sem, t21], by simp -dsimp -implicitDefEqProofs [-getElem?_pos, go_sem, hA4], by simp -dsimp -implicitDefEqProofs [-getElem?_pos, go_sem], by simp -dsimp -implicitDefEqProofs [-getElem?_pos, go_sem, hz0], by simp -dsimp -implicitDefEqProofs [-getElem?_pos, go_sem, hK0]⟩
  clear t4 t7 t8 t11 t19 t107 t108 t21 t170 t171 hz0 nz0 ltz hK0 nK0 ltK hh hq
  intro m s hs'
  rw [hO] at hs'
  obtain ⟨q, hq, hmq, t4, t7, t8, t11, t19, t107, t108, t21, t209, t210, hz0, hK0⟩ := hs'
  subst hmq
  have ltz := (List.getElem?_eq_some_iff.1 hz0).1
  have ltK := (List.getElem?_eq_some_iff.1 hK0).1
  have nz0 : ∀ l : Heap, (s.H ++ l)[nz]? = some (some (clmO z)) := fun l => by rw [List.getElem?_append_left ltz]; exact hz0
  have nK0 : ∀ l : Heap, (s.H ++ l)[nK]? = some (some (cashOX K)) := fun l => by rw [List.getElem?_append_left ltK]; exact hK0
  simp -dsimp -implicitDefEqProofs [-getElem?_pos, go_sem, hP, t210]
  refine condP (fun hh => ?_) (fun hh => ?_)
  rotate_left
  · simp -dsimp -implicitDefEqProofs [-getElem?_pos, go_sem, hP, t108, wk]
    refine ⟨3 - (k + 1), by omega, ?_⟩
    rw [hJ]
    exact ⟨k + 1, by omega, rfl, by simp -dsimp -implicitDefEqProofs [-getElem?_pos, go_sem, t4], by simp -dsimp -implicitDefEqProofs [-getElem?_pos, go_sem, t7], by simp -dsimp -implicitDefEqProofs [-getElem?_pos, go_sem, t8], by simp -dsimp -implicitDefEqProofs [-getElem?_pos, go_sem, t11], by simp -dsimp -implicitDefEqProofs [-getElem?_pos, go_sem, t19], by simp -dsimp -implicitDefEqProofs [-getElem?_pos, go_sem, t107], by simp -dsimp -implicitDefEqProofs [-getElem?_pos, go_sem], by simp -dsimp -implicitDefEqProofs [-getElem?_pos, go_sem, hz0]⟩
  have hq : q < 3 := by simp at hh; omega
  have wq := wrap_in ((q : Int) + 1) (by omega)
  obtain ⟨v, hiv⟩ : ∃ v : Int, aixV Tryz.prog 66 A4 (iv q) = some (iv v) := by
    rw [hA4]
    rcases three27 hq with rfl | rfl | rfl
    · exact ⟨n, by kernel_rfl⟩
    · exact ⟨w1, by kernel_rfl⟩
    · exact ⟨w2, by kernel_rfl⟩
  clear hA4
  have k1 := crefund_pf K v fK
  have k2 := crrefund_pf K v fK
  obtain ⟨X, hX⟩ : ∃ X, X = (refundD K v).1 := ⟨_, rfl⟩
  obtain ⟨lo', hlo'⟩ : ∃ X, X = (refundD K v).2.1 := ⟨_, rfl⟩
  obtain ⟨e, he⟩ : ∃ e, e = (refundD K v).2.2 := ⟨_, rfl⟩
  have fX : FitC X := hX ▸ refundD_fit fK
  have sX := same27_pf X X fX fX
  rw [← hX, ← hlo', ← he, cCsh, cCsh] at k1 k2
  rw [cCsh] at sX
  rw [decide_eq_true (rfl : X = X)] at sX
  have iX := cash_immX X
  have l1' := cloose_pf K v fK
  have l2' := crloose_pf K v fK
  have o1' := cowed_pf K v fK
  have o2' := crowed_pf K v fK
  rw [cCsh] at l1' l2' o1' o2'
  simp -dsimp -implicitDefEqProofs [-getElem?_pos, go_sem, hP, t209, t210, hiv, t21, hK0, ltK, nK0, cashOX]
  refine callB_is (k1.lift _ _) hP en_16 (by simp [imm_sc]; exact iK) (imm_trip iX .sc .sc) ?_
  simp -dsimp -implicitDefEqProofs [-getElem?_pos, go_sem, hP, t21, nK0, cashOX]
  refine callB_is (k2.lift _ _) hP en_35 (by simp [imm_sc]; exact iK) (imm_trip iX .sc .sc) ?_
  simp -dsimp -implicitDefEqProofs [-getElem?_pos, go_sem, hP]
  refine adrawB (fun _ => true) [] hP (by kernel_rfl) (by kernel_rfl) ?_
  simp -dsimp -implicitDefEqProofs [-getElem?_pos, go_sem, hP, t21, nK0, cashOX]
  refine callB_is (sX.lift _ _) hP en_23 (by simpa using iX) .sc ?_
  simp -dsimp -implicitDefEqProofs [-getElem?_pos, go_sem, hP, t21, nK0, cashOX]
  refine callB_is (l1'.lift _ _) hP en_14 (by simp [imm_sc]; exact iK) .sc ?_
  simp -dsimp -implicitDefEqProofs [-getElem?_pos, go_sem, hP, t21, nK0, cashOX]
  refine callB_is (l2'.lift _ _) hP en_36 (by simp [imm_sc]; exact iK) .sc ?_
  simp -dsimp -implicitDefEqProofs [-getElem?_pos, go_sem, hP, t21, nK0, cashOX]
  refine callB_is (o1'.lift _ _) hP en_13 (by simp [imm_sc]; exact iK) .sc ?_
  simp -dsimp -implicitDefEqProofs [-getElem?_pos, go_sem, hP, t21, nK0, cashOX]
  refine callB_is (o2'.lift _ _) hP en_37 (by simp [imm_sc]; exact iK) .sc ?_
  simp -dsimp -implicitDefEqProofs [-getElem?_pos, go_sem, hP, t210, wq]
  refine ⟨3 - (q + 1), by omega, ?_⟩
  rw [hO]
  exact ⟨q + 1, by omega, rfl, by simp -dsimp -implicitDefEqProofs [-getElem?_pos, go_sem, t4], by simp -dsimp -implicitDefEqProofs [-getElem?_pos, go_sem, t7], by simp -dsimp -implicitDefEqProofs [-getElem?_pos, go_sem, t8], by simp -dsimp -implicitDefEqProofs [-getElem?_pos, go_sem, t11], by simp -dsimp -implicitDefEqProofs [-getElem?_pos, go_sem, t19], by simp -dsimp -implicitDefEqProofs [-getElem?_pos, go_sem, t107], by simp -dsimp -implicitDefEqProofs [-getElem?_pos, go_sem, t108], by simp -dsimp -implicitDefEqProofs [-getElem?_pos, go_sem, t21], by simp -dsimp -implicitDefEqProofs [-getElem?_pos, go_sem, t209], by simp -dsimp -implicitDefEqProofs [-getElem?_pos, go_sem], by simp -dsimp -implicitDefEqProofs [-getElem?_pos, go_sem, nz0], by simp -dsimp -implicitDefEqProofs [-getElem?_pos, go_sem, nK0]⟩
end Go.Proofs.YtgapbmaehfdkoaaGreatDoor
