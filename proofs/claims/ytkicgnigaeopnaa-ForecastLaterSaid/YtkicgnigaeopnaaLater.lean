/- ForecastLater: the plain law and the walk. -/
import Derived.Test.YtkicgnigaeopnaaLaw29b
set_option linter.unusedSimpArgs false
set_option linter.unusedVariables false
namespace Go.Proofs.Ytkicgnigaeopnaa
open Go.PA
open Go.RowKit

def outL (fs : List Flow) : List Flow := fs.filter fun f => decide (f.a < 0)
theorem outL_snoc (fs : List Flow) (f : Flow) : outL (fs ++ [f]) = outL fs ++ if f.a < 0 then [f] else [] := by
  unfold outL
  rw [List.filter_append]
  congr 1
  by_cases h : f.a < 0 <;> simp [h]
theorem outL_len (fs : List Flow) : (outL fs).length ≤ fs.length := List.length_filter_le _ _
theorem shiftL_cons (f : Flow) (fs : List Flow) (lo by_ : Int) : shiftL (f :: fs) lo by_ = shiftL [f] lo by_ ++ shiftL fs lo by_ := by
  simp only [shiftL, List.map_cons, List.map_nil]
  rw [← List.filter_append]
  rfl
theorem shift_one (f : Flow) (lo by_ : Int) (h : f.d < 30) (hb : 0 ≤ by_ ∧ by_ ≤ 20) : shiftL [f] lo by_ = [⟨if lo ≤ f.d then f.d + by_ else f.d, f.a, f.k, f.n⟩] := by
  unfold shiftL
  by_cases h1 : lo ≤ f.d <;> simp [h1] <;> omega
theorem later_le (lo by_ : Int) (hb : 0 ≤ by_ ∧ by_ ≤ 20) (i : Int) : ∀ fs : List Flow, (∀ f, f ∈ fs → (0 ≤ f.d ∧ f.d < 30) ∧ f.a < 0) → upTo fs i ≤ upTo (shiftL fs lo by_) i
  | [], _ => by simp [shiftL, upTo_nil]
  | f :: fs, h => by
    have ih := later_le lo by_ hb i fs fun g hg => h g (List.mem_cons_of_mem _ hg)
    obtain ⟨h1, h2⟩ := h f (List.mem_cons_self ..)
    rw [shiftL_cons, upTo_app, shift_one f lo by_ h1.2 hb, upTo_cons, upTo_cons, upTo_nil]
    dsimp only
    split <;> split <;> (try split) <;> omega
theorem shift_mem (lo by_ : Int) (hb : 0 ≤ by_ ∧ by_ ≤ 20) : ∀ fs : List Flow, (∀ f, f ∈ fs → GenFlow f) → ∀ g, g ∈ shiftL fs lo by_ → validB g = true ∧ -700 ≤ g.a ∧ g.a ≤ 700
  | [], _, g, hg => by simp [shiftL] at hg
  | f :: fs, h, g, hg => by
    have hf := h f (List.mem_cons_self ..)
    rw [shiftL_cons, List.mem_append, shift_one f lo by_ hf.1.2 hb] at hg
    rcases hg with hg | hg
    · simp at hg
      subst hg
      have hs := gen_small hf
      obtain ⟨h1, h2, h3, h4⟩ := hf
      simp at h2
      refine ⟨?_, hs⟩
      simp [validB, dayB, amongB]
      split <;> omega
    · exact shift_mem lo by_ hb fs (fun g hg => h g (List.mem_cons_of_mem _ hg)) g hg
theorem valid_check {fs : List Flow} (h : ∀ f, f ∈ fs → validB f = true) (hl : fs.length ≤ 400) : checkI fs = 0 := by
  unfold checkI
  rw [if_neg (by omega), if_neg]
  intro ha
  obtain ⟨f, hf, hv⟩ := List.any_eq_true.1 ha
  rw [h f hf] at hv
  cases hv

theorem later_law {fs : List Flow} (hf : ∀ f, f ∈ fs → GenFlow f) (hl : fs.length ≤ 8) (lo by_ : Int) (hb : 0 ≤ by_ ∧ by_ ≤ 20) :
    ∃ x : List Flow, shiftR (outL fs) lo by_ = (x, 0) ∧ x.length ≤ 8 ∧ ∃ pa pb : List Pos, project 0 (outL fs) 0 60 = (pa, 0) ∧ project 0 x 0 60 = (pb, 0) ∧ pa.length = 61 ∧ pb.length = 61 ∧
      ∀ k : Nat, k < 61 → ∃ u v : Int, pa[k]? = some ⟨k, u⟩ ∧ pb[k]? = some ⟨k, v⟩ ∧ u ≤ v := by
  have hol := outL_len fs
  have hof : ∀ f, f ∈ outL fs → GenFlow f ∧ f.a < 0 := fun f h => by
    simp only [outL, List.mem_filter, decide_eq_true_eq] at h
    exact ⟨hf f h.1, h.2⟩
  have hsl := shiftL_len (outL fs) lo by_
  have hxl : (isort befB (shiftL (outL fs) lo by_)).length ≤ 8 := by rw [isort_len]; omega
  have hxm : ∀ f, f ∈ isort befB (shiftL (outL fs) lo by_) → validB f = true ∧ -700 ≤ f.a ∧ f.a ≤ 700 := fun f h =>
    shift_mem lo by_ hb (outL fs) (fun f h => (hof f h).1) f ((isort_perm _ _).mem_iff.1 h)
  refine ⟨isort befB (shiftL (outL fs) lo by_), ?_, hxl, posns 0 (outL fs) 61, posns 0 (isort befB (shiftL (outL fs) lo by_)) 61, ?_, ?_, posns_len _ _ _, posns_len _ _ _, fun k hk => ?_⟩
  · unfold shiftR
    rw [if_neg (by rw [gen_check (fun f h => (hof f h).1) (by omega)]; simp), if_neg (by simp [amongB]; omega)]
  · exact gen_project (fun f h => (hof f h).1) (by omega) (by omega) 60 (by omega)
  · refine project_closed _ 0 60 (valid_check (fun f h => (hxm f h).1) (by omega)) (by simp [totalB, amongB]) (by omega) fun i => ?_
    have := upTo_small i _ fun f h => (hxm f h).2
    simp [totalB, amongB]
    omega
  · refine ⟨_, _, posns_get _ _ _ _ hk, posns_get _ _ _ _ hk, ?_⟩
    have := later_le lo by_ hb k (outL fs) fun f h => ⟨(hof f h).1.1, (hof f h).2⟩
    rw [upTo_perm (isort_perm _ _)]
    omega

set_option maxHeartbeats 1000000 in
theorem later_law_pf (xs : List Int) (m : Nat) (hx : Small xs) (hl : xs.length ≤ 9223372036854775807) (hm : m ≤ 255) :
    PFun Try.prog none none 4 [intsL xs, .sc (.int .u8 m)] (· = bv true) := by
  refine pfun_introA Try.func4 rfl (by simp [Try.f4]) ?_
  intro E hP hr hs hW hN
  refine awp_cut (by rw [hN]; kernel_rfl) ?_
  simp [go_sem, hP]
  refine awp_cut (by rw [hN]; kernel_rfl) ?_
  simp [go_sem, hP]
  have hnew : POwn Try.prog E.row E.src 7 [intsL xs] 47 2 (· = [[intsL (xs.take 900), iv 0]]) := by rw [hr, hs]; exact new_pf xs hl
  refine callB_own hnew hP en_7 (args_same (by simp [go_sem, intsL])) (by simp [srefs_imm, go_sem, intsL]) ⟨_, rfl⟩ ?_
  rintro es rfl
  simp [go_sem, hP]
  refine awp_adopt 5 (ty := 47) (xs := xs.take 900) (at_ := 0) hr hs hW (by simp [go_sem]) (by simp [go_sem, intsL]) (by omega) (by simp; omega) (fun x hx' => hx x (List.mem_of_mem_take hx')) (by rw [hN]; kernel_rfl) ?_
  intro E' p hP' hr' hN' hW'
  rw [hP] at hP'
  rw [hN] at hN'
  clear hnew hP hr hs hW hN E
  rename Env => E
  rename E.P = _ => hP
  rename E.row = _ => hr
  rename E.N = _ => hN
  rename (∀ b, ¬ E.W b) => hW
  obtain ⟨src, hs⟩ : ∃ src, E.src = src := ⟨_, rfl⟩
  have up : ∀ {f : FuncId} {args : List AV} {Q : AV → Prop}, PFun Try.prog (some p) src f args Q → PFun Try.prog E.row E.src f args Q := fun h => hr ▸ hs ▸ h

  simp -implicitDefEqProofs [-getElem?_pos, go_sem, hP]
  refine callB_isQ (up (flows_pf p src 8 (by omega))) hP en_8 (by simp [go_sem]) ⟨flowsL [], ⟨[], rfl, by simp, by simp⟩, imm_flowsL _⟩ ?_
  rintro r ⟨fs, rfl, hfl, hf⟩ _
  have lenF : ∀ H, alen H (flowsL fs) = some (fs.length : Int) := fun H => by simp [flowsL, alen]
  simp -implicitDefEqProofs [-getElem?_pos, go_sem, hP, lenF]
  refine aloop_own 6 38 4 (by simp [go_sem]) ?_
  obtain ⟨I, hI⟩ : ∃ I : Nat → St → Prop, I = fun n s => ∃ k id : Nat, k ≤ fs.length ∧ n = fs.length - k ∧ s.t 1 = .sc (.int .u8 m) ∧ s.t 5 = sp p ∧ s.t 19 = flowsL fs ∧ s.t 20 = iv fs.length ∧ s.t 21 = iv k ∧ s.t 6 = .sref id 0 (outL (fs.take k)).length ∧ s.H[id]? = some (flowObj (outL (fs.take k))) := ⟨_, rfl⟩
  refine aloopF 6 hW I fs.length (by rw [hN]; rfl) ?_ ?_
  · rw [hI]
    exact ⟨0, 1, by omega, by omega, by simp -implicitDefEqProofs [-getElem?_pos, go_sem], by simp -implicitDefEqProofs [-getElem?_pos, go_sem], by simp -implicitDefEqProofs [-getElem?_pos, go_sem], by simp -implicitDefEqProofs [-getElem?_pos, go_sem], by simp -implicitDefEqProofs [-getElem?_pos, go_sem], by simp -implicitDefEqProofs [-getElem?_pos, go_sem, outL], by simp -implicitDefEqProofs [-getElem?_pos, go_sem, outL]⟩
  intro n s hs'
  rw [hI] at hs'
  obtain ⟨k, id, hk, hn, t1, t5, t19, t20, t21, t6, hH⟩ := hs'
  have hlt := (List.getElem?_eq_some_iff.1 hH).1
  simp -implicitDefEqProofs [-getElem?_pos, go_sem, hP, t20, t21]
  refine condP (fun h => ?_) (fun h => ?_)
  · have hk : k < fs.length := by simpa using h
    obtain ⟨f, hf'⟩ : ∃ f, fs[k]? = some f := ⟨_, List.getElem?_eq_getElem hk⟩
    have e1 : fs.take (k + 1) = fs.take k ++ [f] := by rw [List.take_add_one, hf']; rfl
    have wk := wrap_in ((k : Int) + 1) (by omega)
    have hol := outL_len (fs.take k)
    simp at hol
    simp -implicitDefEqProofs [-getElem?_pos, go_sem, hP, t19, t21, flowsL, hk, hf', Flow.cells]
    refine condP (fun h2 => ?_) (fun h2 => ?_)
    · have h2 : f.a < 0 := by simpa using h2
      have e3 : outL (fs.take (k + 1)) = outL (fs.take k) ++ [f] := by rw [e1, outL_snoc, if_pos h2]
      have e4 := encL_take Flow.cells (outL (fs.take k)) _ rfl
      simp -implicitDefEqProofs [-getElem?_pos, go_sem, hP, t6, hH, t21, wk, hlt, e4]
      refine ⟨by omega, by omega, fs.length - (k + 1), by omega, ?_⟩
      rw [hI]
      refine ⟨k + 1, s.H.length + 1, by omega, rfl, by simp -implicitDefEqProofs [-getElem?_pos, go_sem, t1], by simp -implicitDefEqProofs [-getElem?_pos, go_sem, t5], by simp -implicitDefEqProofs [-getElem?_pos, go_sem, t19], by simp -implicitDefEqProofs [-getElem?_pos, go_sem, t20], by simp -implicitDefEqProofs [-getElem?_pos, go_sem], by simp -implicitDefEqProofs [-getElem?_pos, go_sem, e3], ?_⟩
      simp -implicitDefEqProofs [-getElem?_pos, go_sem, e3, encL, Flow.cells]
    · have h2 : ¬ f.a < 0 := by simpa using h2
      have e3 : outL (fs.take (k + 1)) = outL (fs.take k) := by rw [e1, outL_snoc, if_neg h2, List.append_nil]
      simp -implicitDefEqProofs [-getElem?_pos, go_sem, hP, t21, wk]
      refine ⟨fs.length - (k + 1), by omega, ?_⟩
      rw [hI]
      exact ⟨k + 1, id, by omega, rfl, by simp -implicitDefEqProofs [-getElem?_pos, go_sem, t1], by simp -implicitDefEqProofs [-getElem?_pos, go_sem, t5], by simp -implicitDefEqProofs [-getElem?_pos, go_sem, t19], by simp -implicitDefEqProofs [-getElem?_pos, go_sem, t20], by simp -implicitDefEqProofs [-getElem?_pos, go_sem], by simp -implicitDefEqProofs [-getElem?_pos, go_sem, t6, e3], by simp -implicitDefEqProofs [-getElem?_pos, go_sem, hlt, e3, hH]⟩
  have hk : fs.length ≤ k := by simpa using h
  rw [List.take_of_length_le hk] at t6 hH
  simp -implicitDefEqProofs [-getElem?_pos, go_sem, hP]
  have hol := outL_len fs
  refine frz id _ 38 4 (encL Flow.cells (outL fs)) (by simp -implicitDefEqProofs [-getElem?_pos, go_sem, t6]; rfl) (by simp -implicitDefEqProofs [-getElem?_pos, go_sem, hH]) (by simp [encL]) (imm_encL _ imm_flow _) ?_
  simp -implicitDefEqProofs [-getElem?_pos, go_sem, hP, t5]
  refine callB_flat (up (N_pf p src 10 (by omega))) hP en_14 (args_same (by simp [go_sem])) (NQ_ex _) (NQ_flat _) ?_
  rintro r ⟨d, rfl, _, hd⟩
  have hd := hd (by omega)
  obtain ⟨b, hb⟩ : ∃ b, b = m % 20 := ⟨_, rfl⟩
  have e1 : (IntKind.i64.wrap (m : Int)).tmod 20 = (b : Int) := by
    rw [wrap_in _ (by omega), Int.tmod_eq_emod_of_nonneg (by omega)]
    omega
  obtain ⟨x, hsh, hxl, pa, pb, h1, h2, hpa, hpb, hle⟩ := later_law hf hfl d b (by omega)
  have q1 := shift_pf (outL fs) d b (by omega)
  rw [hsh] at q1
  have p1 := project_pf 0 (outL fs) 0 60 (by omega)
  rw [h1] at p1
  have p2 := project_pf 0 x 0 60 (by omega)
  rw [h2] at p2
  have ix := imm_flowsL x
  have io := imm_flowsL (outL fs)
  have ipa := imm_posL pa
  have ipb := imm_posL pb
  have eo : AV.list 4 (encL Flow.cells (outL fs)) = flowsL (outL fs) := rfl
  simp -implicitDefEqProofs [-getElem?_pos, go_sem, hP, t1, aconv, e1, eo]
  refine callB_is (q1.lift _ _) hP en_13 (by simp [imm_sc, io]) (imm_pair ix .sc) ?_
  simp -implicitDefEqProofs [-getElem?_pos, go_sem, hP, eo]
  refine callB_is (p1.lift _ _) hP en_10 (by simp [imm_sc, io]) (imm_pair ipa .sc) ?_
  simp -implicitDefEqProofs [-getElem?_pos, go_sem, hP]
  refine callB_is (p2.lift _ _) hP en_10 (by simp [imm_sc, ix]) (imm_pair ipb .sc) ?_
  have lenA : ∀ H, alen H (posL pa) = some 61 := fun H => by simp [posL, alen, hpa]
  have lenB : ∀ H, alen H (posL pb) = some 61 := fun H => by simp [posL, alen, hpb]
  simp -implicitDefEqProofs [-getElem?_pos, go_sem, hP, lenA, lenB]
  obtain ⟨J, hJ⟩ : ∃ J : Nat → St → Prop, J = fun m s => ∃ k : Nat, k ≤ 61 ∧ m = 61 - k ∧ s.t 71 = iv 61 ∧ s.t 72 = iv k ∧ s.t 11 = posL pa ∧ s.t 13 = posL pb := ⟨_, rfl⟩
  refine aloop0 J 61 (by rw [hN]; rfl) ?_ ?_
  · rw [hJ]
    exact ⟨0, by omega, by omega, by simp -implicitDefEqProofs [-getElem?_pos, go_sem], by simp -implicitDefEqProofs [-getElem?_pos, go_sem], by simp -implicitDefEqProofs [-getElem?_pos, go_sem], by simp -implicitDefEqProofs [-getElem?_pos, go_sem]⟩
  clear t1 t5 t6 t19 t20 t21 hlt hH
  intro m s hs'
  rw [hJ] at hs'
  obtain ⟨k, hk, hm, t71, t72, t11, t13⟩ := hs'
  simp -implicitDefEqProofs [-getElem?_pos, go_sem, hP, t71, t72]
  refine condP (fun h => ?_) (fun h => ?_)
  · have hk : k < 61 := by simp at h; omega
    have wk := wrap_in ((k : Int) + 1) (by omega)
    obtain ⟨u, v, hu, hv, huv⟩ := hle k hk
    simp -implicitDefEqProofs [-getElem?_pos, go_sem, hP, t72]
    refine adrawB (fun _ => true) [] hP (by kernel_rfl) (by kernel_rfl) ?_
    have hnot : decide (v < u) = false := by simp; omega
    simp -implicitDefEqProofs [-getElem?_pos, go_sem, hP, t72, t11, t13, posL, hu, hv, Pos.cells, hnot, wk]
    refine ⟨61 - (k + 1), by omega, ?_⟩
    rw [hJ]
    exact ⟨k + 1, by omega, rfl, by simp -implicitDefEqProofs [-getElem?_pos, go_sem, t71], by simp -implicitDefEqProofs [-getElem?_pos, go_sem], by simp -implicitDefEqProofs [-getElem?_pos, go_sem, t11], by simp -implicitDefEqProofs [-getElem?_pos, go_sem, t13]⟩
  · simp -implicitDefEqProofs [-getElem?_pos, go_sem, hP]
    refine callB_pure sane_pf hP en_12 (by simp [go_sem]) .sc ?_
    simp -implicitDefEqProofs [-getElem?_pos, go_sem, hP]

end Go.Proofs.Ytkicgnigaeopnaa
