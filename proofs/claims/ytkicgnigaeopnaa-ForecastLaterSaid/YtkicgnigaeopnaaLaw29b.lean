/- ForecastAdds, ForecastOrder: the walks. -/
import Derived.Test.YtkicgnigaeopnaaUpTo29
set_option linter.unusedSimpArgs false
set_option linter.unusedVariables false
namespace Go.Proofs.Ytkicgnigaeopnaa
open Go.PA
open Go.RowKit

theorem ordered_pf (l : List Flow) (hl : l.length ≤ 100000) (ho : ∀ i f g, l[i]? = some g → l[i + 1]? = some f → befB f g = false) :
    PFun Try.prog none none 16 [flowsL l] (· = bv true) := by
  refine pfun_intro Try.func16 rfl (by simp [Try.f16]) (by kernel_rfl) ?_
  intro E hP hr hs hW hN
  simp -implicitDefEqProofs [-getElem?_pos, go_sem, hP, flowsL]
  obtain ⟨I, hI⟩ : ∃ I : Nat → St → Prop, I = fun m s => ∃ k : Nat, k ≤ l.length ∧ m = l.length - k ∧ s.t 0 = flowsL l ∧ s.t 6 = flowsL l ∧ s.t 7 = iv l.length ∧ s.t 8 = iv k := ⟨_, rfl⟩
  refine aloop0 I l.length (by rw [hN]; rfl) ?_ ?_
  · rw [hI]
    exact ⟨0, by omega, by omega, by simp -implicitDefEqProofs [-getElem?_pos, go_sem, flowsL], by simp -implicitDefEqProofs [-getElem?_pos, go_sem, flowsL], by simp -implicitDefEqProofs [-getElem?_pos, go_sem], by simp -implicitDefEqProofs [-getElem?_pos, go_sem]⟩
  intro m s hs'
  rw [hI] at hs'
  obtain ⟨k, hk, hm, t0, t6, t7, t8⟩ := hs'
  simp -implicitDefEqProofs [-getElem?_pos, go_sem, hP, t7, t8]
  refine condP (fun h => ?_) (fun h => ?_)
  rotate_left
  · simp -implicitDefEqProofs [-getElem?_pos, go_sem, hP]
  have hk : k < l.length := by simpa using h
  obtain ⟨f, hf⟩ : ∃ f, l[k]? = some f := ⟨_, List.getElem?_eq_getElem hk⟩
  have wk := wrap_in ((k : Int) + 1) (by omega)
  simp -implicitDefEqProofs [-getElem?_pos, go_sem, hP, t6, t8, flowsL, hk, hf, Flow.cells]
  rcases Nat.eq_zero_or_pos k with rfl | hpos
  · have w1 := wrap_in 1 (by omega)
    simp -implicitDefEqProofs [-getElem?_pos, go_sem, hP, t8, w1]
    refine ⟨l.length - 1, by omega, ?_⟩
    rw [hI]
    exact ⟨1, by omega, rfl, by simp -implicitDefEqProofs [-getElem?_pos, go_sem, t0], by simp -implicitDefEqProofs [-getElem?_pos, go_sem, t6], by simp -implicitDefEqProofs [-getElem?_pos, go_sem, t7], by simp -implicitDefEqProofs [-getElem?_pos, go_sem, w1]⟩
  · obtain ⟨j, rfl⟩ : ∃ j, k = j + 1 := ⟨k - 1, by omega⟩
    obtain ⟨g, hg⟩ : ∃ g, l[j]? = some g := ⟨_, List.getElem?_eq_getElem (by omega)⟩
    have hb : befB f g = false := ho j f g hg hf
    have hne : decide (((j : Int) + 1) = 0) = false := by simp; omega
    have wj := wrap_in ((j : Int) + 1 - 1) (by omega)
    rw [Int.add_sub_cancel] at wj
    have n1 : decide (f.d < g.d) = false := by grind [befB]
    have fin : ∀ s' : St, s'.t 0 = s.t 0 → s'.t 6 = s.t 6 → s'.t 7 = s.t 7 → s'.t 8 = iv ((j : Int) + 1 + 1) → ∃ n', n' < m ∧ I n' s' := fun s' e0 e6 e7 e8 => by
      refine ⟨l.length - (j + 1 + 1), by omega, ?_⟩
      rw [hI]
      exact ⟨j + 1 + 1, by omega, rfl, by rw [e0, t0], by rw [e6, t6], by rw [e7, t7], by rw [e8]; simp⟩
    have wk' := wrap_in ((j : Int) + 1 + 1) (by omega)
    by_cases h2 : g.d = f.d
    · have n3 : decide (f.k < g.k) = false := by grind [befB]
      by_cases h4 : g.k = f.k
      · have n5 : decide (f.n < g.n) = false := by grind [befB]
        simp -implicitDefEqProofs [-getElem?_pos, go_sem, hP, t0, t8, flowsL, hne, Int.add_sub_cancel, wj, hg, Flow.cells, n1, h2, n3, h4, n5, wk']
        exact fin _ (by simp -implicitDefEqProofs [-getElem?_pos, go_sem]) (by simp -implicitDefEqProofs [-getElem?_pos, go_sem]) (by simp -implicitDefEqProofs [-getElem?_pos, go_sem]) (by simp -implicitDefEqProofs [-getElem?_pos, go_sem])
      · simp -implicitDefEqProofs [-getElem?_pos, go_sem, hP, t0, t8, flowsL, hne, Int.add_sub_cancel, wj, hg, Flow.cells, n1, h2, n3, h4, wk']
        exact fin _ (by simp -implicitDefEqProofs [-getElem?_pos, go_sem]) (by simp -implicitDefEqProofs [-getElem?_pos, go_sem]) (by simp -implicitDefEqProofs [-getElem?_pos, go_sem]) (by simp -implicitDefEqProofs [-getElem?_pos, go_sem])
    · simp -implicitDefEqProofs [-getElem?_pos, go_sem, hP, t0, t8, flowsL, hne, Int.add_sub_cancel, wj, hg, Flow.cells, n1, h2, wk']
      exact fin _ (by simp -implicitDefEqProofs [-getElem?_pos, go_sem]) (by simp -implicitDefEqProofs [-getElem?_pos, go_sem]) (by simp -implicitDefEqProofs [-getElem?_pos, go_sem]) (by simp -implicitDefEqProofs [-getElem?_pos, go_sem])

theorem gen_total {fs : List Flow} (hf : ∀ f, f ∈ fs → GenFlow f) (hl : fs.length ≤ 20) {o : Int} (ho : -20000 ≤ o ∧ o ≤ 20000) (i : Int) : totalB (o + upTo fs i) = true := by
  have := upTo_small i fs fun f h => gen_small (hf f h)
  simp [totalB, amongB]
  omega
theorem gen_project {fs : List Flow} (hf : ∀ f, f ∈ fs → GenFlow f) (hl : fs.length ≤ 20) {o : Int} (ho : -20000 ≤ o ∧ o ≤ 20000) (m : Nat) (hm : m ≤ 900) : project o fs 0 m = (posns o fs (m + 1), 0) :=
  project_closed fs o m (gen_check hf (by omega)) (by simp [totalB, amongB]; omega) hm fun i => gen_total hf hl ho i
theorem gen_app {a b : List Flow} (ha : ∀ f, f ∈ a → GenFlow f) (hb : ∀ f, f ∈ b → GenFlow f) : ∀ f, f ∈ a ++ b → GenFlow f := fun f hf => (List.mem_append.1 hf).elim (ha f) (hb f)
theorem gen_sort {a : List Flow} (ha : ∀ f, f ∈ a → GenFlow f) : ∀ f, f ∈ isort befB a → GenFlow f := fun f hf => ha f ((isort_perm befB a).mem_iff.1 hf)
theorem gen_merge {a : List Flow} (ha : ∀ f, f ∈ a → GenFlow f) (hl : a.length ≤ 20) : mergeA a = (isort befB a, 0) := by
  unfold mergeA
  rw [if_pos (gen_check ha (by omega))]
theorem sorted_get (l : List Flow) : ∀ i f g, (isort befB l)[i]? = some g → (isort befB l)[i + 1]? = some f → befB f g = false := fun i f g hg hf => by
  obtain ⟨h1, rfl⟩ := List.getElem?_eq_some_iff.1 hg
  obtain ⟨h2, rfl⟩ := List.getElem?_eq_some_iff.1 hf
  exact isort_sorted befB bef_asymm l i h2
theorem posns_perm {a b : List Flow} (h : a.Perm b) (o : Int) (n : Nat) : posns o a n = posns o b n := by
  unfold posns
  exact List.map_congr_left fun j _ => by rw [upTo_perm h]

theorem order_law_pf (xs : List Int) (hx : Small xs) (hl : xs.length ≤ 9223372036854775807) :
    PFun Try.prog none none 6 [intsL xs] (· = bv true) := by
  refine pfun_introA Try.func6 rfl (by simp [Try.f6]) ?_
  intro E hP hr hs hW hN
  refine awp_cut (by rw [hN]; kernel_rfl) ?_
  simp [go_sem, hP]
  refine awp_cut (by rw [hN]; kernel_rfl) ?_
  simp [go_sem, hP]
  have hnew : POwn Try.prog E.row E.src 7 [intsL xs] 47 2 (· = [[intsL (xs.take 900), iv 0]]) := by rw [hr, hs]; exact new_pf xs hl
  refine callB_own hnew hP en_7 (args_same (by simp [go_sem, intsL])) (by simp [srefs_imm, go_sem, intsL]) ⟨_, rfl⟩ ?_
  rintro es rfl
  simp [go_sem, hP]
  refine awp_adopt 3 (ty := 47) (xs := xs.take 900) (at_ := 0) hr hs hW (by simp [go_sem]) (by simp [go_sem, intsL]) (by omega) (by simp; omega) (fun x hx' => hx x (List.mem_of_mem_take hx')) (by rw [hN]; kernel_rfl) ?_
  intro E' p hP' hr' hN' hW'
  rw [hP] at hP'
  rw [hN] at hN'
  clear hnew hP hr hs hW hN E
  rename Env => E
  rename E.P = _ => hP
  rename E.row = _ => hr
  rename E.N = _ => hN
  rename (∀ b, ¬ E.W b) => hW
  obtain ⟨src, hs⟩ : ∃ src, E.src = src := ⟨_, rfl⟩
  have up : ∀ {f : FuncId} {args : List AV} {Q : AV → Prop}, PFun Try.prog (some p) src f args Q → PFun Try.prog E.row E.src f args Q := fun h => hr ▸ hs ▸ h

  simp -implicitDefEqProofs [-getElem?_pos, go_sem, hP]
  refine callB_isQ (up (flows_pf p src 8 (by omega))) hP en_8 (by simp [go_sem]) ⟨flowsL [], ⟨[], rfl, by simp, by simp⟩, imm_flowsL _⟩ ?_
  rintro r ⟨a, rfl, hal, ha⟩ _
  simp -implicitDefEqProofs [-getElem?_pos, go_sem, hP]
  refine callB_isQ (up (flows_pf p src 8 (by omega))) hP en_8 (by simp [go_sem]) ⟨flowsL [], ⟨[], rfl, by simp, by simp⟩, imm_flowsL _⟩ ?_
  rintro r ⟨b, rfl, hbl, hb⟩ _
  obtain ⟨x, hx'⟩ : ∃ x, x = isort befB (a ++ b) := ⟨_, rfl⟩
  obtain ⟨y, hy'⟩ : ∃ y, y = isort befB (b ++ a) := ⟨_, rfl⟩
  have hxl : x.length = a.length + b.length := by rw [hx', isort_len]; simp
  have hyl : y.length = a.length + b.length := by rw [hy', isort_len]; simp; omega
  have m1 := merge_pf [a, b] (a ++ b) (by simp) (by simp) (by simp; omega)
  have m2 := merge_pf [b, a] (b ++ a) (by simp) (by simp) (by simp; omega)
  rw [gen_merge (gen_app ha hb) (by simp; omega), ← hx'] at m1
  rw [gen_merge (gen_app hb ha) (by simp; omega), ← hy'] at m2
  have hxg : ∀ f, f ∈ x → GenFlow f := hx' ▸ gen_sort (gen_app ha hb)
  have hyg : ∀ f, f ∈ y → GenFlow f := hy' ▸ gen_sort (gen_app hb ha)
  have p1 := project_pf 0 x 0 31 (by omega)
  have p2 := project_pf 0 y 0 31 (by omega)
  rw [show (31 : Int) = ((31 : Nat) : Int) from rfl, gen_project hxg (by omega) (by omega) 31 (by omega)] at p1
  rw [show (31 : Int) = ((31 : Nat) : Int) from rfl, gen_project hyg (by omega) (by omega) 31 (by omega)] at p2
  have hperm : x.Perm y := by
    rw [hx', hy']
    exact (isort_perm _ _).trans ((List.perm_append_comm).trans (isort_perm _ _).symm)
  rw [posns_perm hperm] at p1
  obtain ⟨ps, hps⟩ : ∃ ps, ps = posns 0 y (31 + 1) := ⟨_, rfl⟩
  have hpl : ps.length ≤ 100000 := by rw [hps, posns_len]; omega
  rw [← hps] at p1 p2
  have o1 := ordered_pf x (by omega) (hx' ▸ sorted_get _)
  have o2 := ordered_pf y (by omega) (hy' ▸ sorted_get _)
  have pp := positions_pf ps ps hpl hpl
  clear hps hperm hxg hyg hx' hy'
  have e1 : (AV.list 1 ([a, b].map fun l => [flowsL l])) = .list 1 [[flowsL a], [flowsL b]] := rfl
  have e2 : (AV.list 1 ([b, a].map fun l => [flowsL l])) = .list 1 [[flowsL b], [flowsL a]] := rfl
  rw [e1] at m1
  rw [e2] at m2
  have wl := wrap_in ((a.length : Int) + b.length) (by omega)
  have ia := imm_flowsL a
  have ib := imm_flowsL b
  have ix := imm_flowsL x
  have iy := imm_flowsL y
  have ip := imm_posL ps
  have la : ∀ H, alen H (flowsL a) = some (a.length : Int) := fun H => by simp [flowsL, alen]
  have lb : ∀ H, alen H (flowsL b) = some (b.length : Int) := fun H => by simp [flowsL, alen]
  have lx : ∀ H, alen H (flowsL x) = some ((a.length : Int) + b.length) := fun H => by simp [flowsL, alen, hxl]
  have ca : ∀ l, (flowsL l).cells? = some [flowsL l] := fun l => rfl
  have ce : ∀ l, (flowsL l).cellish = true := fun l => rfl
  simp -implicitDefEqProofs [-getElem?_pos, go_sem, hP, ca, ce]
  refine callB_is (m1.lift _ _) hP en_15 (by simp [imm_list, ia, ib]) (imm_pair ix .sc) ?_
  simp -implicitDefEqProofs [-getElem?_pos, go_sem, hP, ca, ce]
  refine callB_is (m2.lift _ _) hP en_15 (by simp [imm_list, ia, ib]) (imm_pair iy .sc) ?_
  simp -implicitDefEqProofs [-getElem?_pos, go_sem, hP]
  refine callB_is (p1.lift _ _) hP en_10 (by simp [imm_sc, imm_flowsL]) (imm_pair ip .sc) ?_
  simp -implicitDefEqProofs [-getElem?_pos, go_sem, hP]
  refine callB_is (p2.lift _ _) hP en_10 (by simp [imm_sc, imm_flowsL]) (imm_pair ip .sc) ?_
  simp -implicitDefEqProofs [-getElem?_pos, go_sem, hP, la, lb, lx, wl]
  refine callB_is (o1.lift _ _) hP en_16 (by simp [imm_sc, imm_flowsL]) .sc ?_
  simp -implicitDefEqProofs [-getElem?_pos, go_sem, hP]
  refine callB_is (o2.lift _ _) hP en_16 (by simp [imm_sc, imm_flowsL]) .sc ?_
  simp -implicitDefEqProofs [-getElem?_pos, go_sem, hP]
  refine callB_flat (pp.lift _ _) hP en_11 (args_same (by simp [ip])) ⟨bv true, true, rfl, by simp⟩ (by rintro r ⟨t, rfl, _⟩; exact .sc) ?_
  rintro r ⟨t, rfl, ht⟩
  have ht : t = true := by simpa using ht
  subst ht
  simp -implicitDefEqProofs [-getElem?_pos, go_sem, hP]
  refine callB_pure sane_pf hP en_12 (by simp [go_sem]) .sc ?_
  simp -implicitDefEqProofs [-getElem?_pos, go_sem, hP]

/-- All that flows. -/
def sumA (fs : List Flow) : Int := (fs.map (·.a)).sum
theorem sumA_snoc (fs : List Flow) (f : Flow) : sumA (fs ++ [f]) = sumA fs + f.a := by simp [sumA]
theorem sumA_small : ∀ fs : List Flow, (∀ f, f ∈ fs → GenFlow f) → -700 * (fs.length : Int) ≤ sumA fs ∧ sumA fs ≤ 700 * (fs.length : Int)
  | [], _ => by simp [sumA]
  | f :: fs, h => by
    have h1 := sumA_small fs fun g hg => h g (List.mem_cons_of_mem _ hg)
    have h2 := gen_small (h f (List.mem_cons_self ..))
    have e : sumA (f :: fs) = f.a + sumA fs := by simp [sumA]
    rw [e, List.length_cons]
    omega
theorem sumA_all : ∀ fs : List Flow, (∀ f, f ∈ fs → GenFlow f) → upTo fs 31 = sumA fs
  | [], _ => rfl
  | f :: fs, h => by
    have h1 := sumA_all fs fun g hg => h g (List.mem_cons_of_mem _ hg)
    have h2 := (h f (List.mem_cons_self ..)).1
    rw [upTo_cons, h1, if_pos (by omega)]
    simp [sumA]

set_option maxHeartbeats 1000000 in
theorem adds_law_pf (xs : List Int) (hx : Small xs) (hl : xs.length ≤ 9223372036854775807) :
    PFun Try.prog none none 5 [intsL xs] (· = bv true) := by
  refine pfun_introA Try.func5 rfl (by simp [Try.f5]) ?_
  intro E hP hr hs hW hN
  refine awp_cut (by rw [hN]; kernel_rfl) ?_
  simp [go_sem, hP]
  refine awp_cut (by rw [hN]; kernel_rfl) ?_
  simp [go_sem, hP]
  have hnew : POwn Try.prog E.row E.src 7 [intsL xs] 47 2 (· = [[intsL (xs.take 900), iv 0]]) := by rw [hr, hs]; exact new_pf xs hl
  refine callB_own hnew hP en_7 (args_same (by simp [go_sem, intsL])) (by simp [srefs_imm, go_sem, intsL]) ⟨_, rfl⟩ ?_
  rintro es rfl
  simp [go_sem, hP]
  refine awp_adopt 3 (ty := 47) (xs := xs.take 900) (at_ := 0) hr hs hW (by simp [go_sem]) (by simp [go_sem, intsL]) (by omega) (by simp; omega) (fun x hx' => hx x (List.mem_of_mem_take hx')) (by rw [hN]; kernel_rfl) ?_
  intro E' p hP' hr' hN' hW'
  rw [hP] at hP'
  rw [hN] at hN'
  clear hnew hP hr hs hW hN E
  rename Env => E
  rename E.P = _ => hP
  rename E.row = _ => hr
  rename E.N = _ => hN
  rename (∀ b, ¬ E.W b) => hW
  obtain ⟨src, hs⟩ : ∃ src, E.src = src := ⟨_, rfl⟩
  have up : ∀ {f : FuncId} {args : List AV} {Q : AV → Prop}, PFun Try.prog (some p) src f args Q → PFun Try.prog E.row E.src f args Q := fun h => hr ▸ hs ▸ h

  simp -implicitDefEqProofs [-getElem?_pos, go_sem, hP]
  refine callB_isQ (up (flows_pf p src 8 (by omega))) hP en_8 (by simp [go_sem]) ⟨flowsL [], ⟨[], rfl, by simp, by simp⟩, imm_flowsL _⟩ ?_
  rintro r ⟨a, rfl, hal, ha⟩ _
  simp -implicitDefEqProofs [-getElem?_pos, go_sem, hP]
  refine callB_isQ (up (flows_pf p src 8 (by omega))) hP en_8 (by simp [go_sem]) ⟨flowsL [], ⟨[], rfl, by simp, by simp⟩, imm_flowsL _⟩ ?_
  rintro r ⟨b, rfl, hbl, hb⟩ _
  simp -implicitDefEqProofs [-getElem?_pos, go_sem, hP]
  refine callB_isQ (up (range_pf p src (-100) 500 (by omega) (by omega))) hP en_9 (by simp [go_sem]) ⟨iv 0, ⟨0, rfl, by omega, by omega⟩, .sc⟩ ?_
  rintro r ⟨o, rfl, ho, _⟩ _
  have ho := ho (by omega)
  obtain ⟨x, hx'⟩ : ∃ x, x = isort befB (a ++ b) := ⟨_, rfl⟩
  have hxl : x.length = a.length + b.length := by rw [hx', isort_len]; simp
  have m1 := merge_pf [a, b] (a ++ b) (by simp) (by simp) (by simp; omega)
  rw [gen_merge (gen_app ha hb) (by simp; omega), ← hx'] at m1
  have hxg : ∀ f, f ∈ x → GenFlow f := hx' ▸ gen_sort (gen_app ha hb)
  have p1 := project_pf o a 0 31 (by omega)
  have p2 := project_pf o b 0 31 (by omega)
  have p3 := project_pf o x 0 31 (by omega)
  rw [show (31 : Int) = ((31 : Nat) : Int) from rfl, gen_project ha (by omega) (by omega) 31 (by omega)] at p1
  rw [show (31 : Int) = ((31 : Nat) : Int) from rfl, gen_project hb (by omega) (by omega) 31 (by omega)] at p2
  rw [show (31 : Int) = ((31 : Nat) : Int) from rfl, gen_project hxg (by omega) (by omega) 31 (by omega)] at p3
  have hup : ∀ i, upTo x i = upTo a i + upTo b i := fun i => by rw [hx', upTo_perm (isort_perm _ _), upTo_app]
  have hua : ∀ i, -6000 ≤ upTo a i ∧ upTo a i ≤ 6000 := fun i => by have := upTo_small i a fun f h => gen_small (ha f h); omega
  have hub : ∀ i, -6000 ≤ upTo b i ∧ upTo b i ≤ 6000 := fun i => by have := upTo_small i b fun f h => gen_small (hb f h); omega
  have hall := sumA_all x hxg
  obtain ⟨pa, hpa⟩ : ∃ ps, ps = posns o a (31 + 1) := ⟨_, rfl⟩
  obtain ⟨pb, hpb⟩ : ∃ ps, ps = posns o b (31 + 1) := ⟨_, rfl⟩
  obtain ⟨px, hpx⟩ : ∃ ps, ps = posns o x (31 + 1) := ⟨_, rfl⟩
  have la : pa.length = 32 := by rw [hpa, posns_len]
  have lb : pb.length = 32 := by rw [hpb, posns_len]
  have lx : px.length = 32 := by rw [hpx, posns_len]
  have ga : ∀ k : Nat, k < 32 → pa[k]? = some ⟨k, o + upTo a k⟩ := fun k hk => by rw [hpa, posns_get _ _ _ _ hk]
  have gb : ∀ k : Nat, k < 32 → pb[k]? = some ⟨k, o + upTo b k⟩ := fun k hk => by rw [hpb, posns_get _ _ _ _ hk]
  have gx : ∀ k : Nat, k < 32 → px[k]? = some ⟨k, o + upTo x k⟩ := fun k hk => by rw [hpx, posns_get _ _ _ _ hk]
  rw [← hpa] at p1
  rw [← hpb] at p2
  rw [← hpx] at p3
  clear hpa hpb hpx hx'
  have e1 : (AV.list 1 ([a, b].map fun l => [flowsL l])) = .list 1 [[flowsL a], [flowsL b]] := rfl
  rw [e1] at m1
  have ia := imm_flowsL a
  have ib := imm_flowsL b
  have ix := imm_flowsL x
  have ipa := imm_posL pa
  have ipb := imm_posL pb
  have ipx := imm_posL px
  have ca : ∀ l, (flowsL l).cells? = some [flowsL l] := fun l => rfl
  have ce : ∀ l, (flowsL l).cellish = true := fun l => rfl
  simp -implicitDefEqProofs [-getElem?_pos, go_sem, hP, ca, ce]
  refine callB_is (m1.lift _ _) hP en_15 (by simp [imm_list, ia, ib]) (imm_pair ix .sc) ?_
  simp -implicitDefEqProofs [-getElem?_pos, go_sem, hP]
  refine callB_is (p1.lift _ _) hP en_10 (by simp [imm_sc, imm_flowsL]) (imm_pair ipa .sc) ?_
  simp -implicitDefEqProofs [-getElem?_pos, go_sem, hP]
  refine callB_is (p2.lift _ _) hP en_10 (by simp [imm_sc, imm_flowsL]) (imm_pair ipb .sc) ?_
  simp -implicitDefEqProofs [-getElem?_pos, go_sem, hP]
  refine callB_is (p3.lift _ _) hP en_10 (by simp [imm_sc, imm_flowsL]) (imm_pair ipx .sc) ?_
  have lenA : ∀ H, alen H (posL pa) = some 32 := fun H => by simp [posL, alen, la]
  have lenB : ∀ H, alen H (posL pb) = some 32 := fun H => by simp [posL, alen, lb]
  have lenX : ∀ H, alen H (posL px) = some 32 := fun H => by simp [posL, alen, lx]
  have lenF : ∀ H, alen H (flowsL x) = some (x.length : Int) := fun H => by simp [flowsL, alen]
  simp -implicitDefEqProofs [-getElem?_pos, go_sem, hP, lenA, lenB, lenX, lenF]
  obtain ⟨I, hI⟩ : ∃ I : Nat → St → Prop, I = fun m s => ∃ k : Nat, k ≤ x.length ∧ m = x.length - k ∧ s.t 82 = flowsL x ∧ s.t 83 = iv x.length ∧ s.t 84 = iv k ∧ s.t 15 = iv (o + sumA (x.take k)) ∧ s.t 6 = iv o ∧ s.t 9 = posL pa ∧ s.t 11 = posL pb ∧ s.t 13 = posL px := ⟨_, rfl⟩
  refine aloop0 I x.length (by rw [hN]; rfl) ?_ ?_
  · rw [hI]
    exact ⟨0, by omega, by omega, by simp -implicitDefEqProofs [-getElem?_pos, go_sem], by simp -implicitDefEqProofs [-getElem?_pos, go_sem], by simp -implicitDefEqProofs [-getElem?_pos, go_sem], by simp -implicitDefEqProofs [-getElem?_pos, go_sem, sumA], by simp -implicitDefEqProofs [-getElem?_pos, go_sem], by simp -implicitDefEqProofs [-getElem?_pos, go_sem], by simp -implicitDefEqProofs [-getElem?_pos, go_sem], by simp -implicitDefEqProofs [-getElem?_pos, go_sem]⟩
  intro m s hs'
  rw [hI] at hs'
  obtain ⟨k, hk, hm, t82, t83, t84, t15, t6, t9, t11, t13⟩ := hs'
  simp -implicitDefEqProofs [-getElem?_pos, go_sem, hP, t83, t84]
  refine condP (fun h => ?_) (fun h => ?_)
  · have hk : k < x.length := by simpa using h
    obtain ⟨f, hf⟩ : ∃ f, x[k]? = some f := ⟨_, List.getElem?_eq_getElem hk⟩
    have e1 : x.take (k + 1) = x.take k ++ [f] := by rw [List.take_add_one, hf]; rfl
    have wk := wrap_in ((k : Int) + 1) (by omega)
    have hs1 := sumA_small (x.take k) fun f h => hxg f (List.mem_of_mem_take h)
    have hs2 := gen_small (hxg f (List.mem_of_getElem? hf))
    have hlt : (x.take k).length ≤ 16 := by simp; omega
    have ws := wrap_in (o + sumA (x.take k) + f.a) (by omega)
    simp -implicitDefEqProofs [-getElem?_pos, go_sem, hP, t82, t84, t15, flowsL, hk, hf, Flow.cells, wk, ws]
    refine ⟨x.length - (k + 1), by omega, ?_⟩
    rw [hI]
    exact ⟨k + 1, by omega, rfl, by simp -implicitDefEqProofs [-getElem?_pos, go_sem, t82], by simp -implicitDefEqProofs [-getElem?_pos, go_sem, t83], by simp -implicitDefEqProofs [-getElem?_pos, go_sem], by simp -implicitDefEqProofs [-getElem?_pos, go_sem, e1, sumA_snoc]; omega, by simp -implicitDefEqProofs [-getElem?_pos, go_sem, t6], by simp -implicitDefEqProofs [-getElem?_pos, go_sem, t9], by simp -implicitDefEqProofs [-getElem?_pos, go_sem, t11], by simp -implicitDefEqProofs [-getElem?_pos, go_sem, t13]⟩
  have hk : x.length ≤ k := by simpa using h
  rw [List.take_of_length_le hk] at t15
  simp -implicitDefEqProofs [-getElem?_pos, go_sem, hP, t13, lenX]
  obtain ⟨J, hJ⟩ : ∃ J : Nat → St → Prop, J = fun m s => ∃ k : Nat, k ≤ 32 ∧ m = 32 - k ∧ s.t 94 = iv 32 ∧ s.t 95 = iv k ∧ s.t 15 = iv (o + sumA x) ∧ s.t 6 = iv o ∧ s.t 9 = posL pa ∧ s.t 11 = posL pb ∧ s.t 13 = posL px := ⟨_, rfl⟩
  refine aloop0 J 32 (by rw [hN]; rfl) ?_ ?_
  · rw [hJ]
    exact ⟨0, by omega, by omega, by simp -implicitDefEqProofs [-getElem?_pos, go_sem], by simp -implicitDefEqProofs [-getElem?_pos, go_sem], by simp -implicitDefEqProofs [-getElem?_pos, go_sem, t15], by simp -implicitDefEqProofs [-getElem?_pos, go_sem, t6], by simp -implicitDefEqProofs [-getElem?_pos, go_sem, t9], by simp -implicitDefEqProofs [-getElem?_pos, go_sem, t11], by simp -implicitDefEqProofs [-getElem?_pos, go_sem, t13]⟩
  clear t82 t83 t84 t15 t6 t9 t11 t13
  intro m s hs'
  rw [hJ] at hs'
  obtain ⟨k, hk, hm, t94, t95, t15, t6, t9, t11, t13⟩ := hs'
  simp -implicitDefEqProofs [-getElem?_pos, go_sem, hP, t94, t95]
  refine condP (fun h => ?_) (fun h => ?_)
  · have hk : k < 32 := by simp at h; omega
    have wk := wrap_in ((k : Int) + 1) (by omega)
    have ha := hua k
    have hb := hub k
    have w1 := wrap_in (o + upTo a k + (o + upTo b k)) (by omega)
    have w2 := wrap_in (o + (upTo a k + upTo b k)) (by omega)
    have e : (o + upTo a k + (o + upTo b k) - o) = o + (upTo a k + upTo b k) := by omega
    simp -implicitDefEqProofs [-getElem?_pos, go_sem, hP, t95]
    refine adrawB (fun _ => true) [] hP (by kernel_rfl) (by kernel_rfl) ?_
    simp -implicitDefEqProofs [-getElem?_pos, go_sem, hP, t95, t6, t9, t11, t13, posL, ga k hk, gb k hk, gx k hk, Pos.cells, w1, w2, e, hup, wk]
    refine ⟨32 - (k + 1), by omega, ?_⟩
    rw [hJ]
    exact ⟨k + 1, by omega, rfl, by simp -implicitDefEqProofs [-getElem?_pos, go_sem, t94], by simp -implicitDefEqProofs [-getElem?_pos, go_sem], by simp -implicitDefEqProofs [-getElem?_pos, go_sem, t15], by simp -implicitDefEqProofs [-getElem?_pos, go_sem, t6], by simp -implicitDefEqProofs [-getElem?_pos, go_sem, t9], by simp -implicitDefEqProofs [-getElem?_pos, go_sem, t11], by simp -implicitDefEqProofs [-getElem?_pos, go_sem, t13]⟩
  · have h31 := gx 31 (by omega)
    rw [show ((31 : Nat) : Int) = 31 from rfl, hall] at h31
    simp -implicitDefEqProofs [-getElem?_pos, go_sem, hP, t13, t15, posL, h31, Pos.cells]
    refine callB_pure sane_pf hP en_12 (by simp [go_sem]) .sc ?_
    simp -implicitDefEqProofs [-getElem?_pos, go_sem, hP]

end Go.Proofs.Ytkicgnigaeopnaa
