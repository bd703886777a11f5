/- ForecastSplits: the plain law and the walk. -/
import Derived.Test.YtkicgnigaeopnaaSane29
set_option linter.unusedSimpArgs false
namespace Go.Proofs.Ytkicgnigaeopnaa
open Go.PA
open Go.RowKit

theorem gen_valid {f : Flow} (h : GenFlow f) : validB f = true := by
  obtain ⟨h1, h2, h3, h4⟩ := h
  simp at h2
  simp [validB, dayB, amongB]
  omega
theorem gen_small {f : Flow} (h : GenFlow f) : -700 ≤ f.a ∧ f.a ≤ 700 := by
  obtain ⟨_, h2, _⟩ := h
  simp at h2
  omega
theorem gen_check {fs : List Flow} (h : ∀ f, f ∈ fs → GenFlow f) (hl : fs.length ≤ 400) : checkI fs = 0 := by
  unfold checkI
  rw [if_neg (by omega), if_neg]
  intro ha
  obtain ⟨f, hf, hv⟩ := List.any_eq_true.1 ha
  rw [gen_valid (h f hf)] at hv
  cases hv
theorem delta_small (d : Int) : ∀ (fs : List Flow), (∀ f, f ∈ fs → -700 ≤ f.a ∧ f.a ≤ 700) → -700 * (fs.length : Int) ≤ delta fs d ∧ delta fs d ≤ 700 * (fs.length : Int)
  | [], _ => by simp [delta]
  | f :: fs, h => by
    have h1 := delta_small d fs fun g hg => h g (List.mem_cons_of_mem _ hg)
    have h2 := h f (List.mem_cons_self ..)
    have e : delta (f :: fs) d = delta [f] d + delta fs d := delta_app [f] fs d
    rw [e, delta_one, List.length_cons]
    split <;> omega
theorem run_some {fs : List Flow} {lo : Int} {B : Int} (hB : 0 ≤ B) (h : ∀ d, -B ≤ delta fs d ∧ delta fs d ≤ B) : ∀ (n i : Nat) (o : Int), -1000000000000000 + B * n ≤ o → o ≤ 1000000000000000 - B * n → ∃ l, run fs lo i n o = some l ∧ l.length = n
  | 0, i, o, _, _ => ⟨[], rfl, rfl⟩
  | n + 1, i, o, h1, h2 => by
    have hd := h (lo + i)
    have e : B * ((n + 1 : Nat) : Int) = B * n + B := by rw [Int.natCast_add, Int.mul_add]; simp
    rw [e] at h1 h2
    have hn : 0 ≤ B * (n : Int) := Int.mul_nonneg hB (by omega)
    obtain ⟨l, hl, hn'⟩ := run_some (lo := lo) hB h n (i + 1) (o + delta fs (lo + i)) (by omega) (by omega)
    refine ⟨⟨lo + i, o + delta fs (lo + i)⟩ :: l, ?_, by simp [hn']⟩
    rw [run, if_pos (by simp [totalB, amongB]; omega), hl]
    rfl
theorem run_shift (fs : List Flow) (lo : Int) (k : Nat) : ∀ (n i : Nat) (o : Int), run fs lo (k + i) n o = run fs (lo + k) i n o
  | 0, _, _ => rfl
  | n + 1, i, o => by
    have e : lo + ((k + i : Nat) : Int) = lo + k + i := by omega
    rw [run, run, e, ← run_shift fs lo k n (i + 1), Nat.add_assoc]
def lastA : Int → List Pos → Int
  | o, [] => o
  | _, p :: l => lastA p.a l
theorem run_app (fs : List Flow) (lo : Int) (n2 : Nat) : ∀ (n1 i : Nat) (o : Int), run fs lo i (n1 + n2) o = (run fs lo i n1 o).bind fun a => (run fs lo (i + n1) n2 (lastA o a)).map (a ++ ·)
  | 0, i, o => by simp [run, lastA]
  | n1 + 1, i, o => by
    rw [show n1 + 1 + n2 = (n1 + n2) + 1 from by omega, run, run]
    split
    · rw [run_app fs lo n2 n1 (i + 1)]
      rw [show i + 1 + n1 = i + (n1 + 1) from by omega]
      cases run fs lo (i + 1) n1 (o + delta fs (lo + i)) with
      | none => rfl
      | some a =>
        simp only [Option.bind_some, Option.map_some, lastA]
        cases run fs lo (i + (n1 + 1)) n2 (lastA (o + delta fs (lo + ↑i)) a) <;> simp
    · rfl
theorem lastA_get : ∀ (l : List Pos) (o : Int) (m : Nat) (h : l.length = m + 1), lastA o l = (l[m]'(by omega)).a
  | [], _, _, h => by simp at h
  | [p], _, m, h => by simp at h; subst h; rfl
  | p :: q :: l, o, m, h => by
    obtain ⟨m, rfl⟩ : ∃ m', m = m' + 1 := ⟨m - 1, by simp at h; omega⟩
    have := lastA_get (q :: l) p.a m (by simpa using h)
    simpa [lastA] using this

theorem run_total (fs : List Flow) (lo : Int) : ∀ (n i : Nat) (o : Int) (l : List Pos), totalB o = true → run fs lo i n o = some l → totalB (lastA o l) = true
  | 0, i, o, l, ho, h => by simp [run] at h; subst h; exact ho
  | n + 1, i, o, l, ho, h => by
    rw [run] at h
    split at h
    · rename_i ht
      rw [Option.map_eq_some_iff] at h
      obtain ⟨l', hl', rfl⟩ := h
      exact run_total fs lo n (i + 1) _ l' ht hl'
    · cases h

/-- The law, no program in sight. -/
theorem splits_law {fs : List Flow} {o : Int} {m : Nat} (hf : ∀ f, f ∈ fs → GenFlow f) (hl : fs.length ≤ 10) (ho : -100 ≤ o ∧ o ≤ 500) (hm : m < 30) :
    ∃ (a b : List Pos) (h : a.length = m + 1), project o fs 0 m = (a, 0) ∧ project (a[m]'(by omega)).a fs (m + 1) 32 = (b, 0) ∧ project o fs 0 32 = (a ++ b, 0) ∧ b.length = 32 - m := by
  have hc := gen_check hf (by omega)
  have hd : ∀ d, -7000 ≤ delta fs d ∧ delta fs d ≤ 7000 := fun d => by
    have := delta_small d fs fun f h => gen_small (hf f h)
    omega
  have hrun : run fs 0 0 33 o = (run fs 0 0 (m + 1) o).bind fun a => (run fs 0 (0 + (m + 1)) (32 - m) (lastA o a)).map (a ++ ·) := by
    rw [← run_app]
    congr 1
    omega
  obtain ⟨l, hl1, hl2⟩ := run_some (lo := 0) (B := 7000) (by omega) hd 33 0 o (by omega) (by omega)
  obtain ⟨a, ha, hal⟩ := run_some (lo := 0) (B := 7000) (by omega) hd (m + 1) 0 o (by omega) (by omega)
  rw [hl1, ha, Option.bind_some] at hrun
  cases hb : run fs 0 (0 + (m + 1)) (32 - m) (lastA o a) with
  | none => rw [hb] at hrun; cases hrun
  | some b =>
    rw [hb] at hrun
    simp only [Option.map_some, Option.some.injEq] at hrun
    have hlast := lastA_get a o m hal
    have hbl : b.length = 32 - m := by
      have := congrArg List.length hrun
      rw [hl2, List.length_append, hal] at this
      omega
    have pr : ∀ (o lo hi : Int) (n : Nat) (l : List Pos), totalB o = true → dayB lo = true → dayB hi = true → ¬ 1000 < hi - lo + 1 → (hi - lo + 1).toNat = n → run fs lo 0 n o = some l → project o fs lo hi = (l, 0) := fun o lo hi n l h1 h2 h3 h4 h5 h6 => by
      unfold project
      rw [if_neg (by simp [hc]), if_neg (by simp [h1, h2, h3]), if_neg h4, h5, h6]
    refine ⟨a, b, hal, pr _ _ _ (m + 1) _ ?_ ?_ ?_ ?_ ?_ ha, ?_, ?_, hbl⟩
    · simp [totalB, amongB]; omega
    · simp [dayB, amongB]
    · simp [dayB, amongB]; omega
    · omega
    · omega
    · rw [← hlast]
      refine pr _ _ _ (32 - m) _ (run_total fs 0 (m + 1) 0 o a (by simp [totalB, amongB]; omega) ha) ?_ ?_ ?_ ?_ ?_
      · simp [dayB, amongB]; omega
      · simp [dayB, amongB]
      · omega
      · omega
      · have := run_shift fs 0 (m + 1) (32 - m) 0 (lastA o a)
        rw [Nat.add_zero] at this
        rw [Nat.zero_add] at hb
        rw [hb] at this
        rw [this]
        congr 1
        omega
    · rw [← hrun]
      refine pr _ _ _ 33 _ ?_ ?_ ?_ ?_ ?_ hl1
      · simp [totalB, amongB]; omega
      · simp [dayB, amongB]
      · simp [dayB, amongB]
      · omega
      · omega

theorem splits_pf (xs : List Int) (m : Nat) (hx : Small xs) (hl : xs.length ≤ 9223372036854775807) (hm : m ≤ 255) :
    PFun Try.prog none none 3 [intsL xs, .sc (.int .u8 m)] (· = bv true) := by
  refine pfun_introA Try.func3 rfl (by simp [Try.f3]) ?_
  intro E hP hr hs hW hN
  refine awp_cut (by rw [hN]; kernel_rfl) ?_
  simp [go_sem, hP]
  refine awp_cut (by rw [hN]; kernel_rfl) ?_
  simp [go_sem, hP]
  have hnew : POwn Try.prog E.row E.src 7 [intsL xs] 47 2 (· = [[intsL (xs.take 900), iv 0]]) := by rw [hr, hs]; exact new_pf xs hl
  refine callB_own hnew hP en_7 (args_same (by simp [go_sem, intsL])) (by simp [srefs_imm, go_sem, intsL]) ⟨_, rfl⟩ ?_
  rintro es rfl
  simp [go_sem, hP]
  refine awp_adopt 5 (ty := 47) (xs := xs.take 900) (at_ := 0) hr hs hW (by simp [go_sem]) (by simp [go_sem, intsL]) (by omega) (by simp; omega) (fun x hx' => hx x (List.mem_of_mem_take hx')) (by rw [hN]; kernel_rfl) ?_
  intro E' p hP' hr' hN' hW'
  rw [hP] at hP'
  rw [hN] at hN'
  clear hnew hP hr hs hW hN E
  have up : ∀ {f : FuncId} {args : List AV} {Q : AV → Prop}, PFun Try.prog (some p) E'.src f args Q → PFun Try.prog E'.row E'.src f args Q := fun h => hr' ▸ h
  simp [go_sem, hP']
  refine callB_isQ (up (flows_pf p E'.src 10 (by omega))) hP' en_8 (by simp [go_sem]) ⟨flowsL [], ⟨[], rfl, by simp, by simp⟩, imm_flowsL _⟩ ?_
  rintro r ⟨fs, rfl, hfl, hf⟩ _
  simp [go_sem, hP']
  refine callB_isQ (up (range_pf p E'.src (-100) 500 (by omega) (by omega))) hP' en_9 (by simp [go_sem]) ⟨iv 0, ⟨0, rfl, by omega, by omega⟩, .sc⟩ ?_
  rintro r ⟨o, rfl, ho, _⟩ _
  have ho := ho (by omega)
  obtain ⟨k, hk⟩ : ∃ k, k = m % 30 := ⟨_, rfl⟩
  have e1 : (IntKind.i64.wrap (m : Int)).tmod 30 = (k : Int) := by
    rw [wrap_in _ (by omega), Int.tmod_eq_emod_of_nonneg (by omega)]
    omega
  obtain ⟨a, b, hal, h1, h2, h3, hbl⟩ := splits_law hf hfl ho (show k < 30 by omega)
  have w1 := wrap_in ((k : Int) + 1) (by omega)
  have hka : k < a.length := by omega
  have p1 := project_pf o fs 0 k (by omega)
  rw [h1] at p1
  have p2 := project_pf (a[k]'hka).a fs (k + 1) 32 (by omega)
  rw [h2] at p2
  have p3 := project_pf o fs 0 32 (by omega)
  rw [h3] at p3
  have hab : (a ++ b).length = a.length + b.length := List.length_append
  have p4 := positions_pf (a ++ b) (a ++ b) (by omega) (by omega)
  have i3 := imm_posL (a ++ b)
  have i1 := imm_posL a
  have i2 := imm_posL b
  have hgk : (a.map Pos.cells)[k]? = some [iv (a[k]'hka).d, iv (a[k]'hka).a] := by simp [hka, Pos.cells]
  have hle : (a.map Pos.cells).length = k + 1 := by simp [hal]
  have hleb : (b.map Pos.cells).length = 32 - k := by simp [hbl]
  simp only [posL, List.map_append] at p1 p2 p3 p4 i1 i2 i3
  generalize a[k]'hka = q at p2 hgk
  generalize a.map Pos.cells = ea at p1 p2 p3 p4 hgk hle i1 i3
  generalize b.map Pos.cells = eb at p2 p3 p4 hleb i2 i3
  clear h1 h2 h3 hab hal hbl hka
  have hlen : (ea.length : Int) = (k : Int) + 1 := by omega
  have hlt : k < ea.length := by omega
  have hgk' : ea[k] = [iv q.d, iv q.a] := by
    rw [List.getElem?_eq_getElem hlt] at hgk
    exact Option.some.inj hgk
  simp [go_sem, hP', aconv, e1]
  refine callB_is (p1.lift _ _) hP' en_10 (by simp [imm_sc, imm_flowsL]) (imm_pair i1 .sc) ?_
  simp only [astep_eq, aguard_none, OB_some, OI_true, aeff_move, OV_eq, eval_tmp, putT_some, aeff_extract, upd_get, if_true, aextract_0, aextract_1, aeff_assign, aops_cons, aops_nil, athen_normal, awp_seq, awp_reg, reduceIte, Nat.reduceEqDiff]
  simp [go_sem, hP', w1, hlen, hlt, hgk']
  refine callB_is (p2.lift _ _) hP' en_10 (by simp [imm_sc, imm_flowsL]) (imm_pair i2 .sc) ?_
  simp [go_sem, hP']
  refine callB_is (p3.lift _ _) hP' en_10 (by simp [imm_sc, imm_flowsL]) (imm_pair i3 .sc) ?_
  simp [go_sem, hP']
  refine ⟨by omega, by omega, by omega, by omega, ?_⟩
  refine callB_flat (p4.lift _ _) hP' en_11 ?_ ⟨bv true, true, rfl, by simp⟩ (by rintro r ⟨t, rfl, _⟩; exact .sc) ?_
  · have e : view [none, none, some ⟨33, 2, ea ++ eb⟩] (.sref 2 0 (ea.length + eb.length)) = .list 2 (ea ++ eb) := by
      simp [view_sref, viewS, ← List.length_append]
    exact .cons (by rw [e]; exact .refl _) (by rw [e]; exact i3) (args_same (by simpa using i3))
  rintro r ⟨t, rfl, ht⟩
  have ht : t = true := by simpa using ht
  subst ht
  simp [go_sem, hP']
  refine callB_pure sane_pf hP' en_12 (by simp [go_sem]) .sc ?_
  simp [go_sem, hP', Try.f3]

end Go.Proofs.Ytkicgnigaeopnaa
