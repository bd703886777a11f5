/- TaxesDays. -/
import Derived.Test.YtabdihohphlheaaDoorTax5
set_option linter.unusedSimpArgs false
set_option linter.unusedVariables false
namespace Go.Proofs.YtabdihohphlheaaDoor
open Go.PA
open Go.RowKit

theorem days_gen {t : TTax} (h : GenTax t) : daysD t = (List.range t.Times.toNat).map fun (i : Nat) => openD (t.First + 30 * t.Every * i) := by
  have hk := h.ok.1
  obtain ⟨_, _, _, _, _, ⟨f1, f2⟩, h7, ⟨n1, n2⟩⟩ := h
  simp only [List.mem_cons, List.not_mem_nil, or_false] at h7
  rw [daysD, if_pos hk, daysGo]
  have key : ∀ m : Nat, m ≤ 6 → ((List.range m).filterMap fun (i : Nat) => if (nextD (t.First + 30 * t.Every * i)).2 = 0 then some (nextD (t.First + 30 * t.Every * i)).1 else none) = (List.range m).map fun (i : Nat) => openD (t.First + 30 * t.Every * i) := by
    intro m
    induction m with
    | zero => intro _; rfl
    | succ i ih =>
    intro hi
    rw [List.range_succ, List.filterMap_append, List.map_append, ih (by omega)]
    congr 1
    have b : 0 ≤ t.First + 30 * t.Every * i ∧ t.First + 30 * t.Every * i ≤ 3000 := by
      rcases h7 with e | e | e | e <;> rw [e] <;> omega
    obtain ⟨x, hx⟩ : ∃ x, x = t.First + 30 * t.Every * i := ⟨_, rfl⟩
    rw [← hx] at b
    have e : nextD x = (openD x, 0) := by
      rw [nextD, if_pos]
      unfold openD
      split <;> omega
    simp [← hx, e]
  exact key _ (by omega)

theorem openD_facts (x : Int) (h : 0 ≤ x) : (openD x) % 7 ≤ 4 ∧ x ≤ openD x ∧ openD x ≤ x + 2 := by
  unfold openD
  split <;> omega
theorem openD_mono {x y : Int} (h : x ≤ y) : openD x ≤ openD y := by
  unfold openD
  split <;> split <;> omega

set_option maxHeartbeats 2000000 in
theorem days28_pf (xs : List Int) (hx : Small xs) (hl : xs.length ≤ 9223372036854775807) : PFun Tryd.prog none none 3 [intsL xs] (· = bv true) := by
  refine pfun_introA Tryd.func3 rfl (by simp [Tryd.f3]) ?_
  intro E hP hr hs hW hN
  refine awp_cut (by rw [hN]; kernel_rfl) ?_
  simp [go_sem, hP]
  refine awp_cut (by rw [hN]; kernel_rfl) ?_
  simp [go_sem, hP]
  have hnew : POwn Tryd.prog E.row E.src 7 [intsL xs] 53 2 (· = [[intsL (xs.take 900), iv 0]]) := by rw [hr, hs]; exact new_pf xs hl
  refine callB_own hnew hP en_7 (args_same (by simp [go_sem, intsL])) (by simp [srefs_imm, go_sem, intsL]) ⟨_, rfl⟩ ?_
  rintro es rfl
  simp [go_sem, hP]
  refine awp_adopt 3 (ty := 53) (xs := xs.take 900) (at_ := 0) hr hs hW (by simp [go_sem]) (by simp [go_sem, intsL]) (by omega) (by simp; omega) (fun x hx' => hx x (List.mem_of_mem_take hx')) (by rw [hN]; kernel_rfl) ?_
  intro E' p hP' hr' hN' hW'
  rw [hP] at hP'
  rw [hN] at hN'
  clear hnew hP hr hs hW hN E
  rename Env => E
  rename E.P = _ => hP
  rename E.row = _ => hr
  rename E.N = _ => hN
  rename (∀ b, ¬ E.W b) => hW
  obtain ⟨src, hs⟩ : ∃ src, E.src = src := ⟨_, rfl⟩
  have up : ∀ {f : FuncId} {args : List AV} {Q : AV → Prop}, PFun Tryd.prog (some p) src f args Q → PFun Tryd.prog E.row E.src f args Q := fun h => hr ▸ hs ▸ h

  have saneB : ∀ {H : Heap} {C : AV → Heap → Prop} {b : Bx C}, C (bv true) H → CallB E 10 [] H C b := fun h => callB_pure sane28_pf hP en_10 (args_nil.2 trivial) .sc h
  simp -dsimp -implicitDefEqProofs [-getElem?_pos, go_sem, hP]
  refine callB_isQ (up (stax_pf p src)) hP en_8 (by simp [go_sem]) taxQ_ex ?_
  rintro r ⟨t, rfl, hg⟩ _
  have dy := tdays_pf t (by have := hg.ok.2; omega)
  have it := imm_tax t
  have hd := days_gen hg
  obtain ⟨_, _, _, _, _, ⟨f1, f2⟩, h7, ⟨n1, n2⟩⟩ := hg
  simp only [List.mem_cons, List.not_mem_nil, or_false] at h7
  obtain ⟨ds, hds⟩ : ∃ ds, ds = daysD t := ⟨_, rfl⟩
  obtain ⟨n, hn⟩ : ∃ n : Nat, n = t.Times.toNat := ⟨_, rfl⟩
  have hT : t.Times = n := by omega
  have ld : ds.length = n := by rw [hds, hd, List.length_map, List.length_range, hn]
  have hat : ∀ i, i < n → ds[i]? = some (openD (t.First + 30 * t.Every * i)) := fun i hi => by
    rw [hds, hd, List.getElem?_map, List.getElem?_range (by omega)]; rfl
  rw [← hds] at dy
  rw [cTx] at dy it
  clear hd hds
  simp -dsimp -implicitDefEqProofs [-getElem?_pos, go_sem, hP, cTx]
  refine callB_is (dy.lift _ _) hP en_9 (by simpa using it) (imm_ints _) ?_
  simp -dsimp -implicitDefEqProofs [-getElem?_pos, go_sem, hP, intsL]
  obtain ⟨I, hI⟩ : ∃ I : Nat → St → Prop, I = fun m s => ∃ k : Nat, k ≤ n ∧ m = n - k ∧ s.t 4 = .ref 1 0 0 ∧ s.t 5 = .list 1 (ds.map fun x => [iv x]) ∧ s.t 15 = .list 1 (ds.map fun x => [iv x]) ∧ s.t 16 = iv n ∧ s.t 17 = iv k ∧ s.H[1]? = some (some ⟨26, 8, [[.sc (.string t.Code), iv t.Payer, iv t.Base, iv t.Num, iv t.Den, iv t.First, iv t.Every, iv t.Times]]⟩) := ⟨_, rfl⟩
  refine aloop0 I (n) (by rw [hN]; rfl) ?_ ?_
  · rw [hI]
    exact ⟨0, by omega, by omega, by simp -dsimp -implicitDefEqProofs [-getElem?_pos, go_sem], by simp -dsimp -implicitDefEqProofs [-getElem?_pos, go_sem], by simp -dsimp -implicitDefEqProofs [-getElem?_pos, go_sem], by simp -dsimp -implicitDefEqProofs [-getElem?_pos, go_sem, ld], by simp -dsimp -implicitDefEqProofs [-getElem?_pos, go_sem], by simp -dsimp -implicitDefEqProofs [-getElem?_pos, go_sem]⟩
  intro m s hs'
  rw [hI] at hs'
  obtain ⟨k, hk, hm, t4, t5, t15, t16, t17, h1⟩ := hs'
  have lt1 := (List.getElem?_eq_some_iff.1 h1).1
  subst hm
  simp -dsimp -implicitDefEqProofs [-getElem?_pos, go_sem, hP, t16, t17]
  refine condP (fun hh => ?_) (fun hh => ?_)
  rotate_left
  · simp -dsimp -implicitDefEqProofs [-getElem?_pos, go_sem, hP, t5, t4, h1, lt1, ld, hT]
    refine saneB ?_
    simp -dsimp -implicitDefEqProofs [-getElem?_pos, go_sem, hP]
  have hk : k < n := by
    simp at hh
    omega
  have wk := wrap_in ((k : Int) + 1) (by omega)
  have b : 0 ≤ t.First + 30 * t.Every * k ∧ t.First + 30 * t.Every * k ≤ 3000 := by
    rcases h7 with e | e | e | e <;> rw [e] <;> omega
  have bE : 1 ≤ t.Every ∧ t.Every ≤ 12 := by omega
  have e30 := wrap_in (30 * t.Every) (by omega)
  have ek : 0 ≤ 30 * t.Every * k ∧ 30 * t.Every * k ≤ 3000 := ⟨Int.mul_nonneg (by omega) (by omega), by omega⟩
  have e31 := wrap_in (30 * t.Every * k) (by omega)
  have e32 := wrap_in (t.First + 30 * t.Every * k) (by omega)
  obtain ⟨x, hx'⟩ : ∃ x, x = t.First + 30 * t.Every * k := ⟨_, rfl⟩
  have a1 := hat k hk
  rw [← hx'] at b e32 a1
  obtain ⟨o1, o2, o3⟩ := openD_facts x b.1
  have tm : (openD x).tmod 7 = openD x % 7 := Int.tmod_eq_emod_of_nonneg (by omega)
  have w2 := wrap_in (x + 2) (by omega)
  have d1 : decide (4 < openD x % 7) = false := decide_eq_false (by omega)
  have d2 : decide (openD x < x) = false := decide_eq_false (by omega)
  have d3 : decide (x + 2 < openD x) = false := decide_eq_false (by omega)
  have nxt : ∀ s' : St, s'.t 4 = .ref 1 0 0 → s'.t 5 = .list 1 (ds.map fun x => [iv x]) → s'.t 15 = .list 1 (ds.map fun x => [iv x]) → s'.t 16 = iv n → s'.t 17 = iv ((k : Int) + 1) → s'.H = s.H → ∃ n', n' < n - k ∧ I n' s' := fun s' b1 b2 b3 b4 b5 b6 => by
    refine ⟨n - (k + 1), by omega, ?_⟩
    rw [hI]
    exact ⟨k + 1, by omega, rfl, b1, b2, b3, b4, b5, by rw [b6]; exact h1⟩
  by_cases k0 : k = 0
  · have d4 : decide (0 < k) = false := decide_eq_false (by omega)
    simp -dsimp -implicitDefEqProofs [-getElem?_pos, go_sem, hP, t17, t15, a1, t4, h1, lt1, e30, e31, hx'.symm, e32, tm, d1, d2, w2, d3, d4, wk]
    exact nxt _ (by simp -dsimp -implicitDefEqProofs [-getElem?_pos, go_sem, t4]) (by simp -dsimp -implicitDefEqProofs [-getElem?_pos, go_sem, t5]) (by simp -dsimp -implicitDefEqProofs [-getElem?_pos, go_sem, t15]) (by simp -dsimp -implicitDefEqProofs [-getElem?_pos, go_sem, t16]) (by simp -dsimp -implicitDefEqProofs [-getElem?_pos, go_sem]) rfl
  have d4 : decide (0 < k) = true := decide_eq_true (by omega)
  have a0 := hat (k - 1) (by omega)
  obtain ⟨y, hy⟩ : ∃ y, y = t.First + 30 * t.Every * ((k - 1 : Nat) : Int) := ⟨_, rfl⟩
  rw [← hy] at a0
  have yx : y ≤ x := by
    rw [hy, hx']
    have : 30 * t.Every * ((k - 1 : Nat) : Int) ≤ 30 * t.Every * k := Int.mul_le_mul_of_nonneg_left (by omega) (by omega)
    omega
  have oy := openD_mono yx
  have d5 : decide (openD x < openD y) = false := decide_eq_false (by omega)
  have wm := wrap_in ((k : Int) - 1) (by omega)
  have tn : ((k : Int) - 1).toNat = k - 1 := by omega
  have gm : (1 : Int) ≤ (k : Int) := by omega
  simp -dsimp -implicitDefEqProofs [-getElem?_pos, go_sem, hP, t17, t15, a1, t4, h1, lt1, e30, e31, hx'.symm, e32, tm, d1, d2, w2, d3, d4, wm, t5, tn, gm, a0, d5, wk]
  exact nxt _ (by simp -dsimp -implicitDefEqProofs [-getElem?_pos, go_sem, t4]) (by simp -dsimp -implicitDefEqProofs [-getElem?_pos, go_sem, t5]) (by simp -dsimp -implicitDefEqProofs [-getElem?_pos, go_sem, t15]) (by simp -dsimp -implicitDefEqProofs [-getElem?_pos, go_sem, t16]) (by simp -dsimp -implicitDefEqProofs [-getElem?_pos, go_sem]) rfl
end Go.Proofs.YtabdihohphlheaaDoor
