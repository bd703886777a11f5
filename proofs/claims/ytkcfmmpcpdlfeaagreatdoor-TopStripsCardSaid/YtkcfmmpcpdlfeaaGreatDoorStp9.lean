/- Strips: what is due: deleting and sorting; plain parts. -/
import Derived.Test.YtkcfmmpcpdlfeaaGreatDoorStp8
import Derived.Test.YtkcfmmpcpdlfeaaGreatDoorCpn4
import Derived.Test.YtkcfmmpcpdlfeaaGreatDoorSortFlow
set_option linter.unusedSimpArgs false
set_option linter.unusedVariables false
namespace Go.Proofs.YtkcfmmpcpdlfeaaGreatDoor
open Go.PA
open Go.RowKit

theorem index_m_due {row src : Option Nat} (l : List TDue) (x : AV) (H : Heap) (g : FuncId) (caps : List AV) (p : TDue → Bool) (hx : SlIs H x 5 (encL TDue.cells l)) (hl : l.length ≤ 1000000) (hen : enterable Tryz.prog g = true)
    (hg : ∀ a, a ∈ l → ∀ H', Kept [] H H' → MFun Tryz.prog row src g (.agg (TDue.cells a) :: caps) H' (fun r H'' => r = bv (p a) ∧ Kept [] H' H'')) :
    MFun Tryz.prog row src 77 [x, .fn g caps] H (fun r H' => r = iv (idxI p l) ∧ Kept [] H H') := by
  refine mfun_intro Tryz.func77 rfl (by simp [Tryz.f77]) (by kernel_rfl) ⟨_, H, rfl, kept_refl _ _⟩ ?_
  intro E hP hr hs hN
  have hlen := hx.len
  rw [encL_len] at hlen
  simp -dsimp -implicitDefEqProofs [-getElem?_pos, go_sem, hP, hlen]
  obtain ⟨I, hI⟩ : ∃ I : Nat → St → Prop, I = fun m s => ∃ k : Nat, k ≤ l.length ∧ m = l.length - k ∧ idxI p l = idxFrom p k (l.drop k) ∧ s.t 0 = x ∧ s.t 1 = .fn g caps ∧ s.t 7 = iv l.length ∧ s.t 8 = iv k ∧ Kept [] H s.H := ⟨_, rfl⟩
  refine aloop0 I l.length (by rw [hN]; rfl) ?_ ?_
  · rw [hI]
    exact ⟨0, by omega, by omega, by simp [idxI], by simp -dsimp -implicitDefEqProofs [-getElem?_pos, go_sem], by simp -dsimp -implicitDefEqProofs [-getElem?_pos, go_sem], by simp -dsimp -implicitDefEqProofs [-getElem?_pos, go_sem], by simp -dsimp -implicitDefEqProofs [-getElem?_pos, go_sem], by simp -dsimp -implicitDefEqProofs [-getElem?_pos, go_sem]; exact kept_refl _ _⟩
  intro m s hs'
  rw [hI] at hs'
  obtain ⟨k, hk, hm, hi, t0, t1, t7, t8, hKp⟩ := hs'
  simp -dsimp -implicitDefEqProofs [-getElem?_pos, go_sem, hP, t7, t8]
  refine condP (fun h => ?_) (fun h => ?_)
  · have hk : k < l.length := by simpa using h
    obtain ⟨a, ha⟩ : ∃ a, l[k]? = some a := ⟨_, List.getElem?_eq_getElem hk⟩
    have wk := wrap_in ((k : Int) + 1) (by omega)
    obtain ⟨ad, h1, h2⟩ := (hx.kept hKp).idx (P := Tryz.prog) (t := 46) (e := 50) el_46 (by rw [sz_50]) kn_50 k (by rw [encL_len]; exact hk)
    have h2' : addrCells s.H ad = some (TDue.cells a) := by
      rw [h2]
      have := encL_get TDue.cells l k
      rw [ha, List.getElem?_eq_getElem (by rw [encL_len]; exact hk)] at this
      exact this
    have hz : (TDue.cells a).take 5 = TDue.cells a := List.take_of_length_le (by rw [TDue.len]; omega)
    simp -dsimp -implicitDefEqProofs [-getElem?_pos, go_sem, hP, t8, t1, t0, h1, h2', TDue.len, hz]
    have hd : l.drop k = a :: l.drop (k + 1) := by
      rw [List.getElem?_eq_getElem hk] at ha
      rw [List.drop_eq_getElem_cons hk, Option.some.inj ha]
    refine callB_m (by rw [hr, hs]; exact hg a (List.mem_of_getElem? ha) s.H hKp) hP hen ?_
    rintro r H' ⟨rfl, hK2⟩
    rw [hd] at hi
    simp only [idxFrom] at hi
    simp -dsimp -implicitDefEqProofs [-getElem?_pos, go_sem, hP]
    refine condP (fun hp => ?_) (fun hp => ?_)
    · rw [if_pos hp] at hi
      simp -dsimp -implicitDefEqProofs [-getElem?_pos, go_sem, hP]
      exact ⟨hi.symm, hKp.trans hK2⟩
    · rw [hp, if_neg (by simp)] at hi
      simp -dsimp -implicitDefEqProofs [-getElem?_pos, go_sem, hP, t8, wk]
      refine ⟨l.length - (k + 1), by omega, ?_⟩
      rw [hI]
      exact ⟨k + 1, by omega, rfl, hi, by simp -dsimp -implicitDefEqProofs [-getElem?_pos, go_sem, t0], by simp -dsimp -implicitDefEqProofs [-getElem?_pos, go_sem, t1], by simp -dsimp -implicitDefEqProofs [-getElem?_pos, go_sem, t7], by simp -dsimp -implicitDefEqProofs [-getElem?_pos, go_sem], by simp -dsimp -implicitDefEqProofs [-getElem?_pos, go_sem]; exact hKp.trans hK2⟩
  · have hk : k = l.length := by simp at h; omega
    subst hk
    rw [List.drop_length] at hi
    simp -dsimp -implicitDefEqProofs [-getElem?_pos, go_sem, hP]
    exact ⟨hi.symm, hKp⟩

theorem index_mT_due {row src : Option Nat} (l : List TDue) (x : AV) (H : Heap) (g : FuncId) (caps : List AV) (p : TDue → Bool) (hx : SlIsT H x 5 (encL TDue.cells l)) (hl : l.length ≤ 1000000) (hen : enterable Tryz.prog g = true)
    (hg : ∀ a, a ∈ l → ∀ H', Kept [] H H' → MFun Tryz.prog row src g (.agg (TDue.cells a) :: caps) H' (fun r H'' => r = bv (p a) ∧ Kept [] H' H'')) :
    MFun Tryz.prog row src 77 [x, .fn g caps] H (fun r H' => r = iv (idxI p l) ∧ Kept [] H H') := by
  refine mfun_intro Tryz.func77 rfl (by simp [Tryz.f77]) (by kernel_rfl) ⟨_, H, rfl, kept_refl _ _⟩ ?_
  intro E hP hr hs hN
  have hlen := hx.len
  rw [encL_len] at hlen
  simp -dsimp -implicitDefEqProofs [-getElem?_pos, go_sem, hP, hlen]
  obtain ⟨I, hI⟩ : ∃ I : Nat → St → Prop, I = fun m s => ∃ k : Nat, k ≤ l.length ∧ m = l.length - k ∧ idxI p l = idxFrom p k (l.drop k) ∧ s.t 0 = x ∧ s.t 1 = .fn g caps ∧ s.t 7 = iv l.length ∧ s.t 8 = iv k ∧ Kept [] H s.H := ⟨_, rfl⟩
  refine aloop0 I l.length (by rw [hN]; rfl) ?_ ?_
  · rw [hI]
    exact ⟨0, by omega, by omega, by simp [idxI], by simp -dsimp -implicitDefEqProofs [-getElem?_pos, go_sem], by simp -dsimp -implicitDefEqProofs [-getElem?_pos, go_sem], by simp -dsimp -implicitDefEqProofs [-getElem?_pos, go_sem], by simp -dsimp -implicitDefEqProofs [-getElem?_pos, go_sem], by simp -dsimp -implicitDefEqProofs [-getElem?_pos, go_sem]; exact kept_refl _ _⟩
  intro m s hs'
  rw [hI] at hs'
  obtain ⟨k, hk, hm, hi, t0, t1, t7, t8, hKp⟩ := hs'
  simp -dsimp -implicitDefEqProofs [-getElem?_pos, go_sem, hP, t7, t8]
  refine condP (fun h => ?_) (fun h => ?_)
  · have hk : k < l.length := by simpa using h
    obtain ⟨a, ha⟩ : ∃ a, l[k]? = some a := ⟨_, List.getElem?_eq_getElem hk⟩
    have wk := wrap_in ((k : Int) + 1) (by omega)
    obtain ⟨ad, h1, h2⟩ := (hx.kept hKp).idx (P := Tryz.prog) (t := 46) (e := 50) el_46 (by rw [sz_50]) kn_50 k (by rw [encL_len]; exact hk)
    have h2' : addrCells s.H ad = some (TDue.cells a) := by
      rw [h2]
      have := encL_get TDue.cells l k
      rw [ha, List.getElem?_eq_getElem (by rw [encL_len]; exact hk)] at this
      exact this
    have hz : (TDue.cells a).take 5 = TDue.cells a := List.take_of_length_le (by rw [TDue.len]; omega)
    simp -dsimp -implicitDefEqProofs [-getElem?_pos, go_sem, hP, t8, t1, t0, h1, h2', TDue.len, hz]
    have hd : l.drop k = a :: l.drop (k + 1) := by
      rw [List.getElem?_eq_getElem hk] at ha
      rw [List.drop_eq_getElem_cons hk, Option.some.inj ha]
    refine callB_m (by rw [hr, hs]; exact hg a (List.mem_of_getElem? ha) s.H hKp) hP hen ?_
    rintro r H' ⟨rfl, hK2⟩
    rw [hd] at hi
    simp only [idxFrom] at hi
    simp -dsimp -implicitDefEqProofs [-getElem?_pos, go_sem, hP]
    refine condP (fun hp => ?_) (fun hp => ?_)
    · rw [if_pos hp] at hi
      simp -dsimp -implicitDefEqProofs [-getElem?_pos, go_sem, hP]
      exact ⟨hi.symm, hKp.trans hK2⟩
    · rw [hp, if_neg (by simp)] at hi
      simp -dsimp -implicitDefEqProofs [-getElem?_pos, go_sem, hP, t8, wk]
      refine ⟨l.length - (k + 1), by omega, ?_⟩
      rw [hI]
      exact ⟨k + 1, by omega, rfl, hi, by simp -dsimp -implicitDefEqProofs [-getElem?_pos, go_sem, t0], by simp -dsimp -implicitDefEqProofs [-getElem?_pos, go_sem, t1], by simp -dsimp -implicitDefEqProofs [-getElem?_pos, go_sem, t7], by simp -dsimp -implicitDefEqProofs [-getElem?_pos, go_sem], by simp -dsimp -implicitDefEqProofs [-getElem?_pos, go_sem]; exact hKp.trans hK2⟩
  · have hk : k = l.length := by simp at h; omega
    subst hk
    rw [List.drop_length] at hi
    simp -dsimp -implicitDefEqProofs [-getElem?_pos, go_sem, hP]
    exact ⟨hi.symm, hKp⟩

set_option maxHeartbeats 4000000 in
theorem deleteFuncM_due {row src : Option Nat} (l : List TDue) (tl0 : List (List AV)) (id : Nat) (H : Heap) (g : FuncId) (caps : List AV) (p : TDue → Bool) (hl : l.length ≤ 100000) (ho : H[id]? = some (some ⟨50, 5, encL TDue.cells l ++ tl0⟩)) (hen : enterable Tryz.prog g = true)
    (hg : ∀ a, a ∈ l → ∀ H', Kept [id] H H' → MFun Tryz.prog row src g (.agg (TDue.cells a) :: caps) H' (fun r H'' => r = bv (p a) ∧ Kept [] H' H'')) :
    MFun Tryz.prog row src 34 [.sref id 0 l.length, .fn g caps] H (fun r H' => ∃ tl, r = .sref id 0 (l.filter fun a => !p a).length ∧ H'[id]? = some (some ⟨50, 5, encL TDue.cells (l.filter fun a => !p a) ++ tl⟩) ∧ Kept [id] H H') := by
  obtain ⟨C, hC⟩ : ∃ C : AV → Heap → Prop, C = fun r H' => ∃ tl, r = .sref id 0 (l.filter fun a => !p a).length ∧ H'[id]? = some (some ⟨50, 5, encL TDue.cells (l.filter fun a => !p a) ++ tl⟩) ∧ Kept [id] H H' := ⟨_, rfl⟩
  rw [← hC]
  have lid := (List.getElem?_eq_some_iff.1 ho).1
  have ex : ∃ r H', C r H' := by
    rw [hC]
    exact ⟨_, H.set id (some ⟨50, 5, encL TDue.cells (l.filter fun a => !p a) ++ []⟩), [], rfl, by simp [lid], kept_set _ (by simp) (kept_refl _ _)⟩
  obtain ⟨zs, hz⟩ := Option.isSome_iff_exists.1 (show (zeros Tryz.prog 50).isSome = true by kernel_rfl)
  obtain ⟨n, hn⟩ : ∃ n, n = l.length := ⟨_, rfl⟩
  refine mfun_intro Tryz.func34 rfl (by simp [Tryz.f34]) (by kernel_rfl) (ex) ?_
  intro E hP hr hs hN
  simp -dsimp -implicitDefEqProofs [-getElem?_pos, go_sem, hP]
  refine callB_m (by rw [hr, hs]; exact index_mT_due l (.sref id 0 l.length) H g caps p (.inr (.inr ⟨id, 50, tl0, by rw [encL_len], ho⟩)) (by omega) hen (fun a ha H' hk => hg a ha H' (hk.mono (by simp)))) hP en_77 ?_
  rintro r H1 ⟨rfl, hk1⟩
  have ho1 := hk1 _ _ (by simp) ho
  have k1 : Kept [id] H H1 := hk1.mono (by simp)
  rcases idxI_spec p l with ⟨h1, h2⟩ | ⟨i, a, ha, hpa, h3, h4⟩
  · have hf : (l.filter fun a => !p a) = l := List.filter_eq_self.2 fun a ha => by simp [h2 a ha]
    simp -dsimp -implicitDefEqProofs [-getElem?_pos, go_sem, hP, h1]
    rw [hC, hf]
    exact ⟨tl0, rfl, ho1, k1⟩
  have hi1 : ¬ ((i : Int) = -1) := by omega
  have hil := (List.getElem?_eq_some_iff.1 ha).1
  have w1 := wrap_in ((i : Int) + 1) (by omega)
  have kept0 : (l.take (i + 1)).filter (fun a => !p a) = l.take i := by
    rw [List.take_add_one, ha, List.filter_append, Option.toList_some, List.filter_cons_of_neg (by simp [hpa]), List.filter_nil, List.append_nil]
    refine List.filter_eq_self.2 fun x hx => ?_
    obtain ⟨j, hj⟩ := List.getElem?_of_mem hx
    rw [List.getElem?_take] at hj
    split at hj
    · simp [h4 j x (by assumption) hj]
    · cases hj
  simp -dsimp -implicitDefEqProofs [-getElem?_pos, go_sem, hP, h3, hi1, w1]
  obtain ⟨I, hI⟩ : ∃ I : Nat → St → Prop, I = fun m s => ∃ (j q : Nat) (ks : List TDue) (rows : List (List AV)), ks = ((l.take j).filter fun a => !p a) ∧ q = ks.length ∧ j ≤ n ∧ m = n - j ∧ q < j ∧ n ≤ rows.length ∧ (∀ i e, i < n → rows[i]? = some e → e.length = 5) ∧ rows.take q = encL TDue.cells ks ∧ rows.drop j = encL TDue.cells (l.drop j) ++ tl0 ∧ s.t 0 = .sref id 0 n ∧ s.t 1 = .fn g caps ∧ s.t 5 = iv q ∧ s.t 6 = iv j ∧ s.H[id]? = some (some ⟨50, 5, rows⟩) ∧ Kept [id] H s.H := ⟨_, rfl⟩
  refine aloop0 I (n - (i + 1)) (by rw [hN]; rfl) ?_ ?_
  · rw [hI]
    refine ⟨i + 1, i, l.take i, encL TDue.cells l ++ tl0, kept0.symm, by simp; omega, by omega, by omega, by omega, by rw [List.length_append, encL_len]; omega, fun i' e hi' he => ?_, ?_, ?_, by simp -dsimp -implicitDefEqProofs [-getElem?_pos, go_sem, hn], by simp -dsimp -implicitDefEqProofs [-getElem?_pos, go_sem], by simp -dsimp -implicitDefEqProofs [-getElem?_pos, go_sem], by simp -dsimp -implicitDefEqProofs [-getElem?_pos, go_sem], by simp -dsimp -implicitDefEqProofs [-getElem?_pos, go_sem, ho1], by simp -dsimp -implicitDefEqProofs [-getElem?_pos, go_sem]; exact k1⟩
    · rw [List.getElem?_append_left (by rw [encL_len]; omega)] at he
      obtain ⟨x, _, rfl⟩ := List.mem_map.1 (List.mem_of_getElem? he)
      exact TDue.len x
    · rw [List.take_append_of_le_length (by rw [encL_len]; omega), encL_takeE]
    · rw [List.drop_append_of_le_length (by rw [encL_len]; omega), encL_dropE]
  intro m s hs'
  rw [hI] at hs'
  obtain ⟨j, q, ks, rows, hks, hq, hjn, hm, hqj, hrl, hre, hrt, hrd, t0, t1, t5, t6, h0, hk⟩ := hs'
  have lt0 := (List.getElem?_eq_some_iff.1 h0).1
  simp -dsimp -implicitDefEqProofs [-getElem?_pos, go_sem, hP, t0, t6, h0]
  refine condP (fun hh => ?_) (fun hh => ?_)
  · have hj : j < n := by simpa using hh
    obtain ⟨x, hx⟩ : ∃ x, l[j]? = some x := ⟨_, List.getElem?_eq_getElem (by omega)⟩
    have wj := wrap_in ((j : Int) + 1) (by omega)
    have wq := wrap_in ((q : Int) + 1) (by omega)
    have hjr : j < rows.length := by omega
    have hrow : rows[j]? = some (TDue.cells x) := by
      have := congrArg (·[0]?) hrd
      simp only [List.getElem?_drop, Nat.add_zero] at this
      rw [List.getElem?_append_left (by rw [encL_len, List.length_drop]; omega), encL_getE, List.getElem?_drop, Nat.add_zero, hx] at this
      simpa using this
    have htk : (l.take (j + 1)).filter (fun a => !p a) = if p x = true then ks else ks ++ [x] := by
      rw [List.take_add_one, hx, List.filter_append, Option.toList_some, ← hks]
      by_cases hpx : p x = true <;> simp [hpx, List.filter_cons]
    have hxl := TDue.len x
    have hgx := hg x (List.mem_of_getElem? hx) (s.H ++ [some ⟨50, 5, [TDue.cells x]⟩]) (hk.trans (kept_app _ _ _))
    have hd1 : rows.drop (j + 1) = encL TDue.cells (l.drop (j + 1)) ++ tl0 := by
      have := congrArg (List.drop 1) hrd
      rw [List.drop_drop, List.drop_append_of_le_length (by rw [encL_len, List.length_drop]; omega), encL_dropE, List.drop_drop] at this
      exact this
    simp -dsimp -implicitDefEqProofs [-getElem?_pos, go_sem, hP, t0, t6, h0, hrow, hj, hjr, TDue.cells]
    simp -dsimp -implicitDefEqProofs [-getElem?_pos, go_sem, hP, t1]
    simp only [TDue.cells] at hgx
    refine callB_m (by rw [hr, hs]; exact hgx) hP hen ?_
    rintro r H2 ⟨rfl, hk2⟩
    have e0 := hk2 _ _ (by simp) (show (s.H ++ [some (⟨50, 5, [TDue.cells x]⟩ : AObj)])[id]? = some (some ⟨50, 5, rows⟩) by rw [List.getElem?_append_left lt0]; exact h0)
    have ex0 := hk2 _ _ (by simp) (show (s.H ++ [some (⟨50, 5, [TDue.cells x]⟩ : AObj)])[s.H.length]? = some (some ⟨50, 5, [TDue.cells x]⟩) by simp)
    simp only [TDue.cells] at ex0
    have lt2 := (List.getElem?_eq_some_iff.1 e0).1
    have ltx := (List.getElem?_eq_some_iff.1 ex0).1
    have kk2 : Kept [id] H H2 := (hk.trans (kept_app _ _ _)).trans (hk2.mono (by simp))
    simp -dsimp -implicitDefEqProofs [-getElem?_pos, go_sem, hP]
    refine condP (fun hp => ?_) (fun hp => ?_)
    · rw [if_pos hp] at htk
      simp -dsimp -implicitDefEqProofs [-getElem?_pos, go_sem, hP, t6, wj]
      refine ⟨n - (j + 1), by omega, ?_⟩
      rw [hI]
      exact ⟨j + 1, q, ks, rows, htk.symm, hq, by omega, rfl, by omega, hrl, hre, hrt, hd1, by simp -dsimp -implicitDefEqProofs [-getElem?_pos, go_sem, t0], by simp -dsimp -implicitDefEqProofs [-getElem?_pos, go_sem, t1], by simp -dsimp -implicitDefEqProofs [-getElem?_pos, go_sem, t5], by simp -dsimp -implicitDefEqProofs [-getElem?_pos, go_sem], by simp -dsimp -implicitDefEqProofs [-getElem?_pos, go_sem, e0, lt2], by simp -dsimp -implicitDefEqProofs [-getElem?_pos, go_sem]; exact kk2⟩
    · rw [if_neg (by simp [hp])] at htk
      obtain ⟨r0, hr0⟩ : ∃ r0, rows[q]? = some r0 := ⟨_, List.getElem?_eq_getElem (by omega)⟩
      have hr0l := hre q r0 (by omega) hr0
      have hr0d : r0.drop 5 = [] := List.drop_of_length_le (by omega)
      have hqn : q < n := by omega
      have hqr : q < rows.length := by omega
      simp -dsimp -implicitDefEqProofs [-getElem?_pos, go_sem, hP, t0, t5, t6, e0, lt2, ex0, ltx, hr0, hr0l, hr0d, hqn, hqr, wj, wq]
      refine ⟨n - (j + 1), by omega, ?_⟩
      rw [hI]
      refine ⟨j + 1, q + 1, ks ++ [x], rows.set q (TDue.cells x), htk.symm, by simp; omega, by omega, rfl, by omega, by simp; omega, fun i' e hi' he => ?_, ?_, ?_, by simp -dsimp -implicitDefEqProofs [-getElem?_pos, go_sem, t0], by simp -dsimp -implicitDefEqProofs [-getElem?_pos, go_sem, t1], by simp -dsimp -implicitDefEqProofs [-getElem?_pos, go_sem], by simp -dsimp -implicitDefEqProofs [-getElem?_pos, go_sem], by simp -dsimp -implicitDefEqProofs [-getElem?_pos, go_sem, lt2, TDue.cells], by simp -dsimp -implicitDefEqProofs [-getElem?_pos, go_sem]; exact kept_set _ (by simp) kk2⟩
      · rw [List.getElem?_set] at he
        simp only [hqr, if_true] at he
        split at he
        · cases he
          exact hxl
        · exact hre i' e hi' he
      · rw [List.take_add_one, List.take_set_of_le (by omega), hrt, List.getElem?_set_self (by omega), ← encL_appE]
        rfl
      · rw [List.drop_set_of_lt (by omega)]
        exact hd1
  · have hj : j = n := by simp at hh; omega
    subst hj
    have hkl : ks = l.filter fun a => !p a := by rw [hks, hn, List.take_length]
    have hqn : q ≤ j := by omega
    have hqn1 : ¬ q = j := by omega
    have hqn2 : ¬ (q : Int) = j := by omega
    have hrd0 : rows.drop j = tl0 := by rw [hrd, List.drop_of_length_le (by omega)]; rfl
    have sx : ∀ (id n : Nat), (if q = 0 then some (AV.sref id 0 n) else some (AV.sref id q (n - q))) = some (.sref id q (n - q)) := fun id n => by
      split
      · rename_i h0; rw [h0, Nat.sub_zero]
      · rfl
    simp -dsimp -implicitDefEqProofs [-getElem?_pos, go_sem, hP, t0, t5, h0, asliceOp, bound, aslice, hqn, hqn1, hqn2, sx]
    refine buiB_clearE (e := 50) (es' := encL TDue.cells ks ++ (List.replicate (j - q) zs ++ tl0)) h0 (.inl rfl) (by rw [hP]; kernel_rfl) (by rw [hP]; kernel_rfl) (by omega) (by rw [hP]; exact hz) (by omega) (by omega) ?_ ?_
    · rw [hrt, show q + (j - q) = j by omega, hrd0, List.append_assoc]
    simp -dsimp -implicitDefEqProofs [-getElem?_pos, go_sem, hP, t0, t5, lt0, asliceOp, bound, aslice, hqn, hqn1, hqn2, sx]
    rw [hC, ← hkl]
    exact ⟨List.replicate (j - q) zs ++ tl0, by rw [hq], by simp [lt0], kept_set _ (by simp) hk⟩

section
variable {α : Type} (enc : α → List AV) (lt : α → α → Bool) (g : FuncId)
/-- What the comparison does. -/
def CmpOk_due : Prop := (∀ a, (enc a).length = 5) ∧ (∀ a c, c ∈ enc a → Imm c ∧ c.cellish = true) ∧ enterable Tryz.prog g = true ∧ ∀ a b, PFun Tryz.prog none none g [.agg (enc a), .agg (enc b)] (fun r => ∃ i : Int, r = iv i ∧ decide (i < 0) = lt a b)

set_option maxRecDepth 4000 in
theorem insertion_m_due {row src : Option Nat} (hc : CmpOk_due enc lt g) (pre l post : List α) (H : Heap) (id a b n : Nat) (ha : a = pre.length) (hb : b = pre.length + l.length) (hn : n = pre.length + l.length + post.length) (hb9 : n ≤ 1000000000)
    (hH : H[id]? = some (some ⟨50, 5, encL enc (pre ++ l ++ post)⟩)) :
    MFun Tryz.prog row src 113 [.sref id 0 n, iv a, iv b, .fn g []] H (fun _ H' => H' = H.set id (some ⟨50, 5, encL enc (pre ++ isort lt l ++ post)⟩)) := by
  obtain ⟨hk, him, hen, hcmp⟩ := hc
  refine mfun_intro Tryz.func113 rfl (by simp [Tryz.f113]) (by kernel_rfl) ⟨.tup [], _, rfl⟩ ?_
  intro E hP hr hs hN
  have w1 := wrap_in ((a : Int) + 1) (by omega)
  have hlt : id < H.length := (List.getElem?_eq_some_iff.1 hH).1
  have hself : H.set id (some ⟨50, 5, encL enc (pre ++ l ++ post)⟩) = H := by
    apply List.ext_getElem?
    intro j
    rw [List.getElem?_set]
    split
    · rename_i h; subst h; rw [hH]
    · rfl
  simp [go_sem, hP, w1]
  obtain ⟨I, hI⟩ : ∃ I : Nat → St → Prop, I = fun m s => ∃ i : Nat, a + 1 ≤ i ∧ (i ≤ b ∨ l = [] ∧ i = a + 1) ∧ m = b - i ∧ s.t 0 = .sref id 0 n ∧ s.t 1 = iv a ∧ s.t 2 = iv b ∧ s.t 3 = .fn g [] ∧ s.t 8 = iv i ∧
    s.H = H.set id (some ⟨50, 5, encL enc (pre ++ ((rsort lt (l.take (i - a))).reverse ++ l.drop (i - a)) ++ post)⟩) := ⟨_, rfl⟩
  refine aloop0 I (b - (a + 1)) (by rw [hN]; rfl) ?_ ?_
  · rw [hI]
    refine ⟨a + 1, by omega, ?_, rfl, ?_⟩
    · cases l with
      | nil => exact .inr ⟨rfl, rfl⟩
      | cons x l => exact .inl (by simp at hb; omega)
    · refine ⟨by simp [go_sem], by simp [go_sem], by simp [go_sem], by simp [go_sem], by simp [go_sem], ?_⟩
      have e : (rsort lt (l.take 1)).reverse ++ l.drop 1 = l := by
        cases l with
        | nil => rfl
        | cons x l => simp [rsort, rins]
      rw [show a + 1 - a = 1 from by omega, e]
      exact hself.symm
  intro m s hs'
  rw [hI] at hs'
  obtain ⟨i, h1, h2, hm, t0, t1, t2, t3, t8, sH⟩ := hs'
  simp [go_sem, hP, t8, t2]
  refine condP (fun h => ?_) (fun h => ?_)
  · have hib : i < b := by simpa using h
    have hil : i - a < l.length := by omega
    simp [go_sem, hP, t8, t2]
    obtain ⟨x, hx⟩ : ∃ x, x = l[i - a] := ⟨_, rfl⟩
    obtain ⟨P, hPd⟩ : ∃ P, P = rsort lt (l.take (i - a)) := ⟨_, rfl⟩
    obtain ⟨R, hR⟩ : ∃ R, R = l.drop (i - a + 1) := ⟨_, rfl⟩
    have hPl : P.length = i - a := by rw [hPd, rsort_len]; simp; omega
    have hRl : R.length + (i - a) + 1 = l.length := by rw [hR]; simp; omega
    have w9 := wrap_in ((i : Int) + 1) (by omega)
    obtain ⟨J, hJ⟩ : ∃ J : Nat → St → Prop, J = fun m s => ∃ (A B : List α), m = A.length ∧ A.length + B.length = i - a ∧ rins lt x P = B.reverse ++ rins lt x A.reverse ∧ s.t 0 = .sref id 0 n ∧ s.t 1 = iv a ∧ s.t 2 = iv b ∧ s.t 3 = .fn g [] ∧ s.t 8 = iv i ∧ s.t 9 = iv (a + A.length : Nat) ∧
      s.H = H.set id (some ⟨50, 5, encL enc (pre ++ (A ++ x :: B ++ R) ++ post)⟩) := ⟨_, rfl⟩
    refine aloop0 J (i - a) (by rw [hN]; rfl) ?_ ?_
    · rw [hJ]
      refine ⟨P.reverse, [], by simp [hPl], by simp [hPl], by simp, by simp [go_sem, t0], by simp [go_sem, t1], by simp [go_sem, t2], by simp [go_sem, t3], by simp [go_sem, t8], ?_, ?_⟩
      · simp [go_sem, hPl]; omega
      simp only [sH, ← hPd]
      rw [List.drop_eq_getElem_cons hil, ← hx, ← hR]
      simp
    intro m s hs'
    rw [hJ] at hs'
    obtain ⟨A, B, hm', hAB, hins, t0, t1, t2, t3, t8, t9, sH⟩ := hs'
    simp [go_sem, hP]
    refine adrawB (fun _ => true) [] hP (by kernel_rfl) (by kernel_rfl) ?_
    have stop : rins lt x P = B.reverse ++ x :: A.reverse → s.H = H.set id (some ⟨50, 5, encL enc (pre ++ ((rsort lt (l.take (i + 1 - a))).reverse ++ l.drop (i + 1 - a)) ++ post)⟩) := fun h => by
      have e1 : l.take (i + 1 - a) = l.take (i - a) ++ [x] := by rw [show i + 1 - a = i - a + 1 from by omega, List.take_succ_eq_append_getElem hil, ← hx]
      have e2 : l.drop (i + 1 - a) = R := by rw [hR]; congr 1; omega
      rw [e1, e2, rsort_snoc, ← hPd, h, sH]
      simp
    rcases List.eq_nil_or_concat A with rfl | ⟨A', y, rfl⟩
    · have st := stop (by simpa [rins] using hins)
      simp only [List.length_nil, Nat.add_zero] at t9
      simp [go_sem, hP, t9, t1, t8, w9]
      rw [hI]
      exact ⟨b - (i + 1), by omega, i + 1, by omega, .inl (by omega), rfl, by simp [go_sem, t0], by simp [go_sem, t1], by simp [go_sem, t2], by simp [go_sem, t3], by simp [go_sem], st⟩
    · rw [List.concat_eq_append] at *
      obtain ⟨M, hM⟩ : ∃ M, M = encL enc (B ++ R ++ post) := ⟨_, rfl⟩
      obtain ⟨L, hL⟩ : ∃ L, L = encL enc (pre ++ A') := ⟨_, rfl⟩
      have ecs : encL enc (pre ++ ((A' ++ [y]) ++ x :: B ++ R) ++ post) = L ++ enc y :: enc x :: M := by rw [hM, hL]; simp [encL]
      have ecs2 : encL enc (pre ++ (A' ++ x :: y :: B ++ R) ++ post) = L ++ enc x :: enc y :: M := by rw [hM, hL]; simp [encL]
      rw [ecs] at sH
      obtain ⟨j, hj⟩ : ∃ j, j = L.length := ⟨_, rfl⟩
      have hj2 : j = pre.length + A'.length := by rw [hj, hL]; simp [encL]
      have t9 : s.t 9 = iv ((j : Int) + 1) := by rw [t9, hj2, ha]; simp; omega
      simp at hAB
      have hjN : j + 1 < n := by omega
      obtain ⟨cs, hcs⟩ : ∃ cs, cs = L ++ enc y :: enc x :: M := ⟨_, rfl⟩
      have hcl : cs.length = n := by rw [hcs, ← ecs]; simp [encL]; omega
      have hcy : ∀ h : j < cs.length, cs[j]'h = enc y := fun h => by subst hcs; subst hj; simp
      have hcx : ∀ h : j + 1 < cs.length, cs[j + 1]'h = enc x := fun h => by subst hcs; subst hj; simp
      have hk4 : ∀ z, (enc z).take 5 = enc z := fun z => List.take_of_length_le (by rw [hk]; omega)
      have ht : ((j : Int) + 1).toNat = j + 1 := by omega
      have hd : decide ((a : Int) < (j : Int) + 1) = true := by simp; omega
      have hjN' : (j : Int) + 1 < n := by omega
      have hj0 : (0 : Int) ≤ (j : Int) + 1 := by omega
      have hjn : j < n := by omega
      have w2 := wrap_in ((j : Int) + 1 - 1) (by omega)
      rw [Int.add_sub_cancel] at w2
      rw [← hcs] at sH
      have hHid : s.H[id]? = some (some ⟨50, 5, cs⟩) := by rw [sH]; simp [hlt]
      simp [go_sem, hP, t9, t1, t0, t3, hd, hHid, hcy, hcx, ht, w2, hk, hk4, hjN', hj0, hcl, hjn, hjN, Int.add_sub_cancel]
      refine callB_flat ((hcmp x y).lift _ _) hP hen (args_same (by simp [go_sem]; exact ⟨fun c h => (him x c h).1, fun c h => (him y c h).1⟩)) ⟨iv (if lt x y then -1 else 0), _, rfl, by cases lt x y <;> simp⟩ (by rintro r ⟨c, rfl, _⟩; exact .sc) ?_
      rintro r ⟨c, rfl, hlt⟩
      simp [go_sem, hP, hlt]
      refine condP (fun h => ?_) (fun h => ?_)
      · refine adrawB (fun _ => true) [15, 17] hP (by kernel_rfl) (by kernel_rfl) ?_
        have hcel : ∀ z c, c ∈ enc z → c.cellish = true := fun z c h => (him z c h).2
        have hltS : id < s.H.length := (List.getElem?_eq_some_iff.1 hHid).1
        have hset : ∀ o : Option AObj, (s.H.set id o)[id]? = some o := fun o => by simp [hltS]
        have hd4 : ∀ z, (enc z).drop 5 = [] := fun z => List.drop_eq_nil_of_le (by rw [hk]; omega)
        have hcely : (enc y).all AV.cellish = true := List.all_eq_true.2 (hcel y)
        have hcelx : (enc x).all AV.cellish = true := List.all_eq_true.2 (hcel x)
        simp [go_sem, hP, t9, t1, t0, t3, hd, hHid, hcy, hcx, ht, w2, hk, hk4, hjN', hj0, hcl, hjn, hjN, Int.add_sub_cancel, hcelx, hcely, hset, hd4]
        have w3 := wrap_in ((j : Int) + 1 - 1) (by omega)
        rw [Int.add_sub_cancel] at w3
        rw [hJ]
        refine ⟨A'.length, by simp at hm'; omega, A', y :: B, rfl, by simp; omega, ?_, by simp [go_sem, t0], by simp [go_sem, t1], by simp [go_sem, t2], by simp [go_sem, t3], by simp [go_sem, t8], ?_, ?_⟩
        · rw [hins]; simp [rins, h]
        · simp [go_sem]; omega
        · rw [ecs2, sH, List.set_set, hcs]
          have := set_swap L M (enc x) (enc y) (j + 1) (by omega)
          simp only [Nat.add_sub_cancel] at this
          simp [this]
      · have st := stop (by rw [hins]; simp [rins, h])
        simp [go_sem, hP, t9, t1, t8, w9]
        rw [hI]
        exact ⟨b - (i + 1), by omega, i + 1, by omega, .inl (by omega), rfl, by simp [go_sem, t0], by simp [go_sem, t1], by simp [go_sem, t2], by simp [go_sem, t3], by simp [go_sem], st⟩
  · have e : isort lt l = (rsort lt (l.take (i - a))).reverse ++ l.drop (i - a) := by
      have hge : l.length ≤ i - a := by simp at h; omega
      rw [List.take_of_length_le hge, List.drop_eq_nil_of_le hge]
      simp [isort]
    simp [go_sem, hP]
    rw [sH, e]
    simp

theorem stable_m_due {row src : Option Nat} (hc : CmpOk_due enc lt g) (l : List α) (H : Heap) (id n : Nat) (hn : n = l.length) (hb9 : n < 20)
    (hH : H[id]? = some (some ⟨50, 5, encL enc l⟩)) :
    MFun Tryz.prog row src 81 [.sref id 0 n, iv n, .fn g []] H (fun _ H' => H' = H.set id (some ⟨50, 5, encL enc (isort lt l)⟩)) := by
  refine mfun_intro Tryz.func81 rfl (by simp [Tryz.f81]) (by kernel_rfl) ⟨.tup [], _, rfl⟩ ?_
  intro E hP hr hs hN
  have hd : decide (20 ≤ (n : Int)) = false := by simp; omega
  have hd2 : decide (20 < (n : Int)) = false := by simp; omega
  simp [go_sem, hP]
  refine aloop0 (fun m s => s.t 0 = .sref id 0 n ∧ s.t 1 = iv n ∧ s.t 2 = .fn g [] ∧ s.t 6 = iv 20 ∧ s.t 7 = iv 0 ∧ s.t 8 = iv 20 ∧ s.H = H) 0 (by rw [hN]; rfl) ?_ ?_
  · simp [go_sem]
  rintro m s ⟨t0, t1, t2, t6, t7, t8, sH⟩
  simp [go_sem, hP, t8, t1, hd, t7, t0, t2]
  have hm := insertion_m_due (row := E.row) (src := E.src) enc lt g hc [] l [] s.H id 0 n n rfl (by simp [hn]) (by simp [hn]) (by omega) (by rw [sH]; simpa using hH)
  simp only [List.nil_append, List.append_nil] at hm
  refine callB_m hm hP (by kernel_rfl) ?_
  rintro r H' rfl
  refine aloop0 (fun m s' => s'.t 1 = iv n ∧ s'.t 6 = iv 20 ∧ s'.H = H.set id (some ⟨50, 5, encL enc (isort lt l)⟩)) 0 (by rw [hN]; rfl) ?_ ?_
  · simp [go_sem, t1, t6, sH]
  rintro m s' ⟨t1, t6, sH⟩
  simp [go_sem, hP, t6, t1, hd2, sH]

theorem sortStable_m_due {row src : Option Nat} (hc : CmpOk_due enc lt g) (l : List α) (H : Heap) (id n : Nat) (hn : n = l.length) (hb9 : n < 20)
    (hH : H[id]? = some (some ⟨50, 5, encL enc l⟩)) :
    MFun Tryz.prog row src 38 [.sref id 0 n, .fn g []] H (fun _ H' => H' = H.set id (some ⟨50, 5, encL enc (isort lt l)⟩)) := by
  refine mfun_intro Tryz.func38 rfl (by simp [Tryz.f38]) (by kernel_rfl) ⟨.tup [], _, rfl⟩ ?_
  intro E hP hr hs hN
  simp [go_sem, hP, hH]
  refine callB_m (stable_m_due enc lt g hc l H id n hn hb9 hH) hP (by kernel_rfl) ?_
  rintro r H' rfl
  simp [go_sem, hP]
end

def isStr (x : TDue) : Bool := decide (x.Holder = 1000)
theorem pend1_m {row src : Option Nat} (x : TDue) (H : Heap) : MFun Tryz.prog row src 35 [.agg x.cells] H (fun r H' => r = bv (isStr x) ∧ Kept [] H H') := by
  refine mfun_intro Tryz.func35 rfl (by simp [Tryz.f35]) (by kernel_rfl) (⟨_, H, rfl, kept_refl _ _⟩) ?_
  intro E hP hr hs hN
  simp -dsimp -implicitDefEqProofs [-getElem?_pos, go_sem, hP, cDue, isStr]
  exact kept_app _ _ _
theorem delStr_m {row src : Option Nat} (l : List TDue) (id : Nat) (H : Heap) (hl : l.length ≤ 100000) (ho : H[id]? = some (some ⟨50, 5, encL TDue.cells l⟩)) :
    MFun Tryz.prog row src 34 [.sref id 0 l.length, .fn 35 []] H (fun r H' => ∃ jd, r = .sref jd 0 (l.filter fun a => !isStr a).length ∧ H'[jd]? = some (some ⟨50, 5, encL TDue.cells (l.filter fun a => !isStr a)⟩) ∧ (∀ (z : Nat) (o : AObj), z ≠ id → H[z]? = some (some o) → z < jd) ∧ Kept [id] H H') := by
  refine mfun_cut (deleteFuncM_due l [] id H 35 [] isStr hl (by rw [List.append_nil]; exact ho) en_35 fun a ha H' hk => pend1_m a H') ?_
  rintro r H' ⟨tl, rfl, h1, h2⟩
  obtain ⟨F, hF⟩ : ∃ F, F = l.filter fun a => !isStr a := ⟨_, rfl⟩
  rw [← hF] at h1 ⊢
  refine ⟨id, _, _, rfl, h1, by simp [encL_len], H'.length, rfl, ?_, fun z o hz he => (List.getElem?_eq_some_iff.1 (h2 z o (by simpa using hz) he)).1, h2.trans ((kept_set none (by simp) (kept_refl _ _)).trans (kept_app _ _ _))⟩
  rw [List.getElem?_append_right (by simp)]
  simp [encL_len, encL_takeL]
def cmpDu (x y : TDue) : Int := orI [cmpI x.Security y.Security, cmpI x.Holder y.Holder, cmpI x.Kind y.Kind]
theorem sdue_pf (x y : TDue) : PFun Tryz.prog none none 39 [.agg x.cells, .agg y.cells] (· = iv (cmpDu x y)) := by
  refine pfun_intro Tryz.func39 rfl (by simp [Tryz.f39]) (by kernel_rfl) ?_
  intro E hP hr hs hW hN
  simp -dsimp -implicitDefEqProofs [-getElem?_pos, go_sem, hP, cDue]
  refine adrawB (fun _ => true) [] hP (by kernel_rfl) (by kernel_rfl) ?_
  simp -dsimp -implicitDefEqProofs [-getElem?_pos, go_sem, hP]
  refine callB_pure (compare_pf x.Security y.Security) hP en_21 (args_same (by simp -dsimp -implicitDefEqProofs [-getElem?_pos, go_sem])) .sc ?_
  simp -dsimp -implicitDefEqProofs [-getElem?_pos, go_sem, hP]
  refine callB_pure (compare_pf x.Holder y.Holder) hP en_21 (args_same (by simp -dsimp -implicitDefEqProofs [-getElem?_pos, go_sem])) .sc ?_
  simp -dsimp -implicitDefEqProofs [-getElem?_pos, go_sem, hP]
  refine callB_pure (compare_pf x.Kind y.Kind) hP en_21 (args_same (by simp -dsimp -implicitDefEqProofs [-getElem?_pos, go_sem])) .sc ?_
  simp -dsimp -implicitDefEqProofs [-getElem?_pos, go_sem, hP]
  refine callB_pure (or_pf [cmpI x.Security y.Security, cmpI x.Holder y.Holder, cmpI x.Kind y.Kind] (by simp)) hP en_82 (args_same (by simp -dsimp -implicitDefEqProofs [-getElem?_pos, go_sem, intsL])) .sc ?_
  simp -dsimp -implicitDefEqProofs [-getElem?_pos, go_sem, hP, cmpDu]
def ltDu (x y : TDue) : Bool := decide (cmpDu x y < 0)
theorem cmpOkDu : CmpOk_due TDue.cells ltDu 39 :=
  ⟨TDue.len, fun a c hc => ⟨a.imm c hc, List.all_eq_true.1 a.cel c hc⟩, by kernel_rfl, fun a b => (sdue_pf a b).mono fun r hr => ⟨_, hr, rfl⟩⟩
theorem rins_permD {α : Type} (lt : α → α → Bool) (x : α) : ∀ l : List α, (rins lt x l).Perm (x :: l)
  | [] => .refl _
  | y :: ys => by
    simp only [rins]
    split
    · exact ((rins_permD lt x ys).cons y).trans (.swap x y ys)
    · exact .refl _
theorem rsort_permD {α : Type} (lt : α → α → Bool) : ∀ l acc : List α, (l.foldl (fun acc x => rins lt x acc) acc).Perm (l ++ acc)
  | [], acc => .refl _
  | x :: l, acc => by
    rw [List.foldl_cons]
    refine (rsort_permD lt l _).trans ?_
    refine ((rins_permD lt x acc).append_left l).trans ?_
    exact List.perm_middle
theorem isort_permD {α : Type} (lt : α → α → Bool) (l : List α) : (isort lt l).Perm l := by
  refine (List.reverse_perm _).trans ?_
  have := rsort_permD lt l []
  rwa [List.append_nil] at this
theorem sumD_perm {A l : List TDue} (h : A.Perm l) : sumD A = sumD l := by
  induction h with
  | nil => rfl
  | cons x _ ih => rw [sumD_cons, sumD_cons, ih]
  | swap x y l => rw [sumD_cons, sumD_cons, sumD_cons, sumD_cons]; omega
  | trans _ _ h1 h2 => omega
theorem dueH_filter (b : TSecurity) (day : Int) (x : THolding) : (dueH b day x).filter (fun a => !isStr a) = if notStr x = true then dueH b day x else [] := by
  have hm : ∀ y, y ∈ dueH b day x → y.Holder = x.Holder := fun y hy => by
    unfold dueH at hy
    rcases List.mem_append.1 hy with hy | hy
    · split at hy
      · rw [List.mem_singleton.1 hy]
      · cases hy
    · split at hy
      · rw [List.mem_singleton.1 hy]
      · cases hy
  split
  · rename_i h
    refine List.filter_eq_self.2 fun y hy => ?_
    unfold isStr
    rw [hm y hy]
    exact h
  · rename_i h
    refine List.filter_eq_nil_iff.2 fun y hy => ?_
    unfold isStr
    rw [hm y hy]
    exact h
theorem duesR_filter (b : TSecurity) (day : Int) : ∀ l : List THolding, (duesR b l day).filter (fun a => !isStr a) = duesR b (l.filter notStr) day
  | [] => rfl
  | x :: l => by
    have ih := duesR_filter b day l
    unfold duesR at *
    rw [List.flatMap_cons, List.filter_append, ih, dueH_filter]
    by_cases h : notStr x = true
    · rw [List.filter_cons_of_pos h, List.flatMap_cons, if_pos h]
    · rw [List.filter_cons_of_neg h, if_neg h]
      rfl
/-- What is due for a strip. -/
def strD (b : TSecurity) (day : Int) (x : TStrip) : List TDue := if x.Day = day then (if 0 < valS b x then [⟨day, x.Security, x.Holder, if x.Principal = true then 2 else 1, valS b x⟩] else []) else []
theorem sum_strD (b : TSecurity) (day : Int) : ∀ l : List TStrip, (∀ x, x ∈ l → 0 ≤ valS b x) → sumD (l.flatMap (strD b day)) = ((l.filter fun x => decide (x.Day = day)).map (valS b)).sum
  | [], _ => rfl
  | x :: l, h => by
    have ih := sum_strD b day l fun y hy => h y (by simp [hy])
    have hx := h x (by simp)
    rw [List.flatMap_cons, sumD_append, ih]
    by_cases e : x.Day = day
    · rw [List.filter_cons_of_pos (by simp [e]), List.map_cons, List.sum_cons]
      unfold strD
      rw [if_pos e]
      by_cases h0 : 0 < valS b x
      · rw [if_pos h0]
        simp [sumD]
      · rw [if_neg h0]
        simp [sumD]
        omega
    · rw [List.filter_cons_of_neg (by simp [e])]
      unfold strD
      rw [if_neg e]
      simp [sumD]
theorem len_strD (b : TSecurity) (day : Int) : ∀ l : List TStrip, (l.flatMap (strD b day)).length ≤ cntQ (fun x => decide (x.Day = day)) l
  | [] => by simp [cntQ]
  | x :: l => by
    have ih := len_strD b day l
    rw [List.flatMap_cons, List.length_append, cntQ_cons]
    have : (strD b day x).length ≤ if decide (x.Day = day) = true then 1 else 0 := by
      unfold strD
      by_cases e : x.Day = day
      · have : decide (x.Day = day) = true := decide_eq_true e
        rw [if_pos e, this]
        by_cases h0 : 0 < valS b x
        · rw [if_pos h0]; simp
        · rw [if_neg h0]; simp
      · rw [if_neg e]
        simp
    omega
theorem pos_strD (b : TSecurity) (day : Int) (l : List TStrip) : ∀ y, y ∈ l.flatMap (strD b day) → 0 ≤ y.Amount := by
  intro y hy
  obtain ⟨x, _, hx⟩ := List.mem_flatMap.1 hy
  unfold strD at hx
  split at hx
  · split at hx
    · rename_i h
      rw [List.mem_singleton.1 hx]
      dsimp only
      omega
    · cases hx
  · cases hx
theorem coup_nn {b : TSecurity} (so : SecOk b) {n : Int} (hn : 0 ≤ n) : 0 ≤ coupD b n := by
  have e1 : 0 ≤ b.Every := by rcases so.every with ⟨e, _⟩ | ⟨e | e | e | e, _⟩ <;> omega
  have := Int.mul_nonneg (Int.mul_nonneg hn so.rate.1) e1
  unfold coupD
  omega
theorem pos_dueH {b : TSecurity} (so : SecOk b) (day : Int) {l : List THolding} (h : ∀ x, x ∈ l → 0 ≤ x.Amount) : ∀ y, y ∈ duesR b l day → 0 ≤ y.Amount := by
  intro y hy
  obtain ⟨x, hx, hm⟩ := List.mem_flatMap.1 hy
  have := coup_nn so (h x hx)
  have := h x hx
  unfold dueH at hm
  rcases List.mem_append.1 hm with hm | hm
  · split at hm
    · rw [List.mem_singleton.1 hm]; dsimp only; omega
    · cases hm
  · split at hm
    · rw [List.mem_singleton.1 hm]; dsimp only; omega
    · cases hm
theorem sumD_nn {l : List TDue} (h : ∀ y, y ∈ l → 0 ≤ y.Amount) : 0 ≤ sumD l ∧ ∀ y, y ∈ l → y.Amount ≤ sumD l := by
  induction l with
  | nil => exact ⟨Int.le_refl _, fun y hy => by cases hy⟩
  | cons x l ih =>
    obtain ⟨h1, h2⟩ := ih fun y hy => h y (by simp [hy])
    have hx := h x (by simp)
    rw [sumD_cons]
    refine ⟨by omega, fun y hy => ?_⟩
    rcases List.mem_cons.1 hy with rfl | hy
    · omega
    · have := h2 y hy
      omega
end Go.Proofs.YtkcfmmpcpdlfeaaGreatDoor
