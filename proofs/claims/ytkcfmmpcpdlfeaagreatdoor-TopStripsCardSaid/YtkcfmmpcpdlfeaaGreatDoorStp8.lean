/- Strips: paying. -/
import Derived.Test.YtkcfmmpcpdlfeaaGreatDoorStp7
import Derived.Test.YtkcfmmpcpdlfeaaGreatDoorPaPf
set_option linter.unusedSimpArgs false
set_option linter.unusedVariables false
namespace Go.Proofs.YtkcfmmpcpdlfeaaGreatDoor
open Go.PA
open Go.RowKit

theorem index_m_stp {row src : Option Nat} (l : List TStrip) (x : AV) (H : Heap) (g : FuncId) (caps : List AV) (p : TStrip → Bool) (hx : SlIs H x 5 (encL TStrip.cells l)) (hl : l.length ≤ 1000000) (hen : enterable Tryz.prog g = true)
    (hg : ∀ a, a ∈ l → ∀ H', Kept [] H H' → MFun Tryz.prog row src g (.agg (TStrip.cells a) :: caps) H' (fun r H'' => r = bv (p a) ∧ Kept [] H' H'')) :
    MFun Tryz.prog row src 83 [x, .fn g caps] H (fun r H' => r = iv (idxI p l) ∧ Kept [] H H') := by
  refine mfun_intro Tryz.func83 rfl (by simp [Tryz.f83]) (by kernel_rfl) ⟨_, H, rfl, kept_refl _ _⟩ ?_
  intro E hP hr hs hN
  have hlen := hx.len
  rw [encL_len] at hlen
  simp -dsimp -implicitDefEqProofs [-getElem?_pos, go_sem, hP, hlen]
  obtain ⟨I, hI⟩ : ∃ I : Nat → St → Prop, I = fun m s => ∃ k : Nat, k ≤ l.length ∧ m = l.length - k ∧ idxI p l = idxFrom p k (l.drop k) ∧ s.t 0 = x ∧ s.t 1 = .fn g caps ∧ s.t 7 = iv l.length ∧ s.t 8 = iv k ∧ Kept [] H s.H := ⟨_, rfl⟩
  refine aloop0 I l.length (by rw [hN]; rfl) ?_ ?_
  · rw [hI]
    exact ⟨0, by omega, by omega, by simp [idxI], by simp -dsimp -implicitDefEqProofs [-getElem?_pos, go_sem], by simp -dsimp -implicitDefEqProofs [-getElem?_pos, go_sem], by simp -dsimp -implicitDefEqProofs [-getElem?_pos, go_sem], by simp -dsimp -implicitDefEqProofs [-getElem?_pos, go_sem], by simp -dsimp -implicitDefEqProofs [-getElem?_pos, go_sem]; exact kept_refl _ _⟩
  intro m s hs'
  rw [hI] at hs'
  obtain ⟨k, hk, hm, hi, t0, t1, t7, t8, hKp⟩ := hs'
  simp -dsimp -implicitDefEqProofs [-getElem?_pos, go_sem, hP, t7, t8]
  refine condP (fun h => ?_) (fun h => ?_)
  · have hk : k < l.length := by simpa using h
    obtain ⟨a, ha⟩ : ∃ a, l[k]? = some a := ⟨_, List.getElem?_eq_getElem hk⟩
    have wk := wrap_in ((k : Int) + 1) (by omega)
    obtain ⟨ad, h1, h2⟩ := (hx.kept hKp).idx (P := Tryz.prog) (t := 38) (e := 79) el_38 (by rw [sz_79]) kn_79 k (by rw [encL_len]; exact hk)
    have h2' : addrCells s.H ad = some (TStrip.cells a) := by
      rw [h2]
      have := encL_get TStrip.cells l k
      rw [ha, List.getElem?_eq_getElem (by rw [encL_len]; exact hk)] at this
      exact this
    have hz : (TStrip.cells a).take 5 = TStrip.cells a := List.take_of_length_le (by rw [TStrip.len]; omega)
    simp -dsimp -implicitDefEqProofs [-getElem?_pos, go_sem, hP, t8, t1, t0, h1, h2', TStrip.len, hz]
    have hd : l.drop k = a :: l.drop (k + 1) := by
      rw [List.getElem?_eq_getElem hk] at ha
      rw [List.drop_eq_getElem_cons hk, Option.some.inj ha]
    refine callB_m (by rw [hr, hs]; exact hg a (List.mem_of_getElem? ha) s.H hKp) hP hen ?_
    rintro r H' ⟨rfl, hK2⟩
    rw [hd] at hi
    simp only [idxFrom] at hi
    simp -dsimp -implicitDefEqProofs [-getElem?_pos, go_sem, hP]
    refine condP (fun hp => ?_) (fun hp => ?_)
    · rw [if_pos hp] at hi
      simp -dsimp -implicitDefEqProofs [-getElem?_pos, go_sem, hP]
      exact ⟨hi.symm, hKp.trans hK2⟩
    · rw [hp, if_neg (by simp)] at hi
      simp -dsimp -implicitDefEqProofs [-getElem?_pos, go_sem, hP, t8, wk]
      refine ⟨l.length - (k + 1), by omega, ?_⟩
      rw [hI]
      exact ⟨k + 1, by omega, rfl, hi, by simp -dsimp -implicitDefEqProofs [-getElem?_pos, go_sem, t0], by simp -dsimp -implicitDefEqProofs [-getElem?_pos, go_sem, t1], by simp -dsimp -implicitDefEqProofs [-getElem?_pos, go_sem, t7], by simp -dsimp -implicitDefEqProofs [-getElem?_pos, go_sem], by simp -dsimp -implicitDefEqProofs [-getElem?_pos, go_sem]; exact hKp.trans hK2⟩
  · have hk : k = l.length := by simp at h; omega
    subst hk
    rw [List.drop_length] at hi
    simp -dsimp -implicitDefEqProofs [-getElem?_pos, go_sem, hP]
    exact ⟨hi.symm, hKp⟩

theorem index_mT_stp {row src : Option Nat} (l : List TStrip) (x : AV) (H : Heap) (g : FuncId) (caps : List AV) (p : TStrip → Bool) (hx : SlIsT H x 5 (encL TStrip.cells l)) (hl : l.length ≤ 1000000) (hen : enterable Tryz.prog g = true)
    (hg : ∀ a, a ∈ l → ∀ H', Kept [] H H' → MFun Tryz.prog row src g (.agg (TStrip.cells a) :: caps) H' (fun r H'' => r = bv (p a) ∧ Kept [] H' H'')) :
    MFun Tryz.prog row src 83 [x, .fn g caps] H (fun r H' => r = iv (idxI p l) ∧ Kept [] H H') := by
  refine mfun_intro Tryz.func83 rfl (by simp [Tryz.f83]) (by kernel_rfl) ⟨_, H, rfl, kept_refl _ _⟩ ?_
  intro E hP hr hs hN
  have hlen := hx.len
  rw [encL_len] at hlen
  simp -dsimp -implicitDefEqProofs [-getElem?_pos, go_sem, hP, hlen]
  obtain ⟨I, hI⟩ : ∃ I : Nat → St → Prop, I = fun m s => ∃ k : Nat, k ≤ l.length ∧ m = l.length - k ∧ idxI p l = idxFrom p k (l.drop k) ∧ s.t 0 = x ∧ s.t 1 = .fn g caps ∧ s.t 7 = iv l.length ∧ s.t 8 = iv k ∧ Kept [] H s.H := ⟨_, rfl⟩
  refine aloop0 I l.length (by rw [hN]; rfl) ?_ ?_
  · rw [hI]
    exact ⟨0, by omega, by omega, by simp [idxI], by simp -dsimp -implicitDefEqProofs [-getElem?_pos, go_sem], by simp -dsimp -implicitDefEqProofs [-getElem?_pos, go_sem], by simp -dsimp -implicitDefEqProofs [-getElem?_pos, go_sem], by simp -dsimp -implicitDefEqProofs [-getElem?_pos, go_sem], by simp -dsimp -implicitDefEqProofs [-getElem?_pos, go_sem]; exact kept_refl _ _⟩
  intro m s hs'
  rw [hI] at hs'
  obtain ⟨k, hk, hm, hi, t0, t1, t7, t8, hKp⟩ := hs'
  simp -dsimp -implicitDefEqProofs [-getElem?_pos, go_sem, hP, t7, t8]
  refine condP (fun h => ?_) (fun h => ?_)
  · have hk : k < l.length := by simpa using h
    obtain ⟨a, ha⟩ : ∃ a, l[k]? = some a := ⟨_, List.getElem?_eq_getElem hk⟩
    have wk := wrap_in ((k : Int) + 1) (by omega)
    obtain ⟨ad, h1, h2⟩ := (hx.kept hKp).idx (P := Tryz.prog) (t := 38) (e := 79) el_38 (by rw [sz_79]) kn_79 k (by rw [encL_len]; exact hk)
    have h2' : addrCells s.H ad = some (TStrip.cells a) := by
      rw [h2]
      have := encL_get TStrip.cells l k
      rw [ha, List.getElem?_eq_getElem (by rw [encL_len]; exact hk)] at this
      exact this
    have hz : (TStrip.cells a).take 5 = TStrip.cells a := List.take_of_length_le (by rw [TStrip.len]; omega)
    simp -dsimp -implicitDefEqProofs [-getElem?_pos, go_sem, hP, t8, t1, t0, h1, h2', TStrip.len, hz]
    have hd : l.drop k = a :: l.drop (k + 1) := by
      rw [List.getElem?_eq_getElem hk] at ha
      rw [List.drop_eq_getElem_cons hk, Option.some.inj ha]
    refine callB_m (by rw [hr, hs]; exact hg a (List.mem_of_getElem? ha) s.H hKp) hP hen ?_
    rintro r H' ⟨rfl, hK2⟩
    rw [hd] at hi
    simp only [idxFrom] at hi
    simp -dsimp -implicitDefEqProofs [-getElem?_pos, go_sem, hP]
    refine condP (fun hp => ?_) (fun hp => ?_)
    · rw [if_pos hp] at hi
      simp -dsimp -implicitDefEqProofs [-getElem?_pos, go_sem, hP]
      exact ⟨hi.symm, hKp.trans hK2⟩
    · rw [hp, if_neg (by simp)] at hi
      simp -dsimp -implicitDefEqProofs [-getElem?_pos, go_sem, hP, t8, wk]
      refine ⟨l.length - (k + 1), by omega, ?_⟩
      rw [hI]
      exact ⟨k + 1, by omega, rfl, hi, by simp -dsimp -implicitDefEqProofs [-getElem?_pos, go_sem, t0], by simp -dsimp -implicitDefEqProofs [-getElem?_pos, go_sem, t1], by simp -dsimp -implicitDefEqProofs [-getElem?_pos, go_sem, t7], by simp -dsimp -implicitDefEqProofs [-getElem?_pos, go_sem], by simp -dsimp -implicitDefEqProofs [-getElem?_pos, go_sem]; exact hKp.trans hK2⟩
  · have hk : k = l.length := by simp at h; omega
    subst hk
    rw [List.drop_length] at hi
    simp -dsimp -implicitDefEqProofs [-getElem?_pos, go_sem, hP]
    exact ⟨hi.symm, hKp⟩

set_option maxHeartbeats 4000000 in
theorem deleteFuncM_stp {row src : Option Nat} (l : List TStrip) (tl0 : List (List AV)) (id : Nat) (H : Heap) (g : FuncId) (caps : List AV) (p : TStrip → Bool) (hl : l.length ≤ 100000) (ho : H[id]? = some (some ⟨79, 5, encL TStrip.cells l ++ tl0⟩)) (hen : enterable Tryz.prog g = true)
    (hg : ∀ a, a ∈ l → ∀ H', Kept [id] H H' → MFun Tryz.prog row src g (.agg (TStrip.cells a) :: caps) H' (fun r H'' => r = bv (p a) ∧ Kept [] H' H'')) :
    MFun Tryz.prog row src 40 [.sref id 0 l.length, .fn g caps] H (fun r H' => ∃ tl, r = .sref id 0 (l.filter fun a => !p a).length ∧ H'[id]? = some (some ⟨79, 5, encL TStrip.cells (l.filter fun a => !p a) ++ tl⟩) ∧ Kept [id] H H') := by
  obtain ⟨C, hC⟩ : ∃ C : AV → Heap → Prop, C = fun r H' => ∃ tl, r = .sref id 0 (l.filter fun a => !p a).length ∧ H'[id]? = some (some ⟨79, 5, encL TStrip.cells (l.filter fun a => !p a) ++ tl⟩) ∧ Kept [id] H H' := ⟨_, rfl⟩
  rw [← hC]
  have lid := (List.getElem?_eq_some_iff.1 ho).1
  have ex : ∃ r H', C r H' := by
    rw [hC]
    exact ⟨_, H.set id (some ⟨79, 5, encL TStrip.cells (l.filter fun a => !p a) ++ []⟩), [], rfl, by simp [lid], kept_set _ (by simp) (kept_refl _ _)⟩
  obtain ⟨zs, hz⟩ := Option.isSome_iff_exists.1 (show (zeros Tryz.prog 79).isSome = true by kernel_rfl)
  obtain ⟨n, hn⟩ : ∃ n, n = l.length := ⟨_, rfl⟩
  refine mfun_intro Tryz.func40 rfl (by simp [Tryz.f40]) (by kernel_rfl) (ex) ?_
  intro E hP hr hs hN
  simp -dsimp -implicitDefEqProofs [-getElem?_pos, go_sem, hP]
  refine callB_m (by rw [hr, hs]; exact index_mT_stp l (.sref id 0 l.length) H g caps p (.inr (.inr ⟨id, 79, tl0, by rw [encL_len], ho⟩)) (by omega) hen (fun a ha H' hk => hg a ha H' (hk.mono (by simp)))) hP en_83 ?_
  rintro r H1 ⟨rfl, hk1⟩
  have ho1 := hk1 _ _ (by simp) ho
  have k1 : Kept [id] H H1 := hk1.mono (by simp)
  rcases idxI_spec p l with ⟨h1, h2⟩ | ⟨i, a, ha, hpa, h3, h4⟩
  · have hf : (l.filter fun a => !p a) = l := List.filter_eq_self.2 fun a ha => by simp [h2 a ha]
    simp -dsimp -implicitDefEqProofs [-getElem?_pos, go_sem, hP, h1]
    rw [hC, hf]
    exact ⟨tl0, rfl, ho1, k1⟩
  have hi1 : ¬ ((i : Int) = -1) := by omega
  have hil := (List.getElem?_eq_some_iff.1 ha).1
  have w1 := wrap_in ((i : Int) + 1) (by omega)
  have kept0 : (l.take (i + 1)).filter (fun a => !p a) = l.take i := by
    rw [List.take_add_one, ha, List.filter_append, Option.toList_some, List.filter_cons_of_neg (by simp [hpa]), List.filter_nil, List.append_nil]
    refine List.filter_eq_self.2 fun x hx => ?_
    obtain ⟨j, hj⟩ := List.getElem?_of_mem hx
    rw [List.getElem?_take] at hj
    split at hj
    · simp [h4 j x (by assumption) hj]
    · cases hj
  simp -dsimp -implicitDefEqProofs [-getElem?_pos, go_sem, hP, h3, hi1, w1]
  obtain ⟨I, hI⟩ : ∃ I : Nat → St → Prop, I = fun m s => ∃ (j q : Nat) (ks : List TStrip) (rows : List (List AV)), ks = ((l.take j).filter fun a => !p a) ∧ q = ks.length ∧ j ≤ n ∧ m = n - j ∧ q < j ∧ n ≤ rows.length ∧ (∀ i e, i < n → rows[i]? = some e → e.length = 5) ∧ rows.take q = encL TStrip.cells ks ∧ rows.drop j = encL TStrip.cells (l.drop j) ++ tl0 ∧ s.t 0 = .sref id 0 n ∧ s.t 1 = .fn g caps ∧ s.t 5 = iv q ∧ s.t 6 = iv j ∧ s.H[id]? = some (some ⟨79, 5, rows⟩) ∧ Kept [id] H s.H := ⟨_, rfl⟩
  refine aloop0 I (n - (i + 1)) (by rw [hN]; rfl) ?_ ?_
  · rw [hI]
    refine ⟨i + 1, i, l.take i, encL TStrip.cells l ++ tl0, kept0.symm, by simp; omega, by omega, by omega, by omega, by rw [List.length_append, encL_len]; omega, fun i' e hi' he => ?_, ?_, ?_, by simp -dsimp -implicitDefEqProofs [-getElem?_pos, go_sem, hn], by simp -dsimp -implicitDefEqProofs [-getElem?_pos, go_sem], by simp -dsimp -implicitDefEqProofs [-getElem?_pos, go_sem], by simp -dsimp -implicitDefEqProofs [-getElem?_pos, go_sem], by simp -dsimp -implicitDefEqProofs [-getElem?_pos, go_sem, ho1], by simp -dsimp -implicitDefEqProofs [-getElem?_pos, go_sem]; exact k1⟩
    · rw [List.getElem?_append_left (by rw [encL_len]; omega)] at he
      obtain ⟨x, _, rfl⟩ := List.mem_map.1 (List.mem_of_getElem? he)
      exact TStrip.len x
    · rw [List.take_append_of_le_length (by rw [encL_len]; omega), encL_takeE]
    · rw [List.drop_append_of_le_length (by rw [encL_len]; omega), encL_dropE]
  intro m s hs'
  rw [hI] at hs'
  obtain ⟨j, q, ks, rows, hks, hq, hjn, hm, hqj, hrl, hre, hrt, hrd, t0, t1, t5, t6, h0, hk⟩ := hs'
  have lt0 := (List.getElem?_eq_some_iff.1 h0).1
  simp -dsimp -implicitDefEqProofs [-getElem?_pos, go_sem, hP, t0, t6, h0]
  refine condP (fun hh => ?_) (fun hh => ?_)
  · have hj : j < n := by simpa using hh
    obtain ⟨x, hx⟩ : ∃ x, l[j]? = some x := ⟨_, List.getElem?_eq_getElem (by omega)⟩
    have wj := wrap_in ((j : Int) + 1) (by omega)
    have wq := wrap_in ((q : Int) + 1) (by omega)
    have hjr : j < rows.length := by omega
    have hrow : rows[j]? = some (TStrip.cells x) := by
      have := congrArg (·[0]?) hrd
      simp only [List.getElem?_drop, Nat.add_zero] at this
      rw [List.getElem?_append_left (by rw [encL_len, List.length_drop]; omega), encL_getE, List.getElem?_drop, Nat.add_zero, hx] at this
      simpa using this
    have htk : (l.take (j + 1)).filter (fun a => !p a) = if p x = true then ks else ks ++ [x] := by
      rw [List.take_add_one, hx, List.filter_append, Option.toList_some, ← hks]
      by_cases hpx : p x = true <;> simp [hpx, List.filter_cons]
    have hxl := TStrip.len x
    have hgx := hg x (List.mem_of_getElem? hx) (s.H ++ [some ⟨79, 5, [TStrip.cells x]⟩]) (hk.trans (kept_app _ _ _))
    have hd1 : rows.drop (j + 1) = encL TStrip.cells (l.drop (j + 1)) ++ tl0 := by
      have := congrArg (List.drop 1) hrd
      rw [List.drop_drop, List.drop_append_of_le_length (by rw [encL_len, List.length_drop]; omega), encL_dropE, List.drop_drop] at this
      exact this
    simp -dsimp -implicitDefEqProofs [-getElem?_pos, go_sem, hP, t0, t6, h0, hrow, hj, hjr, TStrip.cells]
    simp -dsimp -implicitDefEqProofs [-getElem?_pos, go_sem, hP, t1]
    simp only [TStrip.cells] at hgx
    refine callB_m (by rw [hr, hs]; exact hgx) hP hen ?_
    rintro r H2 ⟨rfl, hk2⟩
    have e0 := hk2 _ _ (by simp) (show (s.H ++ [some (⟨79, 5, [TStrip.cells x]⟩ : AObj)])[id]? = some (some ⟨79, 5, rows⟩) by rw [List.getElem?_append_left lt0]; exact h0)
    have ex0 := hk2 _ _ (by simp) (show (s.H ++ [some (⟨79, 5, [TStrip.cells x]⟩ : AObj)])[s.H.length]? = some (some ⟨79, 5, [TStrip.cells x]⟩) by simp)
    simp only [TStrip.cells] at ex0
    have lt2 := (List.getElem?_eq_some_iff.1 e0).1
    have ltx := (List.getElem?_eq_some_iff.1 ex0).1
    have kk2 : Kept [id] H H2 := (hk.trans (kept_app _ _ _)).trans (hk2.mono (by simp))
    simp -dsimp -implicitDefEqProofs [-getElem?_pos, go_sem, hP]
    refine condP (fun hp => ?_) (fun hp => ?_)
    · rw [if_pos hp] at htk
      simp -dsimp -implicitDefEqProofs [-getElem?_pos, go_sem, hP, t6, wj]
      refine ⟨n - (j + 1), by omega, ?_⟩
      rw [hI]
      exact ⟨j + 1, q, ks, rows, htk.symm, hq, by omega, rfl, by omega, hrl, hre, hrt, hd1, by simp -dsimp -implicitDefEqProofs [-getElem?_pos, go_sem, t0], by simp -dsimp -implicitDefEqProofs [-getElem?_pos, go_sem, t1], by simp -dsimp -implicitDefEqProofs [-getElem?_pos, go_sem, t5], by simp -dsimp -implicitDefEqProofs [-getElem?_pos, go_sem], by simp -dsimp -implicitDefEqProofs [-getElem?_pos, go_sem, e0, lt2], by simp -dsimp -implicitDefEqProofs [-getElem?_pos, go_sem]; exact kk2⟩
    · rw [if_neg (by simp [hp])] at htk
      obtain ⟨r0, hr0⟩ : ∃ r0, rows[q]? = some r0 := ⟨_, List.getElem?_eq_getElem (by omega)⟩
      have hr0l := hre q r0 (by omega) hr0
      have hr0d : r0.drop 5 = [] := List.drop_of_length_le (by omega)
      have hqn : q < n := by omega
      have hqr : q < rows.length := by omega
      simp -dsimp -implicitDefEqProofs [-getElem?_pos, go_sem, hP, t0, t5, t6, e0, lt2, ex0, ltx, hr0, hr0l, hr0d, hqn, hqr, wj, wq]
      refine ⟨n - (j + 1), by omega, ?_⟩
      rw [hI]
      refine ⟨j + 1, q + 1, ks ++ [x], rows.set q (TStrip.cells x), htk.symm, by simp; omega, by omega, rfl, by omega, by simp; omega, fun i' e hi' he => ?_, ?_, ?_, by simp -dsimp -implicitDefEqProofs [-getElem?_pos, go_sem, t0], by simp -dsimp -implicitDefEqProofs [-getElem?_pos, go_sem, t1], by simp -dsimp -implicitDefEqProofs [-getElem?_pos, go_sem], by simp -dsimp -implicitDefEqProofs [-getElem?_pos, go_sem], by simp -dsimp -implicitDefEqProofs [-getElem?_pos, go_sem, lt2, TStrip.cells], by simp -dsimp -implicitDefEqProofs [-getElem?_pos, go_sem]; exact kept_set _ (by simp) kk2⟩
      · rw [List.getElem?_set] at he
        simp only [hqr, if_true] at he
        split at he
        · cases he
          exact hxl
        · exact hre i' e hi' he
      · rw [List.take_add_one, List.take_set_of_le (by omega), hrt, List.getElem?_set_self (by omega), ← encL_appE]
        rfl
      · rw [List.drop_set_of_lt (by omega)]
        exact hd1
  · have hj : j = n := by simp at hh; omega
    subst hj
    have hkl : ks = l.filter fun a => !p a := by rw [hks, hn, List.take_length]
    have hqn : q ≤ j := by omega
    have hqn1 : ¬ q = j := by omega
    have hqn2 : ¬ (q : Int) = j := by omega
    have hrd0 : rows.drop j = tl0 := by rw [hrd, List.drop_of_length_le (by omega)]; rfl
    have sx : ∀ (id n : Nat), (if q = 0 then some (AV.sref id 0 n) else some (AV.sref id q (n - q))) = some (.sref id q (n - q)) := fun id n => by
      split
      · rename_i h0; rw [h0, Nat.sub_zero]
      · rfl
    simp -dsimp -implicitDefEqProofs [-getElem?_pos, go_sem, hP, t0, t5, h0, asliceOp, bound, aslice, hqn, hqn1, hqn2, sx]
    refine buiB_clearE (e := 79) (es' := encL TStrip.cells ks ++ (List.replicate (j - q) zs ++ tl0)) h0 (.inl rfl) (by rw [hP]; kernel_rfl) (by rw [hP]; kernel_rfl) (by omega) (by rw [hP]; exact hz) (by omega) (by omega) ?_ ?_
    · rw [hrt, show q + (j - q) = j by omega, hrd0, List.append_assoc]
    simp -dsimp -implicitDefEqProofs [-getElem?_pos, go_sem, hP, t0, t5, lt0, asliceOp, bound, aslice, hqn, hqn1, hqn2, sx]
    rw [hC, ← hkl]
    exact ⟨List.replicate (j - q) zs ++ tl0, by rw [hq], by simp [lt0], kept_set _ (by simp) hk⟩

theorem pay1_m {row src : Option Nat} (x : TStrip) (day : Int) (H : Heap) (p : Nat) (hb : H[p]? = some (some ⟨3, 1, [[iv day]]⟩)) (h : x.Day ≤ day) : MFun Tryz.prog row src 41 [.agg x.cells, .ref p 0 0] H (fun r H' => r = bv true ∧ Kept [] H H') := by
  have dh := decide_eq_true h
  have lb := (List.getElem?_eq_some_iff.1 hb).1
  refine mfun_intro Tryz.func41 rfl (by simp [Tryz.f41]) (by kernel_rfl) (⟨_, H, rfl, kept_refl _ _⟩) ?_
  intro E hP hr hs hN
  have hb' : ∀ x : Heap, (H ++ x)[p]? = some (some ⟨3, 1, [[iv day]]⟩) := fun x => by rw [List.getElem?_append_left lb]; exact hb
  simp -dsimp -implicitDefEqProofs [-getElem?_pos, go_sem, hP, cStp, dh, hb']
  exact kept_app _ _ _
theorem delAll_m {row src : Option Nat} (l : List TStrip) (day : Int) (id p : Nat) (H : Heap) (hl : l.length ≤ 100000) (ho : H[id]? = some (some ⟨79, 5, encL TStrip.cells l⟩)) (hp : H[p]? = some (some ⟨3, 1, [[iv day]]⟩)) (hne : p ≠ id) (h : ∀ x, x ∈ l → x.Day ≤ day) :
    MFun Tryz.prog row src 40 [.sref id 0 l.length, .fn 41 [.ref p 0 0]] H (fun r H' => ∃ jd, r = .sref jd 0 0 ∧ H'[jd]? = some (some ⟨79, 5, []⟩) ∧ (∀ (z : Nat) (o : AObj), z ≠ id → H[z]? = some (some o) → z < jd) ∧ Kept [id] H H') := by
  refine mfun_cut (deleteFuncM_stp l [] id H 41 [.ref p 0 0] (fun _ => true) hl (by rw [List.append_nil]; exact ho) en_41 fun a ha H' hk => pay1_m a day H' p (hk p _ (by simpa using hne) hp) (h a ha)) ?_
  rintro r H' ⟨tl, rfl, h1, h2⟩
  have e : (l.filter fun _ => !true) = [] := List.filter_eq_nil_iff.2 (by simp)
  rw [e] at h1 ⊢
  refine ⟨id, 0, _, rfl, h1, by simp, H'.length, rfl, by simp, fun z o hz he => (List.getElem?_eq_some_iff.1 (h2 z o (by simpa using hz) he)).1, h2.trans ((kept_set none (by simp) (kept_refl _ _)).trans (kept_app _ _ _))⟩
theorem gcopy_pf (r : TRegister) (h1 : r.Securities.length ≤ 100000) (h2 : r.Holdings.length ≤ 100000) (h3 : r.Moves.length ≤ 100000) : PFun Tryz.prog none none 23 [.agg r.cells] (· = .agg r.cells) :=
  pfun_of_mfun_agg (gcopy_m r [] h1 h2 h3) (imm_reg r) fun x H' hc => by
    obtain ⟨i1, i2, i3, rfl, hrc, _⟩ := hc
    exact ⟨_, rfl, hrc.cw⟩
def payM (b : TSecurity) (v : TVault) (S : Int) : TMove := ⟨(v.Register.Moves.length : Int) + 1, b.Maturity, 3, b.ID, 1000, 0, S⟩
def payR (b : TSecurity) (v : TVault) (S : Int) : TRegister := if S = 0 then v.Register else moved v.Register (payM b v S)
set_option maxHeartbeats 8000000 in
theorem spay_pf (b : TSecurity) (hb : BS b) (v : TVault) (S d : Int) (ok : VOk b v S d) (hml : v.Register.Moves.length < 400) (hday : ∀ x, x ∈ v.Strips → x.Day ≤ b.Maturity) (hM : S ≠ 0 → moveE v.Register.Securities v.Register.Holdings d (payM b v S) = 0) : PFun Tryz.prog none none 14 [.agg v.cells, iv b.Maturity] (· = .tup [.agg (⟨payR b v S, []⟩ : TVault).cells, iv 0]) := by
  obtain ⟨QQ, hQQ⟩ : ∃ QQ : AV → Prop, QQ = (· = .tup [.agg (⟨payR b v S, []⟩ : TVault).cells, iv 0]) := ⟨_, rfl⟩
  rw [← hQQ]
  have ck := scheck_pf b hb v S d ok
  have so := secOk hb.ok
  have iv0 := imm_vlt v
  have ir := imm_reg v.Register
  have il := imm_strips v.Strips
  have len := ok.len
  have h4 := ok.reg.hl.len
  have hld := gheld_pf v.Register d b.ID 1000 ok.reg
  rw [ok.held] at hld
  have cp := gcopy_pf v.Register (by rw [ok.secs]; simp) (by omega) (by omega)
  have rd := gredeem_pf v.Register d (payM b v S) ok.reg hml rfl ⟨rfl, rfl⟩
  have rdx := moveQ_ex v.Register d (payM b v S)
  obtain ⟨M, hMd⟩ : ∃ M, M = payM b v S := ⟨_, rfl⟩
  have eM : M.Day = b.Maturity ∧ M.Security = b.ID ∧ M.From = 1000 ∧ M.Amount = S := by rw [hMd]; exact ⟨rfl, rfl, rfl, rfl⟩
  have hR : payR b v S = if S = 0 then v.Register else moved v.Register M := by rw [hMd]; rfl
  rw [← hMd] at rd rdx hM
  rw [eM.1, eM.2.1, eM.2.2.1, eM.2.2.2] at rd
  obtain ⟨R, hRd⟩ : ∃ R, R = payR b v S := ⟨_, rfl⟩
  rw [← hRd] at hR hQQ
  clear hMd eM
  have cl := fun H : Heap => clone_m_stp (row := none) (src := none) v.Strips H (by omega)
  have m1 := so.mat
  have m2 := so.iss
  have d1 : decide (b.Maturity < 0) = false := decide_eq_false (by omega)
  have d2 : decide (36000 < b.Maturity) = false := decide_eq_false (by omega)
  rw [cVlt] at ck iv0
  rw [cReg] at hld ir cp rd
  refine pfun_intro Tryz.func14 rfl (by simp [Tryz.f14]) (by kernel_rfl) ?_
  intro E hP hr hs hW hN
  simp -dsimp -implicitDefEqProofs [-getElem?_pos, go_sem, hP, cVlt]
  refine callB_is (ck.lift _ _) hP en_16 (by simpa using iv0) .sc ?_
  simp -dsimp -implicitDefEqProofs [-getElem?_pos, go_sem, hP, d1, d2]
  obtain ⟨H0, hH0⟩ : ∃ H0 : Heap, H0 = [some ⟨40, 4, [[secsL v.Register.Securities, holdsL v.Register.Holdings, movesL v.Register.Moves, stripsL v.Strips]]⟩, some ⟨3, 1, [[iv b.Maturity]]⟩, some ⟨40, 4, [[.nil, .nil, .nil, .nil]]⟩] := ⟨_, rfl⟩
  have a0 : H0[0]? = some (some ⟨40, 4, [[secsL v.Register.Securities, holdsL v.Register.Holdings, movesL v.Register.Moves, stripsL v.Strips]]⟩) := by rw [hH0]; rfl
  have a1 : H0[1]? = some (some ⟨3, 1, [[iv b.Maturity]]⟩) := by rw [hH0]; rfl
  have a2 : H0[2]? = some (some ⟨40, 4, [[.nil, .nil, .nil, .nil]]⟩) := by rw [hH0]; rfl
  have l0 : H0.length = 3 := by rw [hH0]; rfl
  have live : ∀ i, i < 3 → ∃ o, H0[i]? = some (some o) := fun i hi => by
    rw [hH0]
    match i, hi with
    | 0, _ => exact ⟨_, rfl⟩
    | 1, _ => exact ⟨_, rfl⟩
    | 2, _ => exact ⟨_, rfl⟩
  have aD : ∀ (X X' : Heap) (id : Nat), 3 ≤ id → Kept [id] H0 X → Kept [id] X X' → Agree (fun i => decide (i < 3)) X X' := fun X X' id h3 h1 h2 i hi => by
    have hi3 := of_decide_eq_true hi
    obtain ⟨o, ho⟩ := live i hi3
    have e1 := h1 i o (by simp; omega) ho
    rw [e1, h2 i o (by simp; omega) e1]
  rw [← hH0]
  obtain ⟨Inv, hInv⟩ : ∃ Inv : St → Prop, Inv = fun s => ∃ p j, s.t 2 = .ref 0 0 0 ∧ s.t 3 = .ref 1 0 0 ∧ s.t 4 = .ref 2 0 0 ∧ s.t 7 = .ref p 0 0 ∧ 3 ≤ p ∧ 3 ≤ j ∧ p ≠ j ∧ Kept [j] H0 s.H ∧ s.H[p]? = some (some ⟨40, 4, [[secsL v.Register.Securities, holdsL v.Register.Holdings, movesL v.Register.Moves, .sref j 0 0]]⟩) ∧ s.H[j]? = some (some ⟨79, 5, []⟩) := ⟨_, rfl⟩
  have fin : ∀ (X : Heap) (id j : Nat) (t : Nat → AV), 3 ≤ id → 3 ≤ j → Kept [id] H0 X → X[j]? = some (some ⟨79, 5, []⟩) → t 2 = .ref 0 0 0 → t 3 = .ref 1 0 0 → t 4 = .ref 2 0 0 → t 7 = .ref X.length 0 0 → Inv ⟨t, X ++ [some ⟨40, 4, [[secsL v.Register.Securities, holdsL v.Register.Holdings, movesL v.Register.Moves, .sref j 0 0]]⟩]⟩ := fun X id j t hid hj hk ho e1 e2 e3 e4 => by
    rw [hInv]
    have lj := (List.getElem?_eq_some_iff.1 ho).1
    have l2 : 2 < X.length := (List.getElem?_eq_some_iff.1 (hk 2 _ (by simp; omega) a2)).1
    refine ⟨X.length, j, e1, e2, e3, e4, by omega, hj, by omega, ?_, by simp, ?_⟩
    · intro z o hz he
      have hz3 : z < 3 := by have := (List.getElem?_eq_some_iff.1 he).1; omega
      have := hk z o (by simp; omega) he
      rw [List.getElem?_append_left (by have := (List.getElem?_eq_some_iff.1 this).1; omega)]
      exact this
    · dsimp only
      rw [List.getElem?_append_left lj]; exact ho
  have fin2 : ∀ (X : Heap) (id j p : Nat) (t : Nat → AV), 3 ≤ id → 3 ≤ j → 3 ≤ p → p ≠ j → p < X.length → Kept [id] H0 X → X[j]? = some (some ⟨79, 5, []⟩) → t 2 = .ref 0 0 0 → t 3 = .ref 1 0 0 → t 4 = .ref 2 0 0 → t 7 = .ref p 0 0 → Inv ⟨t, X.set p (some ⟨40, 4, [[secsL v.Register.Securities, holdsL v.Register.Holdings, movesL v.Register.Moves, .sref j 0 0]]⟩)⟩ := fun X id j p t hid hj hp hpj hpx hk ho e1 e2 e3 e4 => by
    rw [hInv]
    refine ⟨p, j, e1, e2, e3, e4, hp, hj, hpj, ?_, by simp [hpx], ?_⟩
    · intro z o hz he
      have hz3 : z < 3 := by have := (List.getElem?_eq_some_iff.1 he).1; omega
      have := hk z o (by simp; omega) he
      dsimp only
      rw [List.getElem?_set_ne (by omega)]
      exact this
    · dsimp only
      rw [List.getElem?_set_ne hpj]; exact ho
  have ag2 : ∀ (X : Heap), 3 ≤ X.length → ∀ x y : Option AObj, Agree (fun i => decide (i < 3)) (X ++ [x]) (X ++ [y]) := fun X hX x y i hi => by
    have := of_decide_eq_true hi
    rw [List.getElem?_append_left (by omega), List.getElem?_append_left (by omega)]
  have ag3 : ∀ (X : Heap) (p : Nat), 3 ≤ p → ∀ x : Option AObj, Agree (fun i => decide (i < 3)) X (X.set p x) := fun X p hp x i hi => by
    have := of_decide_eq_true hi
    rw [List.getElem?_set_ne (by omega)]
  refine adraw_cut Inv ?_ ?_
  · refine adrawK (fun i => decide (i < 3)) [] [2] 5 hP (by kernel_rfl) (by kernel_rfl) (by simp) ?_
    simp -dsimp -implicitDefEqProofs [-getElem?_pos, go_sem, hP, List.take_succ_cons, List.take_zero, restr_get, a0, l0]
    refine callQ_is (cp.lift _ _) hP en_23 (by simpa using ir) ir ?_
    simp -dsimp -implicitDefEqProofs [-getElem?_pos, go_sem, hP, restr_get, a0, l0]
    refine xany_pick 6 rfl (by kernel_rfl) ?_
    simp -dsimp -implicitDefEqProofs [-getElem?_pos, go_sem, hP]
    refine xany_two (i := 5) (j := 9) (by kernel_rfl) rfl rfl ?_ ?_
    · simp -dsimp -implicitDefEqProofs [-getElem?_pos, go_sem, hP]
      refine callB_m (by rw [hr, hs]; exact cl H0) hP en_31 ?_
      rintro x H2 ⟨id, rfl, hid, oid, hk⟩
      have hk' : Kept [id] H0 H2 := hk.mono (by simp)
      have b1 := hk _ _ (by simp) a1
      have dm := fun {row src : Option Nat} => delAll_m (row := row) (src := src) v.Strips b.Maturity id 1 H2 (by omega) oid b1 (by omega) hday
      simp -dsimp -implicitDefEqProofs [-getElem?_pos, go_sem, hP]
      refine ⟨aD _ _ id (by omega) (kept_refl _ _) hk', ?_⟩
      refine xany_two (i := 7) (j := 9) (by kernel_rfl) rfl rfl ?_ ?_
      · simp -dsimp -implicitDefEqProofs [-getElem?_pos, go_sem, hP]
        refine callB_m (by rw [hr, hs]; exact dm) hP en_40 ?_
        rintro x H3 ⟨j, rfl, oj, hj, hk3⟩
        have hk03 := hk'.trans hk3
        have j3 : 3 ≤ j := by
          have := hj 2 _ (by omega) (hk 2 _ (by simp) a2)
          omega
        have lj := (List.getElem?_eq_some_iff.1 oj).1
        simp -dsimp -implicitDefEqProofs [-getElem?_pos, go_sem, hP]
        refine ⟨aD _ _ id (by omega) hk' hk3, ?_⟩
        refine xany_two (i := 8) (j := 9) (by kernel_rfl) rfl rfl ?_ ?_
        · simp -dsimp -implicitDefEqProofs [-getElem?_pos, go_sem, hP]
          refine xany_one (i := 9) (by kernel_rfl) rfl ?_
          simp -dsimp -implicitDefEqProofs [-getElem?_pos, go_sem, hP]
          refine ⟨aD _ _ id (by omega) hk03 (kept_app _ _ _), ?_⟩
          refine xany_one (i := 10) (by kernel_rfl) rfl ?_
          simp -dsimp -implicitDefEqProofs [-getElem?_pos, go_sem, hP]
          refine ⟨ag2 _ (by omega) _ _, ?_⟩
          refine xany_nil (by kernel_rfl) ?_
          exact fin H3 id j _ (by omega) j3 hk03 oj (by simp -dsimp -implicitDefEqProofs [-getElem?_pos, go_sem]) (by simp -dsimp -implicitDefEqProofs [-getElem?_pos, go_sem]) (by simp -dsimp -implicitDefEqProofs [-getElem?_pos, go_sem]) (by simp -dsimp -implicitDefEqProofs [-getElem?_pos, go_sem])
        · simp -dsimp -implicitDefEqProofs [-getElem?_pos, go_sem, hP]
          refine ⟨aD _ _ id (by omega) hk03 (kept_app _ _ _), ?_⟩
          refine xany_one (i := 8) (by kernel_rfl) rfl ?_
          simp -dsimp -implicitDefEqProofs [-getElem?_pos, go_sem, hP]
          refine xany_one (i := 10) (by kernel_rfl) rfl ?_
          simp -dsimp -implicitDefEqProofs [-getElem?_pos, go_sem, hP]
          refine ⟨ag2 _ (by omega) _ _, ?_⟩
          refine xany_nil (by kernel_rfl) ?_
          exact fin H3 id j _ (by omega) j3 hk03 oj (by simp -dsimp -implicitDefEqProofs [-getElem?_pos, go_sem]) (by simp -dsimp -implicitDefEqProofs [-getElem?_pos, go_sem]) (by simp -dsimp -implicitDefEqProofs [-getElem?_pos, go_sem]) (by simp -dsimp -implicitDefEqProofs [-getElem?_pos, go_sem])
      · simp -dsimp -implicitDefEqProofs [-getElem?_pos, go_sem, hP]
        refine ⟨aD _ _ id (by omega) hk' (kept_app _ _ _), ?_⟩
        refine xany_one (i := 7) (by kernel_rfl) rfl ?_
        obtain ⟨Z, hZ⟩ : ∃ Z : Heap, Z = H2 ++ [some ⟨40, 4, [[.nil, .nil, .nil, .nil]]⟩] := ⟨_, rfl⟩
        obtain ⟨q, hq⟩ : ∃ q, q = H2.length := ⟨_, rfl⟩
        have kZ : Kept [id] H2 Z := by rw [hZ]; exact kept_app _ _ _
        have kZ0 : Kept [] H2 Z := by rw [hZ]; exact kept_app _ _ _
        have zq : Z[q]? = some (some ⟨40, 4, [[.nil, .nil, .nil, .nil]]⟩) := by rw [hZ, hq]; simp
        have lid := (List.getElem?_eq_some_iff.1 oid).1
        have dmZ := fun {row src : Option Nat} => delAll_m (row := row) (src := src) v.Strips b.Maturity id 1 Z (by omega) (kZ0 _ _ (by simp) oid) (kZ0 _ _ (by simp) b1) (by omega) hday
        rw [← hZ, ← hq]
        simp -dsimp -implicitDefEqProofs [-getElem?_pos, go_sem, hP]
        refine callB_m (by rw [hr, hs]; exact dmZ) hP en_40 ?_
        rintro x H3 ⟨j, rfl, oj, hj, hk3⟩
        have hk03 := (hk'.trans kZ).trans hk3
        have qj := hj q _ (by omega) zq
        have o3 := hk3 q _ (by simp; omega) zq
        have l3 := (List.getElem?_eq_some_iff.1 o3).1
        have l2 : 2 < H2.length := (List.getElem?_eq_some_iff.1 (hk 2 _ (by simp) a2)).1
        simp -dsimp -implicitDefEqProofs [-getElem?_pos, go_sem, hP]
        refine ⟨aD _ _ id (by omega) (hk'.trans kZ) hk3, ?_⟩
        refine xany_one (i := 8) (by kernel_rfl) rfl ?_
        simp -dsimp -implicitDefEqProofs [-getElem?_pos, go_sem, hP]
        refine xany_one (i := 10) (by kernel_rfl) rfl ?_
        simp -dsimp -implicitDefEqProofs [-getElem?_pos, go_sem, hP, o3, l3]
        refine ⟨ag3 _ q (by omega) _, ?_⟩
        refine xany_nil (by kernel_rfl) ?_
        exact fin2 H3 id j q _ (by omega) (by omega) (by omega) (by omega) l3 hk03 oj (by simp -dsimp -implicitDefEqProofs [-getElem?_pos, go_sem]) (by simp -dsimp -implicitDefEqProofs [-getElem?_pos, go_sem]) (by simp -dsimp -implicitDefEqProofs [-getElem?_pos, go_sem]) (by simp -dsimp -implicitDefEqProofs [-getElem?_pos, go_sem])
    · simp -dsimp -implicitDefEqProofs [-getElem?_pos, go_sem, hP]
      refine ⟨aD _ _ 3 (by omega) (kept_refl _ _) (kept_app _ _ _), ?_⟩
      refine xany_one (i := 5) (by kernel_rfl) rfl ?_
      obtain ⟨Z, hZ⟩ : ∃ Z : Heap, Z = H0 ++ [some ⟨40, 4, [[.nil, .nil, .nil, .nil]]⟩] := ⟨_, rfl⟩
      have kZ0 : Kept [] H0 Z := by rw [hZ]; exact kept_app _ _ _
      have zq : Z[3]? = some (some ⟨40, 4, [[.nil, .nil, .nil, .nil]]⟩) := by rw [hZ, List.getElem?_append_right (by omega), l0]; rfl
      have lZ : Z.length = 4 := by rw [hZ]; simp [l0]
      rw [← hZ]
      simp -dsimp -implicitDefEqProofs [-getElem?_pos, go_sem, hP]
      refine callB_m (by rw [hr, hs]; exact cl Z) hP en_31 ?_
      rintro x H2 ⟨id, rfl, hid, oid, hk⟩
      have b1 := hk _ _ (by simp) (kZ0 _ _ (by simp) a1)
      have o2 := hk _ _ (by simp) zq
      have dmZ := fun {row src : Option Nat} => delAll_m (row := row) (src := src) v.Strips b.Maturity id 1 H2 (by omega) oid b1 (by omega) hday
      have kk : Kept [id] H0 H2 := (kZ0.trans hk).mono (by simp)
      simp -dsimp -implicitDefEqProofs [-getElem?_pos, go_sem, hP]
      refine ⟨aD _ _ id (by omega) (kZ0.mono (by simp)) (hk.mono (by simp)), ?_⟩
      refine xany_one (i := 7) (by kernel_rfl) rfl ?_
      simp -dsimp -implicitDefEqProofs [-getElem?_pos, go_sem, hP]
      refine callB_m (by rw [hr, hs]; exact dmZ) hP en_40 ?_
      rintro x H3 ⟨j, rfl, oj, hj, hk3⟩
      have hk03 := kk.trans hk3
      have qj := hj 3 _ (by omega) o2
      have o3 := hk3 3 _ (by simp; omega) o2
      have l3 := (List.getElem?_eq_some_iff.1 o3).1
      simp -dsimp -implicitDefEqProofs [-getElem?_pos, go_sem, hP]
      refine ⟨aD _ _ id (by omega) kk hk3, ?_⟩
      refine xany_one (i := 8) (by kernel_rfl) rfl ?_
      simp -dsimp -implicitDefEqProofs [-getElem?_pos, go_sem, hP]
      refine xany_one (i := 10) (by kernel_rfl) rfl ?_
      simp -dsimp -implicitDefEqProofs [-getElem?_pos, go_sem, hP, l0, o3, l3]
      refine ⟨ag3 _ 3 (by omega) _, ?_⟩
      refine xany_nil (by kernel_rfl) ?_
      exact fin2 H3 id j 3 _ (by omega) (by omega) (by omega) (by omega) l3 hk03 oj (by simp -dsimp -implicitDefEqProofs [-getElem?_pos, go_sem]) (by simp -dsimp -implicitDefEqProofs [-getElem?_pos, go_sem]) (by simp -dsimp -implicitDefEqProofs [-getElem?_pos, go_sem]) (by simp -dsimp -implicitDefEqProofs [-getElem?_pos, go_sem, l0])
  intro s hs2
  rw [hInv] at hs2
  obtain ⟨p, j, t2, t3, t4, t7, hp3, hj3, npj, kp, gp, gj⟩ := hs2
  have g0 := kp 0 _ (by simp; omega) a0
  have g1 := kp 1 _ (by simp; omega) a1
  have g2 := kp 2 _ (by simp; omega) a2
  clear hInv aD live cl kp fin fin2 ag2 ag3 a0 a1 a2
  have l0 := (List.getElem?_eq_some_iff.1 g0).1
  simp -dsimp -implicitDefEqProofs [-getElem?_pos, go_sem, hP, t2, g0, l0, ok.secs]
  have os := ok.secs
  obtain ⟨I, hI⟩ : ∃ I : Nat → St → Prop, I = fun m s => ∃ (k : Nat) (G : TRegister), k ≤ 1 ∧ m = 1 - k ∧ (k = 0 → G = v.Register) ∧ (k = 1 → G = R) ∧ s.t 2 = .ref 0 0 0 ∧ s.t 3 = .ref 1 0 0 ∧ s.t 4 = .ref 2 0 0 ∧ s.t 7 = .ref p 0 0 ∧ s.t 37 = secsL [b] ∧ s.t 38 = iv 1 ∧ s.t 39 = iv k ∧ s.H[0]? = some (some ⟨40, 4, [[secsL v.Register.Securities, holdsL v.Register.Holdings, movesL v.Register.Moves, stripsL v.Strips]]⟩) ∧ s.H[1]? = some (some ⟨3, 1, [[iv b.Maturity]]⟩) ∧ s.H[2]? = some (some ⟨40, 4, [[.nil, .nil, .nil, .nil]]⟩) ∧ s.H[p]? = some (some ⟨40, 4, [[secsL G.Securities, holdsL G.Holdings, movesL G.Moves, .sref j 0 0]]⟩) ∧ s.H[j]? = some (some ⟨79, 5, []⟩) := ⟨_, rfl⟩
  refine aloop0 I (1) (by rw [hN]; rfl) ?_ ?_
  · rw [hI]
    exact ⟨0, v.Register, by omega, by omega, fun _ => rfl, fun e => absurd e (by decide), by simp -dsimp -implicitDefEqProofs [-getElem?_pos, go_sem, t2], by simp -dsimp -implicitDefEqProofs [-getElem?_pos, go_sem, t3], by simp -dsimp -implicitDefEqProofs [-getElem?_pos, go_sem, t4], by simp -dsimp -implicitDefEqProofs [-getElem?_pos, go_sem, t7], by simp -dsimp -implicitDefEqProofs [-getElem?_pos, go_sem, encL, cSec], by simp -dsimp -implicitDefEqProofs [-getElem?_pos, go_sem], by simp -dsimp -implicitDefEqProofs [-getElem?_pos, go_sem], by simp -dsimp -implicitDefEqProofs [-getElem?_pos, go_sem, g0, os], by simp -dsimp -implicitDefEqProofs [-getElem?_pos, go_sem, g1], by simp -dsimp -implicitDefEqProofs [-getElem?_pos, go_sem, g2], by simp -dsimp -implicitDefEqProofs [-getElem?_pos, go_sem, gp, os], by simp -dsimp -implicitDefEqProofs [-getElem?_pos, go_sem, gj]⟩
  clear g0 g1 g2 gp gj t2 t3 t4 t7 l0 s
  intro m s hs'
  rw [hI] at hs'
  obtain ⟨k, G, hk, hm, hG0, hG1, t2, t3, t4, t7, t37, t38, t39, g0, g1, g2, gp, gj⟩ := hs'
  have l0 := (List.getElem?_eq_some_iff.1 g0).1
  have l1 := (List.getElem?_eq_some_iff.1 g1).1
  have l2 := (List.getElem?_eq_some_iff.1 g2).1
  have lp := (List.getElem?_eq_some_iff.1 gp).1
  have lj := (List.getElem?_eq_some_iff.1 gj).1
  simp -dsimp -implicitDefEqProofs [-getElem?_pos, go_sem, hP, t38, t39]
  refine condP (fun hq => ?_) (fun hq => ?_)
  · have hk0 : k = 0 := by
      have := of_decide_eq_true hq
      omega
    subst hk0
    have hG := hG0 rfl
    subst hG
    have w1 := wrap_in 1 (by omega)
    have ap : ∀ (z : Nat) (x : Heap) (o : Option AObj), z < s.H.length → s.H[z]? = some o → (s.H ++ x)[z]? = some o := fun z x o hz h => by rw [List.getElem?_append_left hz]; exact h
    have g0' := fun x => ap 0 x _ l0 g0
    have g1' := fun x => ap 1 x _ l1 g1
    have g2' := fun x => ap 2 x _ l2 g2
    have gp' := fun x => ap p x _ lp gp
    have gj' := fun x => ap j x _ lj gj
    have nl : decide (b.Maturity < b.Maturity) = false := decide_eq_false (by omega)
    simp -dsimp -implicitDefEqProofs [-getElem?_pos, go_sem, hP, t37, t39, encL, cSec]
    simp -dsimp -implicitDefEqProofs [-getElem?_pos, go_sem, hP, t2, g0']
    refine callB_is (hld.lift _ _) hP en_15 (by simpa [imm_sc] using ir) .sc ?_
    by_cases hS : S = 0
    · have hRv : R = v.Register := by rw [hR, if_pos hS]
      simp -dsimp -implicitDefEqProofs [-getElem?_pos, go_sem, hP, t3, g1', nl, hS, t39, w1]
      refine ⟨0, by omega, ?_⟩
      rw [hI]
      exact ⟨1, v.Register, by omega, rfl, fun e => absurd e (by decide), fun _ => hRv.symm, by simp -dsimp -implicitDefEqProofs [-getElem?_pos, go_sem, t2], by simp -dsimp -implicitDefEqProofs [-getElem?_pos, go_sem, t3], by simp -dsimp -implicitDefEqProofs [-getElem?_pos, go_sem, t4], by simp -dsimp -implicitDefEqProofs [-getElem?_pos, go_sem, t7], by simp -dsimp -implicitDefEqProofs [-getElem?_pos, go_sem, t37], by simp -dsimp -implicitDefEqProofs [-getElem?_pos, go_sem, t38], by simp -dsimp -implicitDefEqProofs [-getElem?_pos, go_sem], by simp -dsimp -implicitDefEqProofs [-getElem?_pos, go_sem, g0'], by simp -dsimp -implicitDefEqProofs [-getElem?_pos, go_sem, g1'], by simp -dsimp -implicitDefEqProofs [-getElem?_pos, go_sem, g2'], by simp -dsimp -implicitDefEqProofs [-getElem?_pos, go_sem, gp'], by simp -dsimp -implicitDefEqProofs [-getElem?_pos, go_sem, gj']⟩
    · have hRm : R = moved v.Register M := by rw [hR, if_neg hS]
      have e0 := hM hS
      simp -dsimp -implicitDefEqProofs [-getElem?_pos, go_sem, hP, t3, g1', nl, hS, t7, gp']
      refine callB_isQ (rd.lift _ _) hP en_42 (by simpa [imm_sc] using ir) rdx ?_
      rintro x ⟨r', rfl, hr'⟩ _
      have hr' := hr' e0
      rw [e0]
      simp -dsimp -implicitDefEqProofs [-getElem?_pos, go_sem, hP, cReg]
      obtain ⟨T, hT⟩ : ∃ T : Heap, T = s.H ++ [some ⟨28, 7, [[iv b.ID, iv b.Unit, iv b.Issued, iv b.Maturity, iv b.Rate, iv b.Every, bv b.Indexed]]⟩, some ⟨33, 3, [[secsL r'.Securities, holdsL r'.Holdings, movesL r'.Moves]]⟩] := ⟨_, rfl⟩
      have x0 := g0' [some ⟨28, 7, [[iv b.ID, iv b.Unit, iv b.Issued, iv b.Maturity, iv b.Rate, iv b.Every, bv b.Indexed]]⟩, some ⟨33, 3, [[secsL r'.Securities, holdsL r'.Holdings, movesL r'.Moves]]⟩]
      have x1 := g1' [some ⟨28, 7, [[iv b.ID, iv b.Unit, iv b.Issued, iv b.Maturity, iv b.Rate, iv b.Every, bv b.Indexed]]⟩, some ⟨33, 3, [[secsL r'.Securities, holdsL r'.Holdings, movesL r'.Moves]]⟩]
      have x2 := g2' [some ⟨28, 7, [[iv b.ID, iv b.Unit, iv b.Issued, iv b.Maturity, iv b.Rate, iv b.Every, bv b.Indexed]]⟩, some ⟨33, 3, [[secsL r'.Securities, holdsL r'.Holdings, movesL r'.Moves]]⟩]
      have xp := gp' [some ⟨28, 7, [[iv b.ID, iv b.Unit, iv b.Issued, iv b.Maturity, iv b.Rate, iv b.Every, bv b.Indexed]]⟩, some ⟨33, 3, [[secsL r'.Securities, holdsL r'.Holdings, movesL r'.Moves]]⟩]
      have xj := gj' [some ⟨28, 7, [[iv b.ID, iv b.Unit, iv b.Issued, iv b.Maturity, iv b.Rate, iv b.Every, bv b.Indexed]]⟩, some ⟨33, 3, [[secsL r'.Securities, holdsL r'.Holdings, movesL r'.Moves]]⟩]
      rw [← hT] at x0 x1 x2 xp xj
      rw [← hT]
      have yp := (List.getElem?_eq_some_iff.1 xp).1
      clear g0' g1' g2' gp' gj' ap hT
      simp -dsimp -implicitDefEqProofs [-getElem?_pos, go_sem, hP, t7, xp, yp, t39, w1]
      refine ⟨0, by omega, ?_⟩
      rw [hI]
      have ne : ∀ (z : Nat) (o : Option AObj), z ≠ p → (T.set p o)[z]? = T[z]? := fun z o hz => List.getElem?_set_ne (fun e => hz e.symm)
      refine ⟨1, r', by omega, rfl, fun e => absurd e (by decide), fun _ => by rw [hr', hRm], by simp -dsimp -implicitDefEqProofs [-getElem?_pos, go_sem, t2], by simp -dsimp -implicitDefEqProofs [-getElem?_pos, go_sem, t3], by simp -dsimp -implicitDefEqProofs [-getElem?_pos, go_sem, t4], by simp -dsimp -implicitDefEqProofs [-getElem?_pos, go_sem, t7], by simp -dsimp -implicitDefEqProofs [-getElem?_pos, go_sem, t37], by simp -dsimp -implicitDefEqProofs [-getElem?_pos, go_sem, t38], by simp -dsimp -implicitDefEqProofs [-getElem?_pos, go_sem], ?_, ?_, ?_, ?_, ?_⟩
      · dsimp only
        rw [ne 0 _ (by omega)]; exact x0
      · dsimp only
        rw [ne 1 _ (by omega)]; exact x1
      · dsimp only
        rw [ne 2 _ (by omega)]; exact x2
      · dsimp only
        simp [yp]
      · dsimp only
        rw [ne j _ (fun e => npj e.symm)]; exact xj
  · have hk1 : k = 1 := by
      have := of_decide_eq_false hq
      omega
    subst hk1
    have hG := hG1 rfl
    subst hG
    have n2 : ¬ p = 2 := by omega
    simp -dsimp -implicitDefEqProofs [-getElem?_pos, go_sem, hP, t7, gp, lp, t4, g2, l2]
    rw [hQQ]
    refine done_agg2 (cs' := (⟨G, []⟩ : TVault).cells) ?_ rfl
    exact cw_imm (imm_secs _) (cw_imm (imm_holds _) (cw_imm (imm_moves _) (cw_sref (es := []) (by rw [List.getElem?_set_ne (by omega)]; exact gj) rfl (imm_strips []) .nil)))
end Go.Proofs.YtkcfmmpcpdlfeaaGreatDoor
