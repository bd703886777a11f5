/- slices.DeleteFunc of numbers, by a function that looks at the walk's own objects. -/
import Derived.Test.YtkcfmmpcpdlfeaaGreatDoorInts
set_option linter.unusedSimpArgs false
set_option linter.unusedVariables false
namespace Go.Proofs.YtkcfmmpcpdlfeaaGreatDoor
open Go.PA
open Go.RowKit

theorem drop_atZ {α : Type} {l : List α} {k : Nat} {x : α} (h : l[k]? = some x) : l.drop k = x :: l.drop (k + 1) := by
  obtain ⟨hk, rfl⟩ := List.getElem?_eq_some_iff.1 h
  exact List.drop_eq_getElem_cons hk
theorem set_sameZ {H : Heap} {id : Nat} {o : Option AObj} (h : H[id]? = some o) : H.set id o = H := by
  apply List.ext_getElem?
  intro j
  rw [List.getElem?_set]
  split
  · rename_i e
    subst e
    rw [h, if_pos (List.getElem?_eq_some_iff.1 h).1]
  · rfl
theorem index_z {row src : Option Nat} (l : List Int) (id : Nat) (H : Heap) (g : FuncId) (caps : List AV) (p : Int → Bool) (hl : l.length ≤ 100000) (ho : H[id]? = some (some ⟨3, 1, encL encI l⟩)) (hen : enterable Tryz.prog g = true)
    (hg : ∀ a, a ∈ l → MFun Tryz.prog row src g (iv a :: caps) H (fun r H'' => r = bv (p a) ∧ H'' = H)) :
    MFun Tryz.prog row src 120 [.sref id 0 l.length, .fn g caps] H (fun r H' => r = iv (idxI p l) ∧ H' = H) := by
  refine mfun_intro Tryz.func120 rfl (by simp [Tryz.f120]) (by kernel_rfl) ⟨_, H, rfl, rfl⟩ ?_
  intro E hP hr hs hN
  have lt0 := (List.getElem?_eq_some_iff.1 ho).1
  simp -dsimp -implicitDefEqProofs [-getElem?_pos, go_sem, hP, ho]
  obtain ⟨I, hI⟩ : ∃ I : Nat → St → Prop, I = fun m s => ∃ k : Nat, k ≤ l.length ∧ m = l.length - k ∧ idxI p l = idxFrom p k (l.drop k) ∧ s.t 0 = .sref id 0 l.length ∧ s.t 1 = .fn g caps ∧ s.t 7 = iv l.length ∧ s.t 8 = iv k ∧ s.H = H := ⟨_, rfl⟩
  refine aloop0 I l.length (by rw [hN]; rfl) ?_ ?_
  · rw [hI]
    exact ⟨0, by omega, by omega, by simp [idxI], by simp -dsimp -implicitDefEqProofs [-getElem?_pos, go_sem], by simp -dsimp -implicitDefEqProofs [-getElem?_pos, go_sem], by simp -dsimp -implicitDefEqProofs [-getElem?_pos, go_sem], by simp -dsimp -implicitDefEqProofs [-getElem?_pos, go_sem], by simp -dsimp -implicitDefEqProofs [-getElem?_pos, go_sem]⟩
  intro m s hs'
  rw [hI] at hs'
  obtain ⟨k, hk, hm, hi, t0, t1, t7, t8, sH⟩ := hs'
  obtain ⟨t, HH⟩ := s
  simp only at t0 t1 t7 t8 sH
  subst sH
  simp -dsimp -implicitDefEqProofs [-getElem?_pos, go_sem, hP, t7, t8]
  refine condP (fun h => ?_) (fun h => ?_)
  · have hk : k < l.length := by simpa using h
    obtain ⟨a, ha⟩ : ∃ a, l[k]? = some a := ⟨_, List.getElem?_eq_getElem hk⟩
    have wk := wrap_in ((k : Int) + 1) (by omega)
    rw [drop_atZ ha] at hi
    simp only [idxFrom] at hi
    simp -dsimp -implicitDefEqProofs [-getElem?_pos, go_sem, hP, t8, t1, t0, ho, ha, encI, hk]
    refine callB_m (by rw [hr, hs]; exact hg a (List.mem_of_getElem? ha)) hP hen ?_
    rintro r H' ⟨rfl, rfl⟩
    simp -dsimp -implicitDefEqProofs [-getElem?_pos, go_sem, hP]
    refine condP (fun hp => ?_) (fun hp => ?_)
    · rw [if_pos hp] at hi
      simp -dsimp -implicitDefEqProofs [-getElem?_pos, go_sem, hP]
      exact hi.symm
    · rw [hp, if_neg (by simp)] at hi
      simp -dsimp -implicitDefEqProofs [-getElem?_pos, go_sem, hP, t8, wk]
      refine ⟨l.length - (k + 1), by omega, ?_⟩
      rw [hI]
      exact ⟨k + 1, by omega, rfl, hi, by simp -dsimp -implicitDefEqProofs [-getElem?_pos, go_sem, t0], by simp -dsimp -implicitDefEqProofs [-getElem?_pos, go_sem, t1], by simp -dsimp -implicitDefEqProofs [-getElem?_pos, go_sem, t7], by simp -dsimp -implicitDefEqProofs [-getElem?_pos, go_sem], by simp -dsimp -implicitDefEqProofs [-getElem?_pos, go_sem]⟩
  · have hk : k = l.length := by simp at h; omega
    subst hk
    rw [List.drop_length] at hi
    simp -dsimp -implicitDefEqProofs [-getElem?_pos, go_sem, hP]
    exact hi.symm
set_option maxHeartbeats 4000000 in
theorem deleteFunc_z {row src : Option Nat} (l : List Int) (id : Nat) (H : Heap) (g : FuncId) (caps : List AV) (p : Int → Bool) (hl : l.length ≤ 100000) (ho : H[id]? = some (some ⟨3, 1, encL encI l⟩)) (hen : enterable Tryz.prog g = true)
    (hg : ∀ a, a ∈ l → ∀ o, MFun Tryz.prog row src g (iv a :: caps) (H.set id o) (fun r H'' => r = bv (p a) ∧ H'' = H.set id o)) :
    MFun Tryz.prog row src 104 [.sref id 0 l.length, .fn g caps] H (fun r H' => ∃ tl, r = .sref id 0 (l.filter fun a => !p a).length ∧ H' = H.set id (some ⟨3, 1, encL encI (l.filter fun a => !p a) ++ tl⟩)) := by
  obtain ⟨C, hC⟩ : ∃ C : AV → Heap → Prop, C = fun r H' => ∃ tl, r = .sref id 0 (l.filter fun a => !p a).length ∧ H' = H.set id (some ⟨3, 1, encL encI (l.filter fun a => !p a) ++ tl⟩) := ⟨_, rfl⟩
  rw [← hC]
  have lid := (List.getElem?_eq_some_iff.1 ho).1
  have ex : ∃ r H', C r H' := by
    rw [hC]
    exact ⟨_, _, [], rfl, rfl⟩
  obtain ⟨zs, hz⟩ := Option.isSome_iff_exists.1 (show (zeros Tryz.prog 3).isSome = true by kernel_rfl)
  obtain ⟨n, hn⟩ : ∃ n, n = l.length := ⟨_, rfl⟩
  have hg0 : ∀ a, a ∈ l → MFun Tryz.prog row src g (iv a :: caps) H (fun r H'' => r = bv (p a) ∧ H'' = H) := fun a ha => by
    have := hg a ha (some ⟨3, 1, encL encI l⟩)
    rwa [set_sameZ ho] at this
  refine mfun_intro Tryz.func104 rfl (by simp [Tryz.f104]) (by kernel_rfl) (ex) ?_
  intro E hP hr hs hN
  simp -dsimp -implicitDefEqProofs [-getElem?_pos, go_sem, hP]
  refine callB_m (by rw [hr, hs]; exact index_z l id H g caps p (by omega) ho hen hg0) hP en_120 ?_
  rintro r H1 ⟨rfl, rfl⟩
  rcases idxI_spec p l with ⟨h1, h2⟩ | ⟨i, a, ha, hpa, h3, h4⟩
  · have hf : (l.filter fun a => !p a) = l := List.filter_eq_self.2 fun a ha => by simp [h2 a ha]
    simp -dsimp -implicitDefEqProofs [-getElem?_pos, go_sem, hP, h1]
    rw [hC, hf]
    refine ⟨[], rfl, ?_⟩
    rw [List.append_nil, set_sameZ ho]
  have hi1 : ¬ ((i : Int) = -1) := by omega
  have hil := (List.getElem?_eq_some_iff.1 ha).1
  have w1 := wrap_in ((i : Int) + 1) (by omega)
  have kept0 : (l.take (i + 1)).filter (fun a => !p a) = l.take i := by
    rw [List.take_add_one, ha, List.filter_append, Option.toList_some, List.filter_cons_of_neg (by simp [hpa]), List.filter_nil, List.append_nil]
    refine List.filter_eq_self.2 fun x hx => ?_
    obtain ⟨j, hj⟩ := List.getElem?_of_mem hx
    rw [List.getElem?_take] at hj
    split at hj
    · simp [h4 j x (by assumption) hj]
    · cases hj
  simp -dsimp -implicitDefEqProofs [-getElem?_pos, go_sem, hP, h3, hi1, w1]
  obtain ⟨I, hI⟩ : ∃ I : Nat → St → Prop, I = fun m s => ∃ (j q : Nat) (ks : List Int) (rows : List (List AV)), ks = ((l.take j).filter fun a => !p a) ∧ q = ks.length ∧ j ≤ n ∧ m = n - j ∧ q < j ∧ n = rows.length ∧ (∀ i e, i < n → rows[i]? = some e → e.length = 1) ∧ rows.take q = encL encI ks ∧ rows.drop j = encL encI (l.drop j) ∧ s.t 0 = .sref id 0 n ∧ s.t 1 = .fn g caps ∧ s.t 5 = iv q ∧ s.t 6 = iv j ∧ s.H = H1.set id (some ⟨3, 1, rows⟩) := ⟨_, rfl⟩
  refine aloop0 I (n - (i + 1)) (by rw [hN]; rfl) ?_ ?_
  · rw [hI]
    refine ⟨i + 1, i, l.take i, encL encI l, kept0.symm, by simp; omega, by omega, by omega, by omega, by rw [encL_len]; omega, fun i' e hi' he => ?_, ?_, ?_, by simp -dsimp -implicitDefEqProofs [-getElem?_pos, go_sem, hn], by simp -dsimp -implicitDefEqProofs [-getElem?_pos, go_sem], by simp -dsimp -implicitDefEqProofs [-getElem?_pos, go_sem], by simp -dsimp -implicitDefEqProofs [-getElem?_pos, go_sem], by simp -dsimp -implicitDefEqProofs [-getElem?_pos, go_sem, set_sameZ ho]⟩
    · obtain ⟨x, _, rfl⟩ := List.mem_map.1 (List.mem_of_getElem? he)
      rfl
    · rw [encL_takeE]
    · rw [encL_dropE]
  intro m s hs'
  rw [hI] at hs'
  obtain ⟨j, q, ks, rows, hks, hq, hjn, hm, hqj, hrl, hre, hrt, hrd, t0, t1, t5, t6, sH⟩ := hs'
  obtain ⟨t, HH⟩ := s
  simp only at t0 t1 t5 t6 sH
  have h0 : HH[id]? = some (some ⟨3, 1, rows⟩) := by rw [sH]; simp [lid]
  have lt0 := (List.getElem?_eq_some_iff.1 h0).1
  simp -dsimp -implicitDefEqProofs [-getElem?_pos, go_sem, hP, t0, t6, h0]
  refine condP (fun hh => ?_) (fun hh => ?_)
  · have hj : j < n := by simpa using hh
    obtain ⟨x, hx⟩ : ∃ x, l[j]? = some x := ⟨_, List.getElem?_eq_getElem (by omega)⟩
    have wj := wrap_in ((j : Int) + 1) (by omega)
    have wq := wrap_in ((q : Int) + 1) (by omega)
    have hjr : j < rows.length := by omega
    have hrow : rows[j]? = some [iv x] := by
      have := congrArg (·[0]?) hrd
      simp only [List.getElem?_drop, Nat.add_zero] at this
      rw [encL_getE, List.getElem?_drop, Nat.add_zero, hx] at this
      simpa [encI] using this
    have htk : (l.take (j + 1)).filter (fun a => !p a) = if p x = true then ks else ks ++ [x] := by
      rw [List.take_add_one, hx, List.filter_append, Option.toList_some, ← hks]
      by_cases hpx : p x = true <;> simp [hpx, List.filter_cons]
    have hgx : MFun Tryz.prog E.row E.src g (iv x :: caps) HH (fun r H'' => r = bv (p x) ∧ H'' = HH) := by
      rw [hr, hs, sH]
      exact hg x (List.mem_of_getElem? hx) _
    have hd1 : rows.drop (j + 1) = encL encI (l.drop (j + 1)) := by
      have := congrArg (List.drop 1) hrd
      rw [List.drop_drop, encL_dropE, List.drop_drop] at this
      exact this
    simp -dsimp -implicitDefEqProofs [-getElem?_pos, go_sem, hP, t0, t6, h0, hrow, hj, hjr, t1]
    refine callB_m hgx hP hen ?_
    rintro r H2 ⟨rfl, rfl⟩
    simp -dsimp -implicitDefEqProofs [-getElem?_pos, go_sem, hP]
    refine condP (fun hp => ?_) (fun hp => ?_)
    · rw [if_pos hp] at htk
      simp -dsimp -implicitDefEqProofs [-getElem?_pos, go_sem, hP, t6, wj]
      refine ⟨n - (j + 1), by omega, ?_⟩
      rw [hI]
      exact ⟨j + 1, q, ks, rows, htk.symm, hq, by omega, rfl, by omega, hrl, hre, hrt, hd1, by simp -dsimp -implicitDefEqProofs [-getElem?_pos, go_sem, t0], by simp -dsimp -implicitDefEqProofs [-getElem?_pos, go_sem, t1], by simp -dsimp -implicitDefEqProofs [-getElem?_pos, go_sem, t5], by simp -dsimp -implicitDefEqProofs [-getElem?_pos, go_sem], by simp -dsimp -implicitDefEqProofs [-getElem?_pos, go_sem, sH]⟩
    · rw [if_neg (by simp [hp])] at htk
      obtain ⟨r0, hr0⟩ : ∃ r0, rows[q]? = some r0 := ⟨_, List.getElem?_eq_getElem (by omega)⟩
      have hr0l := hre q r0 (by omega) hr0
      have hr0d : r0.drop 1 = [] := List.drop_of_length_le (by omega)
      have hqn : q < n := by omega
      have hqr : q < rows.length := by omega
      simp -dsimp -implicitDefEqProofs [-getElem?_pos, go_sem, hP, t0, t5, t6, h0, lt0, hr0, hr0l, hr0d, hqn, hqr, wj, wq]
      refine ⟨n - (j + 1), by omega, ?_⟩
      rw [hI]
      refine ⟨j + 1, q + 1, ks ++ [x], rows.set q [iv x], htk.symm, by simp; omega, by omega, rfl, by omega, by simp; omega, fun i' e hi' he => ?_, ?_, ?_, by simp -dsimp -implicitDefEqProofs [-getElem?_pos, go_sem, t0], by simp -dsimp -implicitDefEqProofs [-getElem?_pos, go_sem, t1], by simp -dsimp -implicitDefEqProofs [-getElem?_pos, go_sem], by simp -dsimp -implicitDefEqProofs [-getElem?_pos, go_sem], by simp -dsimp -implicitDefEqProofs [-getElem?_pos, go_sem, sH]⟩
      · rw [List.getElem?_set] at he
        simp only [hqr, if_true] at he
        split at he
        · cases he
          rfl
        · exact hre i' e hi' he
      · rw [List.take_add_one, List.take_set_of_le (by omega), hrt, List.getElem?_set_self (by omega), ← encL_appE]
        rfl
      · rw [List.drop_set_of_lt (by omega)]
        exact hd1
  · have hj : j = n := by simp at hh; omega
    subst hj
    have hkl : ks = l.filter fun a => !p a := by rw [hks, hn, List.take_length]
    have hqn : q ≤ j := by omega
    have hqn1 : ¬ q = j := by omega
    have hqn2 : ¬ (q : Int) = j := by omega
    have sx : ∀ (id n : Nat), (if q = 0 then some (AV.sref id 0 n) else some (AV.sref id q (n - q))) = some (.sref id q (n - q)) := fun id n => by
      split
      · rename_i h0; rw [h0, Nat.sub_zero]
      · rfl
    simp -dsimp -implicitDefEqProofs [-getElem?_pos, go_sem, hP, t0, t5, h0, asliceOp, bound, aslice, hqn, hqn1, hqn2, sx]
    refine buiB_clearE (e := 3) (es' := encL encI ks ++ List.replicate (j - q) zs) h0 (.inl rfl) (by rw [hP]; kernel_rfl) (by rw [hP]; kernel_rfl) (by omega) (by rw [hP]; exact hz) (by omega) (by omega) ?_ ?_
    · rw [hrt, List.drop_of_length_le (by omega), List.append_nil]
    simp -dsimp -implicitDefEqProofs [-getElem?_pos, go_sem, hP, t0, t5, lt0, asliceOp, bound, aslice, hqn, hqn1, hqn2, sx]
    rw [hC, ← hkl]
    exact ⟨List.replicate (j - q) zs, by rw [hq], by rw [sH, List.set_set]⟩
end Go.Proofs.YtkcfmmpcpdlfeaaGreatDoor
