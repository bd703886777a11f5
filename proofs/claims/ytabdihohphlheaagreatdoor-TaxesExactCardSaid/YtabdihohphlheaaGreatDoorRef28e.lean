/- The reference of taxes: claims. -/
import Derived.Test.YtabdihohphlheaaGreatDoorRef28d
set_option linter.unusedSimpArgs false
set_option linter.unusedVariables false
namespace Go.Proofs.YtabdihohphlheaaGreatDoor
open Go.PA
open Go.RowKit

set_option maxHeartbeats 1000000 in
set_option maxRecDepth 8000 in
theorem rclaims_pf (l : List TTax) (hl : l.length ≤ 1000000) (a b first : Int) : PFun Tryz.prog none none 25 [taxesL l, iv a, iv b, iv first] (· = .tup [claimsL (claimsD l a b first).1, iv (claimsD l a b first).2]) := by
  refine pfun_intro Tryz.func25 rfl (by simp [Tryz.f25]) (by kernel_rfl) ?_
  intro E hP hr hs hW hN
  have it := imm_taxes l
  have ex := rexpected_pf l hl a b
  have mem : ∀ x, x ∈ (expectedD l a b).1 → _ := fun x hx => expected_mem hx
  obtain ⟨R, hR⟩ : ∃ R, R = claimsD l a b first := ⟨_, rfl⟩
  rw [← hR]
  rw [claimsD] at hR
  obtain ⟨fs, hfs⟩ : ∃ fs, fs = (expectedD l a b).1 := ⟨_, rfl⟩
  obtain ⟨e, he⟩ : ∃ e, e = (expectedD l a b).2 := ⟨_, rfl⟩
  rw [← hfs, ← he] at hR ex
  rw [← hfs] at mem
  simp -dsimp -implicitDefEqProofs [-getElem?_pos, go_sem, hP]
  refine callB_is (ex.lift _ _) hP en_23 (by simpa [imm_sc] using it) (imm_pair (imm_flows _) .sc) ?_
  by_cases c : e = 0
  rotate_left
  · rw [if_neg c] at hR
    have d := decide_eq_false c
    simp -dsimp -implicitDefEqProofs [-getElem?_pos, go_sem, hP, d]
    exact done_nil2 6 (by rw [hR]; rfl)
  rw [if_pos c] at hR
  by_cases h4 : fs.length ≤ 60
  rotate_left
  · have d : decide ((60 : Int) < (fs.length : Int)) = true := decide_eq_true (by omega)
    rw [if_neg h4] at hR
    simp -dsimp -implicitDefEqProofs [-getElem?_pos, go_sem, hP, c, d]
    exact done_nil2 6 (by rw [hR]; rfl)
  have d : decide ((60 : Int) < (fs.length : Int)) = false := decide_eq_false (by omega)
  rw [if_pos h4] at hR
  simp -dsimp -implicitDefEqProofs [-getElem?_pos, go_sem, hP, c, d]
  cases hb : btw first 1 999940
  · rw [hb, if_neg (by simp)] at hR
    have nb : ¬ (1 ≤ first ∧ first ≤ 999940) := fun h => by rw [btw_iff.2 h] at hb; cases hb
    by_cases c1 : first < 1
    · simp -dsimp -implicitDefEqProofs [-getElem?_pos, go_sem, hP, c1]
      exact done_nil2 6 (by rw [hR]; rfl)
    have d1 := decide_eq_false c1
    have c2 : 999940 < first := by omega
    simp -dsimp -implicitDefEqProofs [-getElem?_pos, go_sem, hP, d1, c2]
    exact done_nil2 6 (by rw [hR]; rfl)
  rw [hb, if_pos rfl] at hR
  have bf := btw_iff.1 hb
  have d1 : decide (first < 1) = false := decide_eq_false (by omega)
  have d2 : decide (999940 < first) = false := decide_eq_false (by omega)
  simp -dsimp -implicitDefEqProofs [-getElem?_pos, go_sem, hP, d1, d2]
  refine aloop_own 12 73 6 (by simp -dsimp -implicitDefEqProofs [-getElem?_pos, go_sem]) ?_
  obtain ⟨I, hI⟩ : ∃ I : Nat → St → Prop, I = fun m s => ∃ k id : Nat, k ≤ fs.length ∧ m = fs.length - k ∧ s.t 0 = taxesL l ∧ s.t 3 = iv first ∧ s.t 12 = .sref id 0 ((fs.take k).mapIdx (clm l first)).length ∧ s.t 35 = flowsL fs ∧ s.t 36 = iv fs.length ∧ s.t 37 = iv k ∧ s.H[id]? = some (some ⟨73, 6, encL TClaim.cells ((fs.take k).mapIdx (clm l first))⟩) := ⟨_, rfl⟩
  refine aloop0 I (fs.length) (by rw [hN]; rfl) ?_ ?_
  · rw [hI]
    exact ⟨0, 0, by omega, by omega, by simp -dsimp -implicitDefEqProofs [-getElem?_pos, go_sem], by simp -dsimp -implicitDefEqProofs [-getElem?_pos, go_sem], by simp -dsimp -implicitDefEqProofs [-getElem?_pos, go_sem], by simp -dsimp -implicitDefEqProofs [-getElem?_pos, go_sem], by simp -dsimp -implicitDefEqProofs [-getElem?_pos, go_sem], by simp -dsimp -implicitDefEqProofs [-getElem?_pos, go_sem], by simp -dsimp -implicitDefEqProofs [-getElem?_pos, go_sem, encL]⟩
  intro m s hs'
  rw [hI] at hs'
  obtain ⟨k, id, hk, hm, t0, t3, t12, t35, t36, t37, hH⟩ := hs'
  have ltH := (List.getElem?_eq_some_iff.1 hH).1
  subst hm
  simp -dsimp -implicitDefEqProofs [-getElem?_pos, go_sem, hP, t36, t37]
  refine condP (fun h => ?_) (fun h => ?_)
  · have hk : k < fs.length := by simpa using h
    obtain ⟨x, hx⟩ : ∃ x, fs[k]? = some x := ⟨_, List.getElem?_eq_getElem hk⟩
    have wk := wrap_in ((k : Int) + 1) (by omega)
    have wf := wrap_in (first + k) (by omega)
    have tk : (fs.take (k + 1)).mapIdx (clm l first) = (fs.take k).mapIdx (clm l first) ++ [clm l first k x] := by
      rw [takeAt hx, List.mapIdx_concat, List.length_take, Nat.min_eq_left (by omega)]
    obtain ⟨j, t, ht, d, _, _, _, ex⟩ := mem x (List.mem_of_getElem? hx)
    have r1 : x.Ref = (j : Int) := by rw [ex]
    have ec : clm l first k x = ⟨first + k, t.Payer, x.Amount, x.Amount, x.Day, t.Code⟩ := by
      rw [clm, r1, Int.toNat_natCast, ht]
      rfl
    rw [ec] at tk
    obtain ⟨cur, hcur⟩ : ∃ cur, cur = (fs.take k).mapIdx (clm l first) := ⟨_, rfl⟩
    have lcur : cur.length = k := by rw [hcur, List.length_mapIdx, List.length_take, Nat.min_eq_left (by omega)]
    rw [← hcur] at t12 hH tk
    simp -dsimp -implicitDefEqProofs [-getElem?_pos, go_sem, hP, t35, t37, hx, cFl, t0, r1, ht, cTx, t12, t3, wf, hH, ltH, wk, cCl]
    refine ⟨by omega, by omega, fs.length - (k + 1), by omega, ?_⟩
    rw [hI]
    exact ⟨k + 1, s.H.length + 2, by omega, rfl, by simp -dsimp -implicitDefEqProofs [-getElem?_pos, go_sem, t0], by simp -dsimp -implicitDefEqProofs [-getElem?_pos, go_sem, t3], by rw [tk]; simp -dsimp -implicitDefEqProofs [-getElem?_pos, go_sem], by simp -dsimp -implicitDefEqProofs [-getElem?_pos, go_sem, t35], by simp -dsimp -implicitDefEqProofs [-getElem?_pos, go_sem, t36], by simp -dsimp -implicitDefEqProofs [-getElem?_pos, go_sem], by rw [tk]; simp -dsimp -implicitDefEqProofs [-getElem?_pos, go_sem, encL, cCl]⟩
  · have hk : k = fs.length := by
      have : ¬ k < fs.length := by simpa using h
      omega
    subst hk
    rw [List.take_length] at t12 hH
    obtain ⟨cs, hcs⟩ : ∃ cs, cs = fs.mapIdx (clm l first) := ⟨_, rfl⟩
    rw [← hcs] at t12 hH hR
    simp -dsimp -implicitDefEqProofs [-getElem?_pos, go_sem, hP, t12]
    have ic := imm_claims cs
    refine done (x := .tup [claimsL cs, iv 0]) ?_ (by rw [hR]) ?_
    · simp [go_sem, hH, encL]
      exact fun x _ c hc => x.imm c hc
    · simp [go_sem, hH, encL]


theorem listEq_pf_claims27 (a b : List TClaim) (ha : a.length ≤ 100000) (hb : b.length ≤ 100000) :
    PFun Tryz.prog none none 27 [.list 6 (encL TClaim.cells a), .list 6 (encL TClaim.cells b)] (· = bv (decide (a = b))) := by
  refine pfun_intro Tryz.func27 rfl (by simp [Tryz.f27]) (by kernel_rfl) ?_
  intro E hP hr hs hW hN
  by_cases hlen : a.length = b.length
  rotate_left
  · have hne : ¬ a = b := fun h => hlen (by rw [h])
    have hl : decide ((a.length : Int) = (b.length : Int)) = false := by simp; omega
    simp -dsimp -implicitDefEqProofs [-getElem?_pos, go_sem, hP, hl, hne]
  have hl : decide ((a.length : Int) = (b.length : Int)) = true := by simp; omega
  simp -dsimp -implicitDefEqProofs [-getElem?_pos, go_sem, hP, hl]
  obtain ⟨I, hI⟩ : ∃ I : Nat → St → Prop, I = fun m s => ∃ k : Nat, k ≤ a.length ∧ m = a.length - k ∧ s.t 0 = .list 6 (encL TClaim.cells a) ∧ s.t 1 = .list 6 (encL TClaim.cells b) ∧ s.t 12 = iv a.length ∧ s.t 13 = iv k ∧ a.take k = b.take k := ⟨_, rfl⟩
  refine aloop0 I (a.length) (by rw [hN]; rfl) ?_ ?_
  · rw [hI]
    exact ⟨0, by omega, by omega, by simp -dsimp -implicitDefEqProofs [-getElem?_pos, go_sem], by simp -dsimp -implicitDefEqProofs [-getElem?_pos, go_sem], by simp -dsimp -implicitDefEqProofs [-getElem?_pos, go_sem], by simp -dsimp -implicitDefEqProofs [-getElem?_pos, go_sem], by simp⟩
  intro m s hs'
  rw [hI] at hs'
  obtain ⟨k, hk, hm, t0, t1, t12, t13, heq⟩ := hs'
  simp -dsimp -implicitDefEqProofs [-getElem?_pos, go_sem, hP, t12, t13]
  refine condP (fun h => ?_) (fun h => ?_)
  · have hk : k < a.length := by simpa using h
    obtain ⟨x, hx⟩ : ∃ x, a[k]? = some x := ⟨_, List.getElem?_eq_getElem hk⟩
    obtain ⟨y, hy⟩ : ∃ y, b[k]? = some y := ⟨_, List.getElem?_eq_getElem (by omega)⟩
    have wk := wrap_in ((k : Int) + 1) (by omega)
    have tx : a.take (k + 1) = a.take k ++ [x] := by rw [List.take_add_one, hx]; rfl
    have ty : b.take (k + 1) = b.take k ++ [y] := by rw [List.take_add_one, hy]; rfl
    simp -dsimp -implicitDefEqProofs [-getElem?_pos, go_sem, hP, t13]
    refine adrawB (fun _ => true) [] hP (by kernel_rfl) (by kernel_rfl) ?_
    by_cases hxy : x = y
    · subst hxy
      simp -dsimp -implicitDefEqProofs [-getElem?_pos, go_sem, hP, t0, t1, hx, hy, TClaim.cells, t13, wk]
      refine ⟨a.length - (k + 1), by omega, ?_⟩
      rw [hI]
      exact ⟨k + 1, by omega, rfl, by simp -dsimp -implicitDefEqProofs [-getElem?_pos, go_sem, t0], by simp -dsimp -implicitDefEqProofs [-getElem?_pos, go_sem, t1], by simp -dsimp -implicitDefEqProofs [-getElem?_pos, go_sem, t12], by simp -dsimp -implicitDefEqProofs [-getElem?_pos, go_sem], by rw [tx, ty, heq]⟩
    · have hne : ¬ a = b := fun h => by
        subst h
        rw [hx] at hy
        exact hxy (Option.some.inj hy)
      simp -dsimp -implicitDefEqProofs [-getElem?_pos, go_sem, hP, t0, t1, hx, hy, TClaim.cells, t13, wk]
      refine condP (fun h => ?_) (fun h => ?_)
      · simp -dsimp -implicitDefEqProofs [-getElem?_pos, go_sem, hP, hne]
      · exact absurd (by cases x; cases y; simp at h; simp [h]) hxy
  · have hk : k = a.length := by simp at h; omega
    subst hk
    rw [List.take_length] at heq
    rw [hlen, List.take_length] at heq
    simp -dsimp -implicitDefEqProofs [-getElem?_pos, go_sem, hP, heq]

end Go.Proofs.YtabdihohphlheaaGreatDoor
