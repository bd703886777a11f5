/- The reference of taxes: what is expected, claims. -/
import Derived.Test.YtabdihohphlheaaGreatDoorRef28c
set_option linter.unusedSimpArgs false
set_option linter.unusedVariables false
namespace Go.Proofs.YtabdihohphlheaaGreatDoor
open Go.PA
open Go.RowKit

theorem insR_split {α : Type} {lt : α → α → Bool} {x : α} {B : List α} : ∀ {A : List α}, (∀ z, z ∈ A → lt x z = false) → (∀ z, z ∈ B → lt x z = true) → insR lt x (A ++ B) = A ++ x :: B
  | [], _, hB => insR_first hB
  | a :: A, hA, hB => by
    rw [List.cons_append, insR, if_neg (by rw [hA a (List.mem_cons_self ..)]; simp), insR_split (fun z hz => hA z (List.mem_cons_of_mem _ hz)) hB]
    rfl
theorem insR_at {out : List TFlow} {x : TFlow} {q : Nat} (hs : Srt dayLt out) (hd : ∀ z, z ∈ out.drop q → x.Day < z.Day) (hq : q = 0 ∨ ∃ z, out[q - 1]? = some z ∧ ¬ x.Day < z.Day) : insR dayLt x out = out.take q ++ x :: out.drop q := by
  have e := insR_split (lt := dayLt) (x := x) (A := out.take q) (B := out.drop q) (fun z hz => ?_) fun z hz => decide_eq_true (hd z hz)
  · rwa [List.take_append_drop] at e
  · rcases hq with rfl | ⟨y, hy, hn⟩
    · simp at hz
    · obtain ⟨j, hj⟩ := List.getElem?_of_mem hz
      rw [List.getElem?_take] at hj
      split at hj
      · rename_i hjq
        by_cases e : j = q - 1
        · rw [e, hy] at hj
          cases hj
          exact decide_eq_false hn
        · obtain ⟨h1, h2⟩ := List.getElem?_eq_some_iff.1 hj
          obtain ⟨h3, h4⟩ := List.getElem?_eq_some_iff.1 hy
          have := List.pairwise_iff_getElem.1 hs j (q - 1) h1 h3 (by omega)
          rw [h2, h4] at this
          simp only [dayLt, decide_eq_false_iff_not] at this ⊢
          omega
      · cases hj

theorem drop_at' {α : Type} {L : List α} {i : Nat} {c : α} (h : L[i]? = some c) : L.drop i = c :: L.drop (i + 1) := by
  obtain ⟨h1, h2⟩ := List.getElem?_eq_some_iff.1 h
  rw [List.drop_eq_getElem_cons h1, h2]
set_option maxHeartbeats 8000000 in
set_option maxRecDepth 8000 in
theorem rexpected_pf (l : List TTax) (hl : l.length ≤ 1000000) (a b : Int) : PFun Tryz.prog none none 23 [taxesL l, iv a, iv b] (· = .tup [flowsL (expectedD l a b).1, iv (expectedD l a b).2]) := by
  refine pfun_intro Tryz.func23 rfl (by simp [Tryz.f23]) (by kernel_rfl) ?_
  intro E hP hr hs hW hN
  have it := imm_taxes l
  obtain ⟨R, hR⟩ : ∃ R, R = expectedD l a b := ⟨_, rfl⟩
  rw [← hR]
  simp -dsimp -implicitDefEqProofs [-getElem?_pos, go_sem, hP]
  refine callB_is ((rcheck_pf l hl).lift _ _) hP en_14 (by simpa using it) .sc ?_
  by_cases c : checkT l = 0
  rotate_left
  · have e : R = ([], checkT l) := by rw [hR, expectedD, if_neg c]
    have d := decide_eq_false c
    simp -dsimp -implicitDefEqProofs [-getElem?_pos, go_sem, hP, d]
    exact done_nil2 4 (by rw [e]; rfl)
  obtain ⟨l20, _⟩ := checkT_len c
  rw [expectedD, if_pos c] at hR
  obtain ⟨w, hw⟩ : ∃ w : TTax → Int → Bool, w = fun _ d => btw d a b := ⟨_, rfl⟩
  rw [← hw] at hR
  simp -dsimp -implicitDefEqProofs [-getElem?_pos, go_sem, hP, c]
  refine aloop_own 9 59 4 (by simp -dsimp -implicitDefEqProofs [-getElem?_pos, go_sem]) ?_
  obtain ⟨I, hI⟩ : ∃ I : Nat → St → Prop, I = fun m s => ∃ k id : Nat, k ≤ l.length ∧ m = l.length - k ∧ s.t 1 = iv a ∧ s.t 2 = iv b ∧ s.t 9 = .sref id 0 (ssort dayLt (rawF w 0 (l.take k))).length ∧ s.t 20 = taxesL l ∧ s.t 21 = iv l.length ∧ s.t 22 = iv k ∧ s.H[id]? = some (flO TFlow.cells (ssort dayLt (rawF w 0 (l.take k)))) := ⟨_, rfl⟩
  refine aloop0 I (l.length) (by rw [hN]; rfl) ?_ ?_
  · rw [hI]
    exact ⟨0, 0, by omega, by omega, by simp -dsimp -implicitDefEqProofs [-getElem?_pos, go_sem], by simp -dsimp -implicitDefEqProofs [-getElem?_pos, go_sem], by simp -dsimp -implicitDefEqProofs [-getElem?_pos, go_sem, rawF, ssort], by simp -dsimp -implicitDefEqProofs [-getElem?_pos, go_sem], by simp -dsimp -implicitDefEqProofs [-getElem?_pos, go_sem], by simp -dsimp -implicitDefEqProofs [-getElem?_pos, go_sem], by simp -dsimp -implicitDefEqProofs [-getElem?_pos, go_sem, rawF, ssort]⟩
  intro m s hs'
  rw [hI] at hs'
  obtain ⟨k, id, hk, hm, t1, t2, t9, t20, t21, t22, hH⟩ := hs'
  have ltH := (List.getElem?_eq_some_iff.1 hH).1
  subst hm
  simp -dsimp -implicitDefEqProofs [-getElem?_pos, go_sem, hP, t21, t22]
  refine condP (fun h => ?_) (fun h => ?_)
  rotate_left
  · have hke : k = l.length := by
      have : ¬ k < l.length := by simpa using h
      omega
    subst hke
    rw [List.take_length] at t9 hH
    have ef : ssort dayLt (rawF w 0 l) = flowsD w l := rfl
    rw [ef] at t9 hH
    obtain ⟨fs, hfs⟩ : ∃ fs, fs = flowsD w l := ⟨_, rfl⟩
    rw [← hfs] at t9 hH hR
    by_cases h4 : fs.length ≤ 400
    · have d : decide ((400 : Int) < (fs.length : Int)) = false := decide_eq_false (by omega)
      rw [if_pos h4] at hR
      rw [hR]
      simp -dsimp -implicitDefEqProofs [-getElem?_pos, go_sem, hP, t9, d, hH, ltH]
      refine done (x := .tup [flowsL fs, iv 0]) ?_ rfl ?_
      · simp [go_sem, hH, encL]
        exact fun x _ c hc => x.imm c hc
      · simp [go_sem, hH, encL]
    · have d : decide ((400 : Int) < (fs.length : Int)) = true := decide_eq_true (by omega)
      rw [if_neg h4] at hR
      rw [hR]
      simp -dsimp -implicitDefEqProofs [-getElem?_pos, go_sem, hP, t9, d, hH, ltH]
      exact done_nil2 4 rfl
  have hk : k < l.length := by simpa using h
  obtain ⟨t, ht⟩ : ∃ t, l[k]? = some t := ⟨_, List.getElem?_eq_getElem hk⟩
  have wk := wrap_in ((k : Int) + 1) (by omega)
  have ta := ramount_pf t
  have td := rdays_pf t
  have itx := imm_tax t
  have bA := amountD_bd t
  have lds := daysD_len t
  have esn : rawF w 0 (l.take (k + 1)) = rawF w 0 (l.take k) ++ rowF w t k (daysD t) := by rw [takeAt ht, rawF_snoc, List.length_take, Nat.zero_add, Nat.min_eq_left (by omega)]
  have rsn : ∀ (ds : List Int) (d : Int), rowF w t k (ds ++ [d]) = rowF w t k ds ++ if decide (0 < amountD t) && w t d then [⟨d, amountD t, 3, k⟩] else [] := fun ds d => rowF_snoc w t k ds d
  obtain ⟨A, hA⟩ : ∃ A, A = amountD t := ⟨_, rfl⟩
  obtain ⟨ds, hds⟩ : ∃ ds, ds = daysD t := ⟨_, rfl⟩
  rw [← hA] at ta bA rsn
  rw [← hds] at td lds esn
  rw [cTx] at ta td itx
  obtain ⟨raw, hraw⟩ : ∃ raw, raw = rawF w 0 (l.take k) := ⟨_, rfl⟩
  have lraw := rawF_len w (l.take k) 0
  rw [← hraw] at t9 hH esn lraw
  rw [List.length_take] at lraw
  obtain ⟨nb, hnb⟩ : ∃ nb, nb = s.H.length := ⟨_, rfl⟩
  have gnb : ∀ x : Option AObj, (s.H ++ [x])[nb]? = some x := fun x => by rw [hnb]; simp
  have gid : ∀ x : Option AObj, (s.H ++ [x])[id]? = s.H[id]? := fun x => List.getElem?_append_left ltH
  simp -dsimp -implicitDefEqProofs [-getElem?_pos, go_sem, hP, t20, t22, ht, cTx]
  rw [← hnb]
  try simp only [gnb]
  refine callB_is (td.lift _ _) hP en_21 (by simpa using itx) (imm_ints _) ?_
  simp -dsimp -implicitDefEqProofs [-getElem?_pos, go_sem, hP, intsL]
  obtain ⟨J, hJ⟩ : ∃ I : Nat → St → Prop, I = fun m s => ∃ j id : Nat, j ≤ ds.length ∧ m = ds.length - j ∧ ¬ id = nb ∧ s.t 1 = iv a ∧ s.t 2 = iv b ∧ s.t 9 = .sref id 0 (ssort dayLt (raw ++ rowF w t k (ds.take j))).length ∧ s.t 10 = iv k ∧ s.t 11 = .ref nb 0 0 ∧ s.t 20 = taxesL l ∧ s.t 21 = iv l.length ∧ s.t 22 = iv k ∧ s.t 28 = .list 1 (ds.map fun x => [iv x]) ∧ s.t 29 = iv ds.length ∧ s.t 30 = iv j ∧ s.H[nb]? = some (some ⟨30, 8, [[.sc (.string t.Code), iv t.Payer, iv t.Base, iv t.Num, iv t.Den, iv t.First, iv t.Every, iv t.Times]]⟩) ∧ s.H[id]? = some (flO TFlow.cells (ssort dayLt (raw ++ rowF w t k (ds.take j)))) := ⟨_, rfl⟩
  refine aloop0 J (ds.length) (by rw [hN]; rfl) ?_ ?_
  · rw [hJ]
    exact ⟨0, id, by omega, by omega, by omega, by simp -dsimp -implicitDefEqProofs [-getElem?_pos, go_sem, t1], by simp -dsimp -implicitDefEqProofs [-getElem?_pos, go_sem, t2], by simp -dsimp -implicitDefEqProofs [-getElem?_pos, go_sem, t9, rowF], by simp -dsimp -implicitDefEqProofs [-getElem?_pos, go_sem], by simp -dsimp -implicitDefEqProofs [-getElem?_pos, go_sem], by simp -dsimp -implicitDefEqProofs [-getElem?_pos, go_sem, t20], by simp -dsimp -implicitDefEqProofs [-getElem?_pos, go_sem, t21], by simp -dsimp -implicitDefEqProofs [-getElem?_pos, go_sem, t22], by simp -dsimp -implicitDefEqProofs [-getElem?_pos, go_sem], by simp -dsimp -implicitDefEqProofs [-getElem?_pos, go_sem], by simp -dsimp -implicitDefEqProofs [-getElem?_pos, go_sem], by simp -dsimp -implicitDefEqProofs [-getElem?_pos, go_sem, gnb], by simp -dsimp -implicitDefEqProofs [-getElem?_pos, go_sem, gid, hH, rowF]⟩
  clear t1 t2 t9 t20 t21 t22 hH ltH gnb gid hnb h id s
  intro m s hs'
  rw [hJ] at hs'
  obtain ⟨j, id, hj, hm, hne, t1, t2, t9, t10, t11, t20, t21, t22, t28, t29, t30, hB, hH⟩ := hs'
  have ltH := (List.getElem?_eq_some_iff.1 hH).1
  have ltB := (List.getElem?_eq_some_iff.1 hB).1
  subst hm
  obtain ⟨cur, hcur⟩ : ∃ cur, cur = ssort dayLt (raw ++ rowF w t k (ds.take j)) := ⟨_, rfl⟩
  have srt : Srt dayLt cur := by rw [hcur]; exact ssort_srt dayLt_ord _
  have lcur : cur.length ≤ 60060 := by
    have := rowF_len w t k (ds.take j)
    rw [List.length_take] at this
    rw [hcur, ssort_len, List.length_append]
    omega
  rw [← hcur] at t9 hH
  simp -dsimp -implicitDefEqProofs [-getElem?_pos, go_sem, hP, t29, t30]
  refine condP (fun h => ?_) (fun h => ?_)
  rotate_left
  · have hje : j = ds.length := by
      have : ¬ j < ds.length := by simpa using h
      omega
    subst hje
    rw [List.take_length, ← esn] at hcur
    simp -dsimp -implicitDefEqProofs [-getElem?_pos, go_sem, hP, t22, wk]
    refine ⟨l.length - (k + 1), by omega, ?_⟩
    rw [hI]
    exact ⟨k + 1, id, by omega, rfl, by simp -dsimp -implicitDefEqProofs [-getElem?_pos, go_sem, t1], by simp -dsimp -implicitDefEqProofs [-getElem?_pos, go_sem, t2], by rw [← hcur]; simp -dsimp -implicitDefEqProofs [-getElem?_pos, go_sem, t9], by simp -dsimp -implicitDefEqProofs [-getElem?_pos, go_sem, t20], by simp -dsimp -implicitDefEqProofs [-getElem?_pos, go_sem, t21], by simp -dsimp -implicitDefEqProofs [-getElem?_pos, go_sem], by rw [← hcur]; exact hH⟩
  have hj : j < ds.length := by simpa using h
  obtain ⟨d, hd⟩ : ∃ d, ds[j]? = some d := ⟨_, List.getElem?_eq_getElem hj⟩
  have wj := wrap_in ((j : Int) + 1) (by omega)
  have sn := rsn (ds.take j) d
  rw [← takeAt hd] at sn
  have nxt : ∀ (s' : St) (id' : Nat) (c' : List TFlow), c' = ssort dayLt (raw ++ rowF w t k (ds.take (j + 1))) → ¬ id' = nb → s'.t 1 = iv a → s'.t 2 = iv b → s'.t 9 = .sref id' 0 c'.length → s'.t 10 = iv k → s'.t 11 = .ref nb 0 0 → s'.t 20 = taxesL l → s'.t 21 = iv l.length → s'.t 22 = iv k → s'.t 28 = .list 1 (ds.map fun x => [iv x]) → s'.t 29 = iv ds.length → s'.t 30 = iv ((j : Int) + 1) → s'.H[nb]? = s.H[nb]? → s'.H[id']? = some (flO TFlow.cells c') → ∃ n', n' < ds.length - j ∧ J n' s' := fun s' id' c' e0 e1 e2 e3 e4 e5 e6 e7 e8 e9 e10 e11 e12 e13 e14 => by
    refine ⟨ds.length - (j + 1), by omega, ?_⟩
    rw [hJ]
    exact ⟨j + 1, id', by omega, rfl, e1, e2, e3, by rw [← e0]; exact e4, e5, e6, e7, e8, e9, e10, e11, e12, e13.trans hB, by rw [← e0]; exact e14⟩
  have same : (decide (0 < A) && w t d) = false → cur = ssort dayLt (raw ++ rowF w t k (ds.take (j + 1))) := fun e => by
    rw [sn, e, if_neg (by simp), List.append_nil, hcur]
  by_cases c1 : d < a
  · have e := same (by rw [hw]; simp only; rw [btw_no (by omega), Bool.and_false])
    simp -dsimp -implicitDefEqProofs [-getElem?_pos, go_sem, hP, t28, t30, hd, t1, c1, wj]
    exact nxt _ id cur e hne (by simp -dsimp -implicitDefEqProofs [-getElem?_pos, go_sem, t1]) (by simp -dsimp -implicitDefEqProofs [-getElem?_pos, go_sem, t2]) (by simp -dsimp -implicitDefEqProofs [-getElem?_pos, go_sem, t9]) (by simp -dsimp -implicitDefEqProofs [-getElem?_pos, go_sem, t10]) (by simp -dsimp -implicitDefEqProofs [-getElem?_pos, go_sem, t11]) (by simp -dsimp -implicitDefEqProofs [-getElem?_pos, go_sem, t20]) (by simp -dsimp -implicitDefEqProofs [-getElem?_pos, go_sem, t21]) (by simp -dsimp -implicitDefEqProofs [-getElem?_pos, go_sem, t22]) (by simp -dsimp -implicitDefEqProofs [-getElem?_pos, go_sem, t28]) (by simp -dsimp -implicitDefEqProofs [-getElem?_pos, go_sem, t29]) (by simp -dsimp -implicitDefEqProofs [-getElem?_pos, go_sem]) rfl hH
  have d1 := decide_eq_false c1
  by_cases c2 : b < d
  · have e := same (by rw [hw]; simp only; rw [btw_no (by omega), Bool.and_false])
    simp -dsimp -implicitDefEqProofs [-getElem?_pos, go_sem, hP, t28, t30, hd, t1, d1, t2, c2, wj]
    exact nxt _ id cur e hne (by simp -dsimp -implicitDefEqProofs [-getElem?_pos, go_sem, t1]) (by simp -dsimp -implicitDefEqProofs [-getElem?_pos, go_sem, t2]) (by simp -dsimp -implicitDefEqProofs [-getElem?_pos, go_sem, t9]) (by simp -dsimp -implicitDefEqProofs [-getElem?_pos, go_sem, t10]) (by simp -dsimp -implicitDefEqProofs [-getElem?_pos, go_sem, t11]) (by simp -dsimp -implicitDefEqProofs [-getElem?_pos, go_sem, t20]) (by simp -dsimp -implicitDefEqProofs [-getElem?_pos, go_sem, t21]) (by simp -dsimp -implicitDefEqProofs [-getElem?_pos, go_sem, t22]) (by simp -dsimp -implicitDefEqProofs [-getElem?_pos, go_sem, t28]) (by simp -dsimp -implicitDefEqProofs [-getElem?_pos, go_sem, t29]) (by simp -dsimp -implicitDefEqProofs [-getElem?_pos, go_sem]) rfl hH
  have d2 := decide_eq_false c2
  simp -dsimp -implicitDefEqProofs [-getElem?_pos, go_sem, hP, t28, t30, hd, t1, d1, t2, d2, t11, hB, ltB]
  refine callB_is (ta.lift _ _) hP en_18 (by simpa using itx) .sc ?_
  by_cases c3 : A = 0
  · have e := same (by rw [decide_eq_false (by omega), Bool.false_and])
    simp -dsimp -implicitDefEqProofs [-getElem?_pos, go_sem, hP, c3, t30, wj]
    exact nxt _ id cur e hne (by simp -dsimp -implicitDefEqProofs [-getElem?_pos, go_sem, t1]) (by simp -dsimp -implicitDefEqProofs [-getElem?_pos, go_sem, t2]) (by simp -dsimp -implicitDefEqProofs [-getElem?_pos, go_sem, t9]) (by simp -dsimp -implicitDefEqProofs [-getElem?_pos, go_sem, t10]) (by simp -dsimp -implicitDefEqProofs [-getElem?_pos, go_sem, t11]) (by simp -dsimp -implicitDefEqProofs [-getElem?_pos, go_sem, t20]) (by simp -dsimp -implicitDefEqProofs [-getElem?_pos, go_sem, t21]) (by simp -dsimp -implicitDefEqProofs [-getElem?_pos, go_sem, t22]) (by simp -dsimp -implicitDefEqProofs [-getElem?_pos, go_sem, t28]) (by simp -dsimp -implicitDefEqProofs [-getElem?_pos, go_sem, t29]) (by simp -dsimp -implicitDefEqProofs [-getElem?_pos, go_sem]) rfl hH
  have d3 := decide_eq_false c3
  have wtd : (decide (0 < A) && w t d) = true := by
    rw [decide_eq_true (by omega), hw]
    simp only
    rw [btw_iff.2 (by omega)]
    rfl
  rw [wtd, if_pos rfl] at sn
  have sn2 : ssort dayLt (raw ++ rowF w t k (ds.take (j + 1))) = insR dayLt ⟨d, A, 3, k⟩ cur := by rw [sn, ← List.append_assoc, ssort_snoc, hcur]
  simp -dsimp -implicitDefEqProofs [-getElem?_pos, go_sem, hP, d3, t9, hH, ltH]
  obtain ⟨K, hK⟩ : ∃ I : Nat → St → Prop, I = fun m s => m ≤ cur.length ∧ (∀ z, z ∈ cur.drop m → d < z.Day) ∧ s.t 1 = iv a ∧ s.t 2 = iv b ∧ s.t 9 = .sref id 0 cur.length ∧ s.t 10 = iv k ∧ s.t 11 = .ref nb 0 0 ∧ s.t 13 = iv d ∧ s.t 14 = iv m ∧ s.t 20 = taxesL l ∧ s.t 21 = iv l.length ∧ s.t 22 = iv k ∧ s.t 28 = .list 1 (ds.map fun x => [iv x]) ∧ s.t 29 = iv ds.length ∧ s.t 30 = iv j ∧ s.H[nb]? = some (some ⟨30, 8, [[.sc (.string t.Code), iv t.Payer, iv t.Base, iv t.Num, iv t.Den, iv t.First, iv t.Every, iv t.Times]]⟩) ∧ s.H[id]? = some (flO TFlow.cells cur) := ⟨_, rfl⟩
  refine aloop0 K (cur.length) (by rw [hN]; rfl) ?_ ?_
  · rw [hK]
    exact ⟨Nat.le_refl _, by simp, by simp -dsimp -implicitDefEqProofs [-getElem?_pos, go_sem, t1], by simp -dsimp -implicitDefEqProofs [-getElem?_pos, go_sem, t2], by simp -dsimp -implicitDefEqProofs [-getElem?_pos, go_sem, t9], by simp -dsimp -implicitDefEqProofs [-getElem?_pos, go_sem, t10], by simp -dsimp -implicitDefEqProofs [-getElem?_pos, go_sem, t11], by simp -dsimp -implicitDefEqProofs [-getElem?_pos, go_sem], by simp -dsimp -implicitDefEqProofs [-getElem?_pos, go_sem, hH], by simp -dsimp -implicitDefEqProofs [-getElem?_pos, go_sem, t20], by simp -dsimp -implicitDefEqProofs [-getElem?_pos, go_sem, t21], by simp -dsimp -implicitDefEqProofs [-getElem?_pos, go_sem, t22], by simp -dsimp -implicitDefEqProofs [-getElem?_pos, go_sem, t28], by simp -dsimp -implicitDefEqProofs [-getElem?_pos, go_sem, t29], by simp -dsimp -implicitDefEqProofs [-getElem?_pos, go_sem, t30], hB, hH⟩
  clear t1 t2 t9 t10 t11 t20 t21 t22 t28 t29 t30
  have hB0 := hB
  obtain ⟨H0, hH0⟩ : ∃ H0, H0 = s.H := ⟨_, rfl⟩
  rw [← hH0] at hB0 ltH ltB
  have nxt := fun s' id' c' => nxt s' id' c'
  clear hB hH
  intro m s hs'
  rw [hK] at hs'
  obtain ⟨hm, hz, t1, t2, t9, t10, t11, t13, t14, t20, t21, t22, t28, t29, t30, hB, hH⟩ := hs'
  have ltH := (List.getElem?_eq_some_iff.1 hH).1
  have ltB := (List.getElem?_eq_some_iff.1 hB).1
  by_cases cont : 0 < m ∧ ∃ y, cur[m - 1]? = some y ∧ d < y.Day
  · obtain ⟨m0, y, hy, hdy⟩ := cont
    have wm := wrap_in ((m : Int) - 1) (by omega)
    have tn : ((m : Int) - 1).toNat = m - 1 := by omega
    have gm : (1 : Int) ≤ (m : Int) := by omega
    have gl : (m : Int) - 1 < (cur.length : Int) := by omega
    have dm : decide (0 < m) = true := decide_eq_true m0
    simp -dsimp -implicitDefEqProofs [-getElem?_pos, go_sem, hP, t14, dm, t9, hH, ltH, wm, tn, gm, gl, hy, cFl, t13, hdy]
    refine ⟨m - 1, by omega, ?_⟩
    rw [hK]
    refine ⟨by omega, ?_, by simp -dsimp -implicitDefEqProofs [-getElem?_pos, go_sem, t1], by simp -dsimp -implicitDefEqProofs [-getElem?_pos, go_sem, t2], by simp -dsimp -implicitDefEqProofs [-getElem?_pos, go_sem, t9], by simp -dsimp -implicitDefEqProofs [-getElem?_pos, go_sem, t10], by simp -dsimp -implicitDefEqProofs [-getElem?_pos, go_sem, t11], by simp -dsimp -implicitDefEqProofs [-getElem?_pos, go_sem, t13], ?_, by simp -dsimp -implicitDefEqProofs [-getElem?_pos, go_sem, t20], by simp -dsimp -implicitDefEqProofs [-getElem?_pos, go_sem, t21], by simp -dsimp -implicitDefEqProofs [-getElem?_pos, go_sem, t22], by simp -dsimp -implicitDefEqProofs [-getElem?_pos, go_sem, t28], by simp -dsimp -implicitDefEqProofs [-getElem?_pos, go_sem, t29], by simp -dsimp -implicitDefEqProofs [-getElem?_pos, go_sem, t30], hB, hH⟩
    · intro z hz'
      have e : cur.drop (m - 1) = y :: cur.drop m := by
        have := drop_at' hy
        rwa [show m - 1 + 1 = m by omega] at this
      rw [e] at hz'
      rcases List.mem_cons.1 hz' with rfl | hz'
      · exact hdy
      · exact hz z hz'
    · simp -dsimp -implicitDefEqProofs [-getElem?_pos, go_sem, hP]
      omega
  have hq : m = 0 ∨ ∃ z, cur[m - 1]? = some z ∧ ¬ d < z.Day := by
    by_cases m0 : m = 0
    · exact .inl m0
    · refine .inr ⟨cur[m - 1]'(by omega), List.getElem?_eq_getElem (by omega), fun h => cont ⟨by omega, _, List.getElem?_eq_getElem (by omega), h⟩⟩
  have ins := insR_at (x := ⟨d, A, 3, k⟩) srt hz hq
  rw [← sn2] at ins
  obtain ⟨n0, hn0⟩ : ∃ n0, n0 = s.H.length := ⟨_, rfl⟩
  have two : decide (0 < m) = false ∨ (decide (0 < m) = true ∧ ∃ y, cur[m - 1]? = some y ∧ decide (d < y.Day) = false) := by
    by_cases m0 : m = 0
    · exact .inl (decide_eq_false (by omega))
    · rcases hq with h | ⟨y, h1, h2⟩
      · exact absurd h m0
      · exact .inr ⟨decide_eq_true (by omega), y, h1, decide_eq_false h2⟩
  have wm : 0 < m → IntKind.i64.wrap ((m : Int) - 1) = (m : Int) - 1 := fun h => wrap_in ((m : Int) - 1) (by omega)
  obtain ⟨TO, hTO⟩ : ∃ TO : AObj, TO = ⟨30, 8, [[.sc (.string t.Code), iv t.Payer, iv t.Base, iv t.Num, iv t.Den, iv t.First, iv t.Every, iv t.Times]]⟩ := ⟨_, rfl⟩
  obtain ⟨Inv, hInv⟩ : ∃ Inv : St → Prop, Inv = fun s' => ∃ id' : Nat, ¬ id' = nb ∧ s'.t 1 = iv a ∧ s'.t 2 = iv b ∧ s'.t 9 = .sref id' 0 (cur.length + 1) ∧ s'.t 10 = iv k ∧ s'.t 11 = .ref nb 0 0 ∧ s'.t 20 = taxesL l ∧ s'.t 21 = iv l.length ∧ s'.t 22 = iv k ∧ s'.t 28 = .list 1 (ds.map fun x => [iv x]) ∧ s'.t 29 = iv ds.length ∧ s'.t 30 = iv j ∧ s'.H[nb]? = some (some TO) ∧ s'.H[id']? = some (flO TFlow.cells (cur.take m ++ ⟨d, A, 3, k⟩ :: cur.drop m)) := ⟨_, rfl⟩
  have ml : (m : Int) ≤ (cur.length : Int) := by omega
  have ltB0 : nb < n0 := by omega
  have ltH0 : id < n0 := by omega
  have hmin : min m cur.length = m := Nat.min_eq_left (by omega)
  have aP : ∀ P : Option AObj, Agree (fun i => decide (i < n0)) s.H (s.H ++ [P]) := fun P i hi => by
    have hi : i < n0 := by simpa using hi
    rw [List.getElem?_append_left (by omega)]
  have hmin : min m cur.length = m := Nat.min_eq_left (by omega)
  have aP : ∀ P : Option AObj, Agree (fun i => decide (i < n0)) s.H (s.H ++ [P]) := fun P i hi => by
    have hi : i < n0 := by simpa using hi
    rw [List.getElem?_append_left (by omega)]
  have hmin : min m cur.length = m := Nat.min_eq_left (by omega)
  have aP : ∀ P : Option AObj, Agree (fun i => decide (i < n0)) s.H (s.H ++ [P]) := fun P i hi => by
    have hi : i < n0 := by simpa using hi
    rw [List.getElem?_append_left (by omega)]
  have tkd : List.take (cur.length - m) (List.drop m (List.map TFlow.cells cur)) = List.drop m (List.map TFlow.cells cur) := List.take_of_length_le (by simp)
  have sn3 : cur.take m ++ ⟨d, A, 3, k⟩ :: cur.drop m = ssort dayLt (raw ++ rowF w t k (ds.take (j + 1))) := ins.symm
  have lc : (cur.take m ++ (⟨d, A, 3, k⟩ : TFlow) :: cur.drop m).length = cur.length + 1 := by simp; omega
  rcases two with dm | ⟨dm, y, hy, hdy⟩
  · have m0 : m = 0 := by
      have : ¬ 0 < m := by simpa using dm
      omega
    subst m0
    have t14 : s.t 14 = iv 0 := t14
    simp -dsimp -implicitDefEqProofs [-getElem?_pos, go_sem, hP, t14]
    refine adraw_cut Inv ?_ ?_
    · refine adrawK (fun i => decide (i < n0)) [10, 14] [] 10 hP (by kernel_rfl) (by kernel_rfl) (by simp) ?_
      simp -dsimp -implicitDefEqProofs [-getElem?_pos, go_sem, hP, List.take_succ_cons, List.take_zero, restr_get, t9, t14, t13, t11, t10, hB, hH, ltB, ltH, ltB0, ltH0, asliceOp, bound, aslice, ml, hmin]
      first | refine ⟨by omega, by omega, aP _, ?_⟩ | refine ⟨aP _, ?_⟩
      refine callB_is (ta.lift _ _) hP en_18 (by simpa using itx) .sc ?_
      refine ⟨fun _ _ _ => rfl, ?_⟩
      simp -dsimp -implicitDefEqProofs [-getElem?_pos, go_sem, hP, restr_get, t9, t14, t13, t11, t10, hB, hH, ltB, ltH, ltB0, ltH0, asliceOp, bound, aslice, ml, hmin]
      refine xany_pick 11 rfl (by kernel_rfl) ?_
      simp -dsimp -implicitDefEqProofs [-getElem?_pos, go_sem, hP, restr_get, t9, t14, t13, t11, t10, hB, hH, ltB, ltH, ltB0, ltH0, asliceOp, bound, aslice, ml, hmin]
      refine xany_pick 12 rfl (by kernel_rfl) ?_
      simp -dsimp -implicitDefEqProofs [-getElem?_pos, go_sem, hP, restr_get, t9, t14, t13, t11, t10, hB, hH, ltB, ltH, ltB0, ltH0, asliceOp, bound, aslice, ml, hmin]
      refine xany_two (i := 10) (j := 13) (by kernel_rfl) rfl rfl ?_ ?_
      · simp -dsimp -implicitDefEqProofs [-getElem?_pos, go_sem, hP, restr_get, t9, t14, t13, t11, t10, hB, hH, ltB, ltH, ltB0, ltH0, asliceOp, bound, aslice, ml, hmin]
        try refine ⟨by omega, by omega, ?_⟩
        refine xany_one (i := 13) (by kernel_rfl) rfl ?_
        simp -dsimp -implicitDefEqProofs [-getElem?_pos, go_sem, hP, restr_get, t9, t14, t13, t11, t10, hB, hH, ltB, ltH, ltB0, ltH0, asliceOp, bound, aslice, ml, hmin]
        refine xany_one (i := 14) (by kernel_rfl) rfl ?_
        simp -dsimp -implicitDefEqProofs [-getElem?_pos, go_sem, hP, restr_get, t9, t14, t13, t11, t10, hB, hH, ltB, ltH, ltB0, ltH0, asliceOp, bound, aslice, ml, hmin]
        try refine ⟨by omega, by omega, ?_⟩
        refine xany_one (i := 15) (by kernel_rfl) rfl ?_
        simp -dsimp -implicitDefEqProofs [-getElem?_pos, go_sem, hP, restr_get, t9, t14, t13, t11, t10, hB, hH, ltB, ltH, ltB0, ltH0, asliceOp, bound, aslice, ml, hmin]
        refine xany_nil (by kernel_rfl) ?_
        rw [hInv]
        refine ⟨s.H.length + 2, by omega, by simp -dsimp -implicitDefEqProofs [-getElem?_pos, go_sem, t1], by simp -dsimp -implicitDefEqProofs [-getElem?_pos, go_sem, t2], ?_, by simp -dsimp -implicitDefEqProofs [-getElem?_pos, go_sem, t10], by simp -dsimp -implicitDefEqProofs [-getElem?_pos, go_sem, t11], by simp -dsimp -implicitDefEqProofs [-getElem?_pos, go_sem, t20], by simp -dsimp -implicitDefEqProofs [-getElem?_pos, go_sem, t21], by simp -dsimp -implicitDefEqProofs [-getElem?_pos, go_sem, t22], by simp -dsimp -implicitDefEqProofs [-getElem?_pos, go_sem, t28], by simp -dsimp -implicitDefEqProofs [-getElem?_pos, go_sem, t29], by simp -dsimp -implicitDefEqProofs [-getElem?_pos, go_sem, t30], ?_, ?_⟩
        · simp -dsimp -implicitDefEqProofs [-getElem?_pos, go_sem, hP]
          try omega
        · rw [hTO]
          simp -dsimp -implicitDefEqProofs [-getElem?_pos, go_sem, ltB, hB]
        · simp -dsimp -implicitDefEqProofs [-getElem?_pos, go_sem, ltH, encL, cFl, ]
      · simp -dsimp -implicitDefEqProofs [-getElem?_pos, go_sem, hP, restr_get, t9, t14, t13, t11, t10, hB, hH, ltB, ltH, ltB0, ltH0, asliceOp, bound, aslice, ml, hmin]
        refine xany_one (i := 10) (by kernel_rfl) rfl ?_
        simp -dsimp -implicitDefEqProofs [-getElem?_pos, go_sem, hP, restr_get, t9, t14, t13, t11, t10, hB, hH, ltB, ltH, ltB0, ltH0, asliceOp, bound, aslice, ml, hmin]
        try refine ⟨by omega, by omega, ?_⟩
        refine xany_one (i := 14) (by kernel_rfl) rfl ?_
        simp -dsimp -implicitDefEqProofs [-getElem?_pos, go_sem, hP, restr_get, t9, t14, t13, t11, t10, hB, hH, ltB, ltH, ltB0, ltH0, asliceOp, bound, aslice, ml, hmin]
        try refine ⟨by omega, by omega, ?_⟩
        refine xany_one (i := 15) (by kernel_rfl) rfl ?_
        simp -dsimp -implicitDefEqProofs [-getElem?_pos, go_sem, hP, restr_get, t9, t14, t13, t11, t10, hB, hH, ltB, ltH, ltB0, ltH0, asliceOp, bound, aslice, ml, hmin]
        refine xany_nil (by kernel_rfl) ?_
        rw [hInv]
        refine ⟨s.H.length + 2, by omega, by simp -dsimp -implicitDefEqProofs [-getElem?_pos, go_sem, t1], by simp -dsimp -implicitDefEqProofs [-getElem?_pos, go_sem, t2], ?_, by simp -dsimp -implicitDefEqProofs [-getElem?_pos, go_sem, t10], by simp -dsimp -implicitDefEqProofs [-getElem?_pos, go_sem, t11], by simp -dsimp -implicitDefEqProofs [-getElem?_pos, go_sem, t20], by simp -dsimp -implicitDefEqProofs [-getElem?_pos, go_sem, t21], by simp -dsimp -implicitDefEqProofs [-getElem?_pos, go_sem, t22], by simp -dsimp -implicitDefEqProofs [-getElem?_pos, go_sem, t28], by simp -dsimp -implicitDefEqProofs [-getElem?_pos, go_sem, t29], by simp -dsimp -implicitDefEqProofs [-getElem?_pos, go_sem, t30], ?_, ?_⟩
        · simp -dsimp -implicitDefEqProofs [-getElem?_pos, go_sem, hP]
          try omega
        · rw [hTO]
          simp -dsimp -implicitDefEqProofs [-getElem?_pos, go_sem, ltB, hB]
        · simp -dsimp -implicitDefEqProofs [-getElem?_pos, go_sem, ltH, encL, cFl, ]
    · rw [hInv]
      rintro s' ⟨id', e1, e2, e3, e4, e5, e6, e7, e8, e9, e10, e11, e12, e13, e14⟩
      simp -dsimp -implicitDefEqProofs [-getElem?_pos, go_sem, hP, e12, wj]
      exact nxt _ id' _ sn3 e1 (by simp -dsimp -implicitDefEqProofs [-getElem?_pos, go_sem, e2]) (by simp -dsimp -implicitDefEqProofs [-getElem?_pos, go_sem, e3]) (by simp -dsimp -implicitDefEqProofs [-getElem?_pos, go_sem, e4, lc]) (by simp -dsimp -implicitDefEqProofs [-getElem?_pos, go_sem, e5]) (by simp -dsimp -implicitDefEqProofs [-getElem?_pos, go_sem, e6]) (by simp -dsimp -implicitDefEqProofs [-getElem?_pos, go_sem, e7]) (by simp -dsimp -implicitDefEqProofs [-getElem?_pos, go_sem, e8]) (by simp -dsimp -implicitDefEqProofs [-getElem?_pos, go_sem, e9]) (by simp -dsimp -implicitDefEqProofs [-getElem?_pos, go_sem, e10]) (by simp -dsimp -implicitDefEqProofs [-getElem?_pos, go_sem, e11]) (by simp -dsimp -implicitDefEqProofs [-getElem?_pos, go_sem]) (by rw [hTO] at e13; rw [e13, ← hH0, hB0]) e14
  · have m0 : 0 < m := by simpa using dm
    have mz : ¬ m = 0 := by omega
    have wm := wm m0
    have tn : ((m : Int) - 1).toNat = m - 1 := by omega
    have gm : (1 : Int) ≤ (m : Int) := by omega
    have gl : (m : Int) - 1 < (cur.length : Int) := by omega
    simp -dsimp -implicitDefEqProofs [-getElem?_pos, go_sem, hP, t14, dm, t9, hH, ltH, wm, tn, gm, gl, hy, cFl, t13, hdy]
    by_cases me : m = cur.length
    · have me' : (m : Int) = (cur.length : Int) := by omega
      have cz : ¬ cur = [] := fun e => by rw [e] at me; simp at me; omega
      have de : List.drop m (List.map TFlow.cells cur) = [] := List.drop_of_length_le (by simp; omega)
      have te : List.take m (List.map TFlow.cells cur) = List.map TFlow.cells cur := List.take_of_length_le (by simp; omega)
      have de2 : cur.drop m = [] := List.drop_of_length_le (by omega)
      refine adraw_cut Inv ?_ ?_
      · refine adrawK (fun i => decide (i < n0)) [10, 14] [] 10 hP (by kernel_rfl) (by kernel_rfl) (by simp) ?_
        simp -dsimp -implicitDefEqProofs [-getElem?_pos, go_sem, hP, List.take_succ_cons, List.take_zero, restr_get, t9, t14, t13, t11, t10, hB, hH, ltB, ltH, ltB0, ltH0, asliceOp, bound, aslice, ml, hmin, mz, me', cz]
        first | refine ⟨by omega, by omega, aP _, ?_⟩ | refine ⟨aP _, ?_⟩
        refine callB_is (ta.lift _ _) hP en_18 (by simpa using itx) .sc ?_
        refine ⟨fun _ _ _ => rfl, ?_⟩
        simp -dsimp -implicitDefEqProofs [-getElem?_pos, go_sem, hP, restr_get, t9, t14, t13, t11, t10, hB, hH, ltB, ltH, ltB0, ltH0, asliceOp, bound, aslice, ml, hmin, mz, me', cz]
        refine xany_pick 11 rfl (by kernel_rfl) ?_
        simp -dsimp -implicitDefEqProofs [-getElem?_pos, go_sem, hP, restr_get, t9, t14, t13, t11, t10, hB, hH, ltB, ltH, ltB0, ltH0, asliceOp, bound, aslice, ml, hmin, mz, me', cz]
        refine xany_pick 12 rfl (by kernel_rfl) ?_
        simp -dsimp -implicitDefEqProofs [-getElem?_pos, go_sem, hP, restr_get, t9, t14, t13, t11, t10, hB, hH, ltB, ltH, ltB0, ltH0, asliceOp, bound, aslice, ml, hmin, mz, me', cz]
        refine xany_two (i := 10) (j := 13) (by kernel_rfl) rfl rfl ?_ ?_
        · simp -dsimp -implicitDefEqProofs [-getElem?_pos, go_sem, hP, restr_get, t9, t14, t13, t11, t10, hB, hH, ltB, ltH, ltB0, ltH0, asliceOp, bound, aslice, ml, hmin, mz, me', cz]
          try refine ⟨by omega, by omega, ?_⟩
          refine xany_one (i := 13) (by kernel_rfl) rfl ?_
          simp -dsimp -implicitDefEqProofs [-getElem?_pos, go_sem, hP, restr_get, t9, t14, t13, t11, t10, hB, hH, ltB, ltH, ltB0, ltH0, asliceOp, bound, aslice, ml, hmin, mz, me', cz]
          refine xany_one (i := 14) (by kernel_rfl) rfl ?_
          simp -dsimp -implicitDefEqProofs [-getElem?_pos, go_sem, hP, restr_get, t9, t14, t13, t11, t10, hB, hH, ltB, ltH, ltB0, ltH0, asliceOp, bound, aslice, ml, hmin, mz, me', cz]
          try refine ⟨by omega, by omega, ?_⟩
          refine xany_one (i := 15) (by kernel_rfl) rfl ?_
          simp -dsimp -implicitDefEqProofs [-getElem?_pos, go_sem, hP, restr_get, t9, t14, t13, t11, t10, hB, hH, ltB, ltH, ltB0, ltH0, asliceOp, bound, aslice, ml, hmin, mz, me', cz]
          refine xany_nil (by kernel_rfl) ?_
          rw [hInv]
          refine ⟨s.H.length + 2, by omega, by simp -dsimp -implicitDefEqProofs [-getElem?_pos, go_sem, t1], by simp -dsimp -implicitDefEqProofs [-getElem?_pos, go_sem, t2], ?_, by simp -dsimp -implicitDefEqProofs [-getElem?_pos, go_sem, t10], by simp -dsimp -implicitDefEqProofs [-getElem?_pos, go_sem, t11], by simp -dsimp -implicitDefEqProofs [-getElem?_pos, go_sem, t20], by simp -dsimp -implicitDefEqProofs [-getElem?_pos, go_sem, t21], by simp -dsimp -implicitDefEqProofs [-getElem?_pos, go_sem, t22], by simp -dsimp -implicitDefEqProofs [-getElem?_pos, go_sem, t28], by simp -dsimp -implicitDefEqProofs [-getElem?_pos, go_sem, t29], by simp -dsimp -implicitDefEqProofs [-getElem?_pos, go_sem, t30], ?_, ?_⟩
          · simp -dsimp -implicitDefEqProofs [-getElem?_pos, go_sem, hP]
            try omega
          · rw [hTO]
            simp -dsimp -implicitDefEqProofs [-getElem?_pos, go_sem, ltB, hB]
          · simp -dsimp -implicitDefEqProofs [-getElem?_pos, go_sem, ltH, encL, cFl, mz, me', cz, de, de2, te]
        · simp -dsimp -implicitDefEqProofs [-getElem?_pos, go_sem, hP, restr_get, t9, t14, t13, t11, t10, hB, hH, ltB, ltH, ltB0, ltH0, asliceOp, bound, aslice, ml, hmin, mz, me', cz]
          refine xany_one (i := 10) (by kernel_rfl) rfl ?_
          simp -dsimp -implicitDefEqProofs [-getElem?_pos, go_sem, hP, restr_get, t9, t14, t13, t11, t10, hB, hH, ltB, ltH, ltB0, ltH0, asliceOp, bound, aslice, ml, hmin, mz, me', cz]
          try refine ⟨by omega, by omega, ?_⟩
          refine xany_one (i := 14) (by kernel_rfl) rfl ?_
          simp -dsimp -implicitDefEqProofs [-getElem?_pos, go_sem, hP, restr_get, t9, t14, t13, t11, t10, hB, hH, ltB, ltH, ltB0, ltH0, asliceOp, bound, aslice, ml, hmin, mz, me', cz]
          try refine ⟨by omega, by omega, ?_⟩
          refine xany_one (i := 15) (by kernel_rfl) rfl ?_
          simp -dsimp -implicitDefEqProofs [-getElem?_pos, go_sem, hP, restr_get, t9, t14, t13, t11, t10, hB, hH, ltB, ltH, ltB0, ltH0, asliceOp, bound, aslice, ml, hmin, mz, me', cz]
          refine xany_nil (by kernel_rfl) ?_
          rw [hInv]
          refine ⟨s.H.length + 2, by omega, by simp -dsimp -implicitDefEqProofs [-getElem?_pos, go_sem, t1], by simp -dsimp -implicitDefEqProofs [-getElem?_pos, go_sem, t2], ?_, by simp -dsimp -implicitDefEqProofs [-getElem?_pos, go_sem, t10], by simp -dsimp -implicitDefEqProofs [-getElem?_pos, go_sem, t11], by simp -dsimp -implicitDefEqProofs [-getElem?_pos, go_sem, t20], by simp -dsimp -implicitDefEqProofs [-getElem?_pos, go_sem, t21], by simp -dsimp -implicitDefEqProofs [-getElem?_pos, go_sem, t22], by simp -dsimp -implicitDefEqProofs [-getElem?_pos, go_sem, t28], by simp -dsimp -implicitDefEqProofs [-getElem?_pos, go_sem, t29], by simp -dsimp -implicitDefEqProofs [-getElem?_pos, go_sem, t30], ?_, ?_⟩
          · simp -dsimp -implicitDefEqProofs [-getElem?_pos, go_sem, hP]
            try omega
          · rw [hTO]
            simp -dsimp -implicitDefEqProofs [-getElem?_pos, go_sem, ltB, hB]
          · simp -dsimp -implicitDefEqProofs [-getElem?_pos, go_sem, ltH, encL, cFl, mz, me', cz, de, de2, te]
      · rw [hInv]
        rintro s' ⟨id', e1, e2, e3, e4, e5, e6, e7, e8, e9, e10, e11, e12, e13, e14⟩
        simp -dsimp -implicitDefEqProofs [-getElem?_pos, go_sem, hP, e12, wj]
        exact nxt _ id' _ sn3 e1 (by simp -dsimp -implicitDefEqProofs [-getElem?_pos, go_sem, e2]) (by simp -dsimp -implicitDefEqProofs [-getElem?_pos, go_sem, e3]) (by simp -dsimp -implicitDefEqProofs [-getElem?_pos, go_sem, e4, lc]) (by simp -dsimp -implicitDefEqProofs [-getElem?_pos, go_sem, e5]) (by simp -dsimp -implicitDefEqProofs [-getElem?_pos, go_sem, e6]) (by simp -dsimp -implicitDefEqProofs [-getElem?_pos, go_sem, e7]) (by simp -dsimp -implicitDefEqProofs [-getElem?_pos, go_sem, e8]) (by simp -dsimp -implicitDefEqProofs [-getElem?_pos, go_sem, e9]) (by simp -dsimp -implicitDefEqProofs [-getElem?_pos, go_sem, e10]) (by simp -dsimp -implicitDefEqProofs [-getElem?_pos, go_sem, e11]) (by simp -dsimp -implicitDefEqProofs [-getElem?_pos, go_sem]) (by rw [hTO] at e13; rw [e13, ← hH0, hB0]) e14
    have mlt : ¬ (m : Int) = (cur.length : Int) := by omega
    refine adraw_cut Inv ?_ ?_
    · refine adrawK (fun i => decide (i < n0)) [10, 14] [] 10 hP (by kernel_rfl) (by kernel_rfl) (by simp) ?_
      simp -dsimp -implicitDefEqProofs [-getElem?_pos, go_sem, hP, List.take_succ_cons, List.take_zero, restr_get, t9, t14, t13, t11, t10, hB, hH, ltB, ltH, ltB0, ltH0, asliceOp, bound, aslice, ml, hmin, mz, me, mlt]
      first | refine ⟨by omega, by omega, aP _, ?_⟩ | refine ⟨aP _, ?_⟩
      refine callB_is (ta.lift _ _) hP en_18 (by simpa using itx) .sc ?_
      refine ⟨fun _ _ _ => rfl, ?_⟩
      simp -dsimp -implicitDefEqProofs [-getElem?_pos, go_sem, hP, restr_get, t9, t14, t13, t11, t10, hB, hH, ltB, ltH, ltB0, ltH0, asliceOp, bound, aslice, ml, hmin, mz, me, mlt]
      refine xany_pick 11 rfl (by kernel_rfl) ?_
      simp -dsimp -implicitDefEqProofs [-getElem?_pos, go_sem, hP, restr_get, t9, t14, t13, t11, t10, hB, hH, ltB, ltH, ltB0, ltH0, asliceOp, bound, aslice, ml, hmin, mz, me, mlt]
      refine xany_pick 12 rfl (by kernel_rfl) ?_
      simp -dsimp -implicitDefEqProofs [-getElem?_pos, go_sem, hP, restr_get, t9, t14, t13, t11, t10, hB, hH, ltB, ltH, ltB0, ltH0, asliceOp, bound, aslice, ml, hmin, mz, me, mlt]
      refine xany_two (i := 10) (j := 13) (by kernel_rfl) rfl rfl ?_ ?_
      · simp -dsimp -implicitDefEqProofs [-getElem?_pos, go_sem, hP, restr_get, t9, t14, t13, t11, t10, hB, hH, ltB, ltH, ltB0, ltH0, asliceOp, bound, aslice, ml, hmin, mz, me, mlt]
        try refine ⟨by omega, by omega, ?_⟩
        refine xany_one (i := 13) (by kernel_rfl) rfl ?_
        simp -dsimp -implicitDefEqProofs [-getElem?_pos, go_sem, hP, restr_get, t9, t14, t13, t11, t10, hB, hH, ltB, ltH, ltB0, ltH0, asliceOp, bound, aslice, ml, hmin, mz, me, mlt]
        refine xany_one (i := 14) (by kernel_rfl) rfl ?_
        simp -dsimp -implicitDefEqProofs [-getElem?_pos, go_sem, hP, restr_get, t9, t14, t13, t11, t10, hB, hH, ltB, ltH, ltB0, ltH0, asliceOp, bound, aslice, ml, hmin, mz, me, mlt]
        try refine ⟨by omega, by omega, ?_⟩
        refine xany_one (i := 15) (by kernel_rfl) rfl ?_
        simp -dsimp -implicitDefEqProofs [-getElem?_pos, go_sem, hP, restr_get, t9, t14, t13, t11, t10, hB, hH, ltB, ltH, ltB0, ltH0, asliceOp, bound, aslice, ml, hmin, mz, me, mlt]
        refine xany_nil (by kernel_rfl) ?_
        rw [hInv]
        refine ⟨s.H.length + 2, by omega, by simp -dsimp -implicitDefEqProofs [-getElem?_pos, go_sem, t1], by simp -dsimp -implicitDefEqProofs [-getElem?_pos, go_sem, t2], ?_, by simp -dsimp -implicitDefEqProofs [-getElem?_pos, go_sem, t10], by simp -dsimp -implicitDefEqProofs [-getElem?_pos, go_sem, t11], by simp -dsimp -implicitDefEqProofs [-getElem?_pos, go_sem, t20], by simp -dsimp -implicitDefEqProofs [-getElem?_pos, go_sem, t21], by simp -dsimp -implicitDefEqProofs [-getElem?_pos, go_sem, t22], by simp -dsimp -implicitDefEqProofs [-getElem?_pos, go_sem, t28], by simp -dsimp -implicitDefEqProofs [-getElem?_pos, go_sem, t29], by simp -dsimp -implicitDefEqProofs [-getElem?_pos, go_sem, t30], ?_, ?_⟩
        · simp -dsimp -implicitDefEqProofs [-getElem?_pos, go_sem, hP]
          try omega
        · rw [hTO]
          simp -dsimp -implicitDefEqProofs [-getElem?_pos, go_sem, ltB, hB]
        · simp -dsimp -implicitDefEqProofs [-getElem?_pos, go_sem, ltH, encL, cFl, mz, me, mlt, tkd]
      · simp -dsimp -implicitDefEqProofs [-getElem?_pos, go_sem, hP, restr_get, t9, t14, t13, t11, t10, hB, hH, ltB, ltH, ltB0, ltH0, asliceOp, bound, aslice, ml, hmin, mz, me, mlt]
        refine xany_one (i := 10) (by kernel_rfl) rfl ?_
        simp -dsimp -implicitDefEqProofs [-getElem?_pos, go_sem, hP, restr_get, t9, t14, t13, t11, t10, hB, hH, ltB, ltH, ltB0, ltH0, asliceOp, bound, aslice, ml, hmin, mz, me, mlt]
        try refine ⟨by omega, by omega, ?_⟩
        refine xany_one (i := 14) (by kernel_rfl) rfl ?_
        simp -dsimp -implicitDefEqProofs [-getElem?_pos, go_sem, hP, restr_get, t9, t14, t13, t11, t10, hB, hH, ltB, ltH, ltB0, ltH0, asliceOp, bound, aslice, ml, hmin, mz, me, mlt]
        try refine ⟨by omega, by omega, ?_⟩
        refine xany_one (i := 15) (by kernel_rfl) rfl ?_
        simp -dsimp -implicitDefEqProofs [-getElem?_pos, go_sem, hP, restr_get, t9, t14, t13, t11, t10, hB, hH, ltB, ltH, ltB0, ltH0, asliceOp, bound, aslice, ml, hmin, mz, me, mlt]
        refine xany_nil (by kernel_rfl) ?_
        rw [hInv]
        refine ⟨s.H.length + 2, by omega, by simp -dsimp -implicitDefEqProofs [-getElem?_pos, go_sem, t1], by simp -dsimp -implicitDefEqProofs [-getElem?_pos, go_sem, t2], ?_, by simp -dsimp -implicitDefEqProofs [-getElem?_pos, go_sem, t10], by simp -dsimp -implicitDefEqProofs [-getElem?_pos, go_sem, t11], by simp -dsimp -implicitDefEqProofs [-getElem?_pos, go_sem, t20], by simp -dsimp -implicitDefEqProofs [-getElem?_pos, go_sem, t21], by simp -dsimp -implicitDefEqProofs [-getElem?_pos, go_sem, t22], by simp -dsimp -implicitDefEqProofs [-getElem?_pos, go_sem, t28], by simp -dsimp -implicitDefEqProofs [-getElem?_pos, go_sem, t29], by simp -dsimp -implicitDefEqProofs [-getElem?_pos, go_sem, t30], ?_, ?_⟩
        · simp -dsimp -implicitDefEqProofs [-getElem?_pos, go_sem, hP]
          try omega
        · rw [hTO]
          simp -dsimp -implicitDefEqProofs [-getElem?_pos, go_sem, ltB, hB]
        · simp -dsimp -implicitDefEqProofs [-getElem?_pos, go_sem, ltH, encL, cFl, mz, me, mlt, tkd]
    · rw [hInv]
      rintro s' ⟨id', e1, e2, e3, e4, e5, e6, e7, e8, e9, e10, e11, e12, e13, e14⟩
      simp -dsimp -implicitDefEqProofs [-getElem?_pos, go_sem, hP, e12, wj]
      exact nxt _ id' _ sn3 e1 (by simp -dsimp -implicitDefEqProofs [-getElem?_pos, go_sem, e2]) (by simp -dsimp -implicitDefEqProofs [-getElem?_pos, go_sem, e3]) (by simp -dsimp -implicitDefEqProofs [-getElem?_pos, go_sem, e4, lc]) (by simp -dsimp -implicitDefEqProofs [-getElem?_pos, go_sem, e5]) (by simp -dsimp -implicitDefEqProofs [-getElem?_pos, go_sem, e6]) (by simp -dsimp -implicitDefEqProofs [-getElem?_pos, go_sem, e7]) (by simp -dsimp -implicitDefEqProofs [-getElem?_pos, go_sem, e8]) (by simp -dsimp -implicitDefEqProofs [-getElem?_pos, go_sem, e9]) (by simp -dsimp -implicitDefEqProofs [-getElem?_pos, go_sem, e10]) (by simp -dsimp -implicitDefEqProofs [-getElem?_pos, go_sem, e11]) (by simp -dsimp -implicitDefEqProofs [-getElem?_pos, go_sem]) (by rw [hTO] at e13; rw [e13, ← hH0, hB0]) e14
end Go.Proofs.YtabdihohphlheaaGreatDoor
