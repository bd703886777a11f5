/- Accounts: the reference's check and what is behind it. -/
import Derived.Test.YtellcfkpfccgaaaAcc2
set_option linter.unusedSimpArgs false
set_option linter.unusedVariables false
namespace Go.Proofs.Ytellcfkpfccgaaa
open Go.PA
open Go.RowKit

/-- The balances behind entries, or the error of the first that is not possible. -/
def runE (credit : Int) : TEntry → List TSub → List TEntry → List TSub × Int
  | _, l, [] => (l, 0)
  | last, l, e :: es => if (postS credit last.Number last.Day l e).1 = 0 then runE credit e (postS credit last.Number last.Day l e).2 es else ([], (postS credit last.Number last.Day l e).1)
theorem runE_replay (credit : Int) : ∀ (es : List TEntry) (last : TEntry) (l : List TSub), (∃ r, replayS credit last.Number last.Day l es = some r ∧ runE credit last l es = (r.2.2, 0)) ∨ (replayS credit last.Number last.Day l es = none ∧ (runE credit last l es).1 = [] ∧ ¬ (runE credit last l es).2 = 0)
  | [], last, l => .inl ⟨_, rfl, rfl⟩
  | e :: es, last, l => by
    rw [replayS, runE]
    by_cases h : (postS credit last.Number last.Day l e).1 = 0
    · rw [if_pos h, if_pos h]
      exact runE_replay credit es e _
    · rw [if_neg h, if_neg h]
      exact .inr ⟨rfl, rfl, h⟩
abbrev zeroE : TEntry := ⟨0, 0, 0, 0, 0, 0⟩
def early (day : Int) (e : TEntry) : Bool := decide (e.Day ≤ day)
def untilR (a : TAccount) (day : Int) : List TSub × Int := runE a.Credit zeroE (zeroS a.Subs) (a.Entries.takeWhile (early day))

theorem addR_ok {credit : Int} {l : List TSub} {last e : TEntry} (h : (postS credit last.Number last.Day l e).1 = 0) : addR credit l last e = ((postS credit last.Number last.Day l e).2, 0) := by rw [addR, if_pos h]
theorem addR_bad {credit : Int} {l : List TSub} {last e : TEntry} (h : ¬ (postS credit last.Number last.Day l e).1 = 0) : addR credit l last e = ([], (postS credit last.Number last.Day l e).1) := by rw [addR, if_neg h]

set_option maxHeartbeats 1000000 in
theorem until_pf (a : TAccount) (day : Int) (hl : a.Subs.length ≤ 100000) (he : a.Entries.length ≤ 100000) (hc : 0 ≤ a.Credit ∧ a.Credit ≤ 1000000000000) (hn : (ids a.Subs).Nodup) (h0 : 0 ∉ ids a.Subs) :
    PFun Try.prog none none 102 [.agg a.cells, iv day] (· = .tup [subsL (untilR a day).1, iv (untilR a day).2]) := by
  refine pfun_intro Try.func102 rfl (by simp [Try.f102]) (by kernel_rfl) ?_
  intro E hP hr hs hW hN
  simp -dsimp -implicitDefEqProofs [-getElem?_pos, go_sem, hP, TAccount.cells]
  refine callB_is ((empty_pf a.Subs hl).lift _ _) hP en_123 (by simp [imm_subs]) (imm_subs _) ?_
  simp -dsimp -implicitDefEqProofs [-getElem?_pos, go_sem, hP]
  obtain ⟨I, hI⟩ : ∃ I : Nat → St → Prop, I = fun m s => ∃ (k id : Nat) (last : TEntry) (l : List TSub), k ≤ a.Entries.length ∧ 1 ≤ id ∧ m = a.Entries.length - k ∧ untilR a day = runE a.Credit last l ((a.Entries.drop k).takeWhile (early day)) ∧ last.Number = k ∧ 0 ≤ last.Day ∧ okAll a.Credit l = true ∧ ids l = ids a.Subs ∧ s.t 1 = iv day ∧ s.t 2 = .ref 0 0 0 ∧ s.t 6 = subsL l ∧ s.t 7 = .ref id 0 0 ∧ s.t 17 = entsL a.Entries ∧ s.t 18 = iv a.Entries.length ∧ s.t 19 = iv k ∧ s.H[0]? = some (some ⟨90, 3, [a.cells]⟩) ∧ s.H[id]? = some (some ⟨139, 6, [last.cells]⟩) := ⟨_, rfl⟩
  refine aloop0 I (a.Entries.length) (by rw [hN]; rfl) ?_ ?_
  · rw [hI]
    exact ⟨0, 1, zeroE, zeroS a.Subs, by omega, by omega, by omega, by simp [untilR], rfl, Int.le_refl _, zeroS_all hc.1 _, zeroS_ids _, by simp -dsimp -implicitDefEqProofs [-getElem?_pos, go_sem], by simp -dsimp -implicitDefEqProofs [-getElem?_pos, go_sem], by simp -dsimp -implicitDefEqProofs [-getElem?_pos, go_sem], by simp -dsimp -implicitDefEqProofs [-getElem?_pos, go_sem], by simp -dsimp -implicitDefEqProofs [-getElem?_pos, go_sem], by simp -dsimp -implicitDefEqProofs [-getElem?_pos, go_sem], by simp -dsimp -implicitDefEqProofs [-getElem?_pos, go_sem], by simp -dsimp -implicitDefEqProofs [-getElem?_pos, go_sem, TAccount.cells], by simp -dsimp -implicitDefEqProofs [-getElem?_pos, go_sem, TEntry.cells]⟩
  intro m s hs'
  rw [hI] at hs'
  obtain ⟨k, id, last, l, hk, hid, hm, hu, hnum, hday, hok, hids, t1, t2, t6, t7, t17, t18, t19, hA, hL⟩ := hs'
  have hll : l.length = a.Subs.length := by rw [← ids_len l, hids, ids_len]
  simp -dsimp -implicitDefEqProofs [-getElem?_pos, go_sem, hP, t18, t19]
  refine condP (fun h => ?_) (fun h => ?_)
  · have hk : k < a.Entries.length := by simpa using h
    obtain ⟨e, hee⟩ : ∃ e, a.Entries[k]? = some e := ⟨_, List.getElem?_eq_getElem hk⟩
    have wk := wrap_in ((k : Int) + 1) (by omega)
    have hd : a.Entries.drop k = e :: a.Entries.drop (k + 1) := by
      rw [List.getElem?_eq_getElem hk] at hee
      rw [List.drop_eq_getElem_cons hk, Option.some.inj hee]
    rw [hd] at hu
    have hlt0 := (List.getElem?_eq_some_iff.1 hA).1
    have hne0 : ¬ id = 0 := by omega
    have hlt := (List.getElem?_eq_some_iff.1 hL).1
    have tkE : e.cells.take 6 = e.cells := List.take_of_length_le (by rw [TEntry.len]; omega)
    have tkL : last.cells.take 6 = last.cells := List.take_of_length_le (by rw [TEntry.len]; omega)
    have drE : e.cells.drop 6 = [] := List.drop_eq_nil_of_le (by rw [TEntry.len]; omega)
    have drL : last.cells.drop 6 = [] := List.drop_eq_nil_of_le (by rw [TEntry.len]; omega)
    by_cases hearly : e.Day ≤ day
    · have h2 : decide (day < e.Day) = false := by simp; omega
      have hu2 : untilR a day = if (postS a.Credit last.Number last.Day l e).1 = 0 then runE a.Credit e (postS a.Credit last.Number last.Day l e).2 ((a.Entries.drop (k + 1)).takeWhile (early day)) else ([], (postS a.Credit last.Number last.Day l e).1) := by
        rw [hu, List.takeWhile_cons_of_pos (by simpa [early] using hearly)]
        rfl
      have ap := add_pf a.Credit l last e (by omega) hc (hids ▸ hn) (hids ▸ h0) hok (by omega) hday
      have cE : e.cells = [iv e.Number, iv e.Day, iv e.From, iv e.To, iv e.Amount, iv e.Ref] := rfl
      simp -dsimp -implicitDefEqProofs [-getElem?_pos, go_sem, hP, t17, t19, hee, t1, cE, h2, t2, hA, hlt0, hlt, TAccount.cells, t6, t7, hL, TEntry.len, tkL]
      refine callB_is (ap.lift _ _) hP en_113 (by simp [imm_subs, imm_sc]; exact ⟨imm_ent last, imm_ent e⟩) (imm_pair (imm_subs _) .sc) ?_
      by_cases hp : (postS a.Credit last.Number last.Day l e).1 = 0
      · rw [addR_ok hp]
        rw [if_pos hp] at hu2
        obtain ⟨q1, q2, q3, _⟩ := postS_ok hp
        simp -dsimp -implicitDefEqProofs [-getElem?_pos, go_sem, hP]
        refine adrawB (fun _ => true) [3] hP (by kernel_rfl) (by kernel_rfl) ?_
        simp -dsimp -implicitDefEqProofs [-getElem?_pos, go_sem, hP, t7, hL, hlt, t19, wk, drL, TEntry.len]
        refine ⟨a.Entries.length - (k + 1), by omega, ?_⟩
        rw [hI]
        refine ⟨k + 1, id, e, (postS a.Credit last.Number last.Day l e).2, by omega, hid, rfl, hu2, by rw [q1, hnum]; simp, by omega, postS_all hp hok, (postS_ids _ _ _ _ _).trans hids, by simp -dsimp -implicitDefEqProofs [-getElem?_pos, go_sem, t1], by simp -dsimp -implicitDefEqProofs [-getElem?_pos, go_sem, t2], by simp -dsimp -implicitDefEqProofs [-getElem?_pos, go_sem], by simp -dsimp -implicitDefEqProofs [-getElem?_pos, go_sem, t7], by simp -dsimp -implicitDefEqProofs [-getElem?_pos, go_sem, t17], by simp -dsimp -implicitDefEqProofs [-getElem?_pos, go_sem, t18], by simp -dsimp -implicitDefEqProofs [-getElem?_pos, go_sem], ?_, ?_⟩
        · simp -dsimp -implicitDefEqProofs [-getElem?_pos, go_sem, hne0, hlt0, hA]
        · simp -dsimp -implicitDefEqProofs [-getElem?_pos, go_sem, hlt, TEntry.cells]
      · rw [addR_bad hp]
        rw [if_neg hp] at hu2
        simp -dsimp -implicitDefEqProofs [-getElem?_pos, go_sem, hP, hp]
        refine done_nil2 2 ?_
        rw [hu2]
        simp [encL]
    · have h2 : decide (day < e.Day) = true := by simp; omega
      have hu2 : untilR a day = (l, 0) := by
        rw [hu, List.takeWhile_cons_of_neg (by simpa [early] using hearly)]
        rfl
      have cE : e.cells = [iv e.Number, iv e.Day, iv e.From, iv e.To, iv e.Amount, iv e.Ref] := rfl
      simp -dsimp -implicitDefEqProofs [-getElem?_pos, go_sem, hP, t17, t19, hee, t1, cE, h2, t6]
      refine done_imm (imm_pair (imm_subs _) .sc) ?_
      rw [hu2]
  · have hk : k = a.Entries.length := by simp at h; omega
    subst hk
    rw [List.drop_length] at hu
    have hu2 : untilR a day = (l, 0) := hu
    simp -dsimp -implicitDefEqProofs [-getElem?_pos, go_sem, hP, t6]
    refine done_imm (imm_pair (imm_subs _) .sc) ?_
    rw [hu2]

theorem listEq_pf_subs (a b : List TSub) (ha : a.length ≤ 100000) (hb : b.length ≤ 100000) :
    PFun Try.prog none none 120 [.list 2 (encL TSub.cells a), .list 2 (encL TSub.cells b)] (· = bv (decide (a = b))) := by
  refine pfun_intro Try.func120 rfl (by simp [Try.f120]) (by kernel_rfl) ?_
  intro E hP hr hs hW hN
  by_cases hlen : a.length = b.length
  rotate_left
  · have hne : ¬ a = b := fun h => hlen (by rw [h])
    have hl : decide ((a.length : Int) = (b.length : Int)) = false := by simp; omega
    simp -dsimp -implicitDefEqProofs [-getElem?_pos, go_sem, hP, hl, hne]
  have hl : decide ((a.length : Int) = (b.length : Int)) = true := by simp; omega
  simp -dsimp -implicitDefEqProofs [-getElem?_pos, go_sem, hP, hl]
  obtain ⟨I, hI⟩ : ∃ I : Nat → St → Prop, I = fun m s => ∃ k : Nat, k ≤ a.length ∧ m = a.length - k ∧ s.t 0 = .list 2 (encL TSub.cells a) ∧ s.t 1 = .list 2 (encL TSub.cells b) ∧ s.t 12 = iv a.length ∧ s.t 13 = iv k ∧ a.take k = b.take k := ⟨_, rfl⟩
  refine aloop0 I (a.length) (by rw [hN]; rfl) ?_ ?_
  · rw [hI]
    exact ⟨0, by omega, by omega, by simp -dsimp -implicitDefEqProofs [-getElem?_pos, go_sem], by simp -dsimp -implicitDefEqProofs [-getElem?_pos, go_sem], by simp -dsimp -implicitDefEqProofs [-getElem?_pos, go_sem], by simp -dsimp -implicitDefEqProofs [-getElem?_pos, go_sem], by simp⟩
  intro m s hs'
  rw [hI] at hs'
  obtain ⟨k, hk, hm, t0, t1, t12, t13, heq⟩ := hs'
  simp -dsimp -implicitDefEqProofs [-getElem?_pos, go_sem, hP, t12, t13]
  refine condP (fun h => ?_) (fun h => ?_)
  · have hk : k < a.length := by simpa using h
    obtain ⟨x, hx⟩ : ∃ x, a[k]? = some x := ⟨_, List.getElem?_eq_getElem hk⟩
    obtain ⟨y, hy⟩ : ∃ y, b[k]? = some y := ⟨_, List.getElem?_eq_getElem (by omega)⟩
    have wk := wrap_in ((k : Int) + 1) (by omega)
    have tx : a.take (k + 1) = a.take k ++ [x] := by rw [List.take_add_one, hx]; rfl
    have ty : b.take (k + 1) = b.take k ++ [y] := by rw [List.take_add_one, hy]; rfl
    simp -dsimp -implicitDefEqProofs [-getElem?_pos, go_sem, hP, t13]
    refine adrawB (fun _ => true) [] hP (by kernel_rfl) (by kernel_rfl) ?_
    by_cases hxy : x = y
    · subst hxy
      simp -dsimp -implicitDefEqProofs [-getElem?_pos, go_sem, hP, t0, t1, hx, hy, TSub.cells, t13, wk]
      refine ⟨a.length - (k + 1), by omega, ?_⟩
      rw [hI]
      exact ⟨k + 1, by omega, rfl, by simp -dsimp -implicitDefEqProofs [-getElem?_pos, go_sem, t0], by simp -dsimp -implicitDefEqProofs [-getElem?_pos, go_sem, t1], by simp -dsimp -implicitDefEqProofs [-getElem?_pos, go_sem, t12], by simp -dsimp -implicitDefEqProofs [-getElem?_pos, go_sem], by rw [tx, ty, heq]⟩
    · have hne : ¬ a = b := fun h => by
        subst h
        rw [hx] at hy
        exact hxy (Option.some.inj hy)
      simp -dsimp -implicitDefEqProofs [-getElem?_pos, go_sem, hP, t0, t1, hx, hy, TSub.cells, t13, wk]
      refine condP (fun h => ?_) (fun h => ?_)
      · simp -dsimp -implicitDefEqProofs [-getElem?_pos, go_sem, hP, hne]
      · exact absurd (by cases x; cases y; simp at h; simp [h]) hxy
  · have hk : k = a.length := by simp at h; omega
    subst hk
    rw [List.take_length] at heq
    rw [hlen, List.take_length] at heq
    simp -dsimp -implicitDefEqProofs [-getElem?_pos, go_sem, hP, heq]


theorem plain_pf (a : TAccount) (hl : a.Subs.length ≤ 100000) : PFun Try.prog none none 112 [.agg a.cells] (· = bv (vB a.Credit && numB (ids a.Subs))) := by
  refine pfun_intro Try.func112 rfl (by simp [Try.f112]) (by kernel_rfl) ?_
  intro E hP hr hs hW hN
  simp -dsimp -implicitDefEqProofs [-getElem?_pos, go_sem, hP, TAccount.cells]
  refine callB_pure (valid01_pf a.Credit) hP en_111 (args_same (by simp -dsimp -implicitDefEqProofs [-getElem?_pos, go_sem])) .sc ?_
  by_cases hv : vB a.Credit = true
  rotate_left
  · simp -dsimp -implicitDefEqProofs [-getElem?_pos, go_sem, hP, hv]
  by_cases hz : a.Subs.length < 1
  · have hnil : a.Subs = [] := List.eq_nil_of_length_eq_zero (by omega)
    have hd : decide ((a.Subs.length : Int) < 1) = true := by simp; omega
    simp -dsimp -implicitDefEqProofs [-getElem?_pos, go_sem, hP, hv, hd]
    simp [hnil, numB, ids]
  have hd : decide ((a.Subs.length : Int) < 1) = false := by simp; omega
  simp -dsimp -implicitDefEqProofs [-getElem?_pos, go_sem, hP, hv, hd]
  obtain ⟨I, hI⟩ : ∃ I : Nat → St → Prop, I = fun m s => ∃ (k : Nat) (p : Int), k ≤ a.Subs.length ∧ m = a.Subs.length - k ∧ numB (ids a.Subs) = (ascB p ((ids a.Subs).drop k) && (decide (k = 0 → (ids a.Subs).head? = some 1))) ∧ (k = 0 → p = 0) ∧ (∀ j x, k = j + 1 → a.Subs[j]? = some x → p = x.ID) ∧ s.t 1 = .ref 0 0 0 ∧ s.t 16 = subsL a.Subs ∧ s.t 17 = iv a.Subs.length ∧ s.t 18 = iv k ∧ s.H[0]? = some (some ⟨90, 3, [a.cells]⟩) := ⟨_, rfl⟩
  refine aloop0 I (a.Subs.length) (by rw [hN]; rfl) ?_ ?_
  · rw [hI]
    exact ⟨0, 0, by omega, by omega, by simp [numB], by simp, by omega, by simp -dsimp -implicitDefEqProofs [-getElem?_pos, go_sem], by simp -dsimp -implicitDefEqProofs [-getElem?_pos, go_sem], by simp -dsimp -implicitDefEqProofs [-getElem?_pos, go_sem], by simp -dsimp -implicitDefEqProofs [-getElem?_pos, go_sem], by simp -dsimp -implicitDefEqProofs [-getElem?_pos, go_sem, TAccount.cells]⟩
  intro m s hs'
  rw [hI] at hs'
  obtain ⟨k, p, hk, hm, hnum, hp0, hp1, t1, t16, t17, t18, hA⟩ := hs'
  have hlt0 := (List.getElem?_eq_some_iff.1 hA).1
  simp -dsimp -implicitDefEqProofs [-getElem?_pos, go_sem, hP, t17, t18]
  refine condP (fun h => ?_) (fun h => ?_)
  · have hk : k < a.Subs.length := by simpa using h
    obtain ⟨x, hx⟩ : ∃ x, a.Subs[k]? = some x := ⟨_, List.getElem?_eq_getElem hk⟩
    have wk := wrap_in ((k : Int) + 1) (by omega)
    have hdr : (ids a.Subs).drop k = x.ID :: (ids a.Subs).drop (k + 1) := by
      have h1 : (ids a.Subs)[k]? = some x.ID := by rw [ids_get, hx]; rfl
      obtain ⟨h2, h3⟩ := List.getElem?_eq_some_iff.1 h1
      rw [List.drop_eq_getElem_cons h2, h3]
    rw [hdr, ascB] at hnum
    have hhead : k = 0 → (ids a.Subs).head? = some x.ID := fun h => by
      subst h
      rw [List.drop_zero] at hdr
      rw [hdr]
      rfl
    have fin : ∀ s' : St, (amongB x.ID 1 1000 && decide (p < x.ID)) = true → (k = 0 → x.ID = 1) → s'.t 1 = s.t 1 → s'.t 16 = s.t 16 → s'.t 17 = s.t 17 → s'.t 18 = iv ((k : Int) + 1) → s'.H[0]? = s.H[0]? → ∃ n', n' < m ∧ I n' s' := fun s' hc h1 e1 e16 e17 e18 eH => by
      refine ⟨a.Subs.length - (k + 1), by omega, ?_⟩
      rw [hI]
      simp only [Bool.and_eq_true] at hc
      refine ⟨k + 1, x.ID, by omega, rfl, ?_, by omega, fun j y hj hy => ?_, by rw [e1, t1], by rw [e16, t16], by rw [e17, t17], by rw [e18]; simp, by rw [eH, hA]⟩
      · rw [hnum, hc.1, hc.2]
        have : decide (k = 0 → (ids a.Subs).head? = some 1) = true := by
          simp only [decide_eq_true_eq]
          exact fun h => by rw [hhead h, h1 h]
        rw [this]
        simp
      · have : j = k := by omega
        subst this
        rw [hx] at hy
        rw [Option.some.inj hy]
    have bad : (amongB x.ID 1 1000 && decide (p < x.ID)) = false ∨ (k = 0 ∧ ¬ x.ID = 1) → numB (ids a.Subs) = false := fun h => by
      rcases h with h | ⟨h1, h2⟩
      · rw [hnum, ← Bool.and_assoc (amongB _ _ _), h]; simp
      · rw [hnum]
        have : decide (k = 0 → (ids a.Subs).head? = some 1) = false := by
          simp only [decide_eq_false_iff_not]
          intro h
          have := h h1
          rw [hhead h1] at this
          exact h2 (Option.some.inj this)
        rw [this]; simp
    simp -dsimp -implicitDefEqProofs [-getElem?_pos, go_sem, hP, t16, t18, hx, TSub.cells]
    refine adrawB (fun _ => true) [] hP (by kernel_rfl) (by kernel_rfl) ?_
    by_cases c1 : x.ID < 1
    · have := bad (.inl (by simp [amongB]; omega))
      simp -dsimp -implicitDefEqProofs [-getElem?_pos, go_sem, hP, c1, this]
    by_cases c2 : 1000 < x.ID
    · have := bad (.inl (by simp [amongB]; omega))
      simp -dsimp -implicitDefEqProofs [-getElem?_pos, go_sem, hP, c1, c2, this]
    rcases Nat.eq_zero_or_pos k with hk0 | hkp
    · have d0 : decide (k = 0) = true := by simp; omega
      have d1 : decide (0 < k) = false := by simp; omega
      by_cases c3 : x.ID = 1
      · have d3 : decide (x.ID = 1) = true := by simpa using c3
        simp -dsimp -implicitDefEqProofs [-getElem?_pos, go_sem, hP, c1, c2, d0, d1, d3, t18, wk]
        exact fin _ (by have := hp0 hk0; simp [amongB]; omega) (fun _ => c3) (by simp -dsimp -implicitDefEqProofs [-getElem?_pos, go_sem]) (by simp -dsimp -implicitDefEqProofs [-getElem?_pos, go_sem]) (by simp -dsimp -implicitDefEqProofs [-getElem?_pos, go_sem]) (by simp -dsimp -implicitDefEqProofs [-getElem?_pos, go_sem]) (by simp -dsimp -implicitDefEqProofs [-getElem?_pos, go_sem, hlt0])
      · have := bad (.inr ⟨hk0, c3⟩)
        simp -dsimp -implicitDefEqProofs [-getElem?_pos, go_sem, hP, c1, c2, d0, d1, c3, this]
    · obtain ⟨j, rfl⟩ : ∃ j, k = j + 1 := ⟨k - 1, by omega⟩
      obtain ⟨y, hy⟩ : ∃ y, a.Subs[j]? = some y := ⟨_, List.getElem?_eq_getElem (by omega)⟩
      have d0 : decide (((j : Int) + 1) = 0) = false := by simp <;> omega
      have d1 : decide ((0 : Int) < (j : Int) + 1) = true := by simp <;> omega
      have wj := wrap_in ((j : Int) + 1 - 1) (by omega)
      rw [Int.add_sub_cancel] at wj
      have hpy := hp1 j y rfl hy
      have wk' := wrap_in ((j : Int) + 1 + 1) (by omega)
      by_cases c3 : x.ID ≤ y.ID
      · have := bad (.inl (by simp [amongB]; omega))
        simp -dsimp -implicitDefEqProofs [-getElem?_pos, go_sem, hP, c1, c2, d0, d1, Int.add_sub_cancel, wj, t1, hA, hlt0, TAccount.cells, hy, TSub.cells, c3, this]
      · simp -dsimp -implicitDefEqProofs [-getElem?_pos, go_sem, hP, c1, c2, d0, d1, Int.add_sub_cancel, wj, t1, hA, hlt0, TAccount.cells, hy, TSub.cells, c3, t18, wk']
        exact fin _ (by simp [amongB]; omega) (by omega) (by simp -dsimp -implicitDefEqProofs [-getElem?_pos, go_sem]) (by simp -dsimp -implicitDefEqProofs [-getElem?_pos, go_sem]) (by simp -dsimp -implicitDefEqProofs [-getElem?_pos, go_sem]) (by simp -dsimp -implicitDefEqProofs [-getElem?_pos, go_sem]) (by simp -dsimp -implicitDefEqProofs [-getElem?_pos, go_sem, hlt0])
  · have hk : k = a.Subs.length := by simp at h; omega
    subst hk
    have hdn : (ids a.Subs).drop a.Subs.length = [] := List.drop_eq_nil_of_le (by rw [ids_len]; omega)
    have hh : decide (a.Subs.length = 0 → (ids a.Subs).head? = some 1) = true := by
      simp only [decide_eq_true_eq]
      intro h
      omega
    rw [hdn, hh] at hnum
    have hnum : numB (ids a.Subs) = true := hnum
    simp -dsimp -implicitDefEqProofs [-getElem?_pos, go_sem, hP, hnum, hv]

end Go.Proofs.Ytellcfkpfccgaaa
