/- Accounts: the program's teller. -/
import Derived.Test.YtellcfkpfccgaaaAcc5
set_option linter.unusedSimpArgs false
set_option linter.unusedVariables false
namespace Go.Proofs.Ytellcfkpfccgaaa
open Go.PA
open Go.RowKit

theorem valid_pf (n : Int) : PFun Try.prog none none 115 [iv n] (· = bv (vB n)) := by
  refine pfun_intro Try.func115 rfl (by simp [Try.f115]) (by kernel_rfl) ?_
  intro E hP hr hs hW hN
  by_cases h1 : 0 ≤ n <;> by_cases h2 : n ≤ 1000000000000 <;> simp -dsimp -implicitDefEqProofs [-getElem?_pos, go_sem, hP, h1, h2, vB, amongB]
theorem among_pf (n lo hi : Int) : PFun Try.prog none none 127 [iv n, iv lo, iv hi] (· = bv (amongB n lo hi)) := by
  refine pfun_intro Try.func127 rfl (by simp [Try.f127]) (by kernel_rfl) ?_
  intro E hP hr hs hW hN
  by_cases h1 : lo ≤ n <;> by_cases h2 : n ≤ hi <;> simp -dsimp -implicitDefEqProofs [-getElem?_pos, go_sem, hP, h1, h2, amongB]
theorem positive_pf (n : Int) : PFun Try.prog none none 130 [iv n] (· = bv (decide (0 < n) && vB n)) := by
  refine pfun_intro Try.func130 rfl (by simp [Try.f130]) (by kernel_rfl) ?_
  intro E hP hr hs hW hN
  by_cases h1 : 0 < n
  · have d1 : decide (0 < n) = true := decide_eq_true h1
    simp -dsimp -implicitDefEqProofs [-getElem?_pos, go_sem, hP, d1]
    refine callB_pure (valid_pf n) hP en_115 (args_same (by simp -dsimp -implicitDefEqProofs [-getElem?_pos, go_sem])) .sc ?_
    simp -dsimp -implicitDefEqProofs [-getElem?_pos, go_sem, hP, d1]
  · simp -dsimp -implicitDefEqProofs [-getElem?_pos, go_sem, hP, h1]

theorem numbers_pf (l : List TSub) (hl : l.length ≤ 100000) : PFun Try.prog none none 117 [subsL l] (· = numsL (ids l)) := by
  refine pfun_intro Try.func117 rfl (by simp [Try.f117]) (by kernel_rfl) ?_
  intro E hP hr hs hW hN
  simp -dsimp -implicitDefEqProofs [-getElem?_pos, go_sem, hP]
  refine aloop_own 3 3 1 (by simp -dsimp -implicitDefEqProofs [-getElem?_pos, go_sem]) ?_
  obtain ⟨I, hI⟩ : ∃ I : Nat → St → Prop, I = fun m s => ∃ k id : Nat, k ≤ l.length ∧ m = l.length - k ∧ s.t 6 = subsL l ∧ s.t 7 = iv l.length ∧ s.t 8 = iv k ∧ s.t 3 = .sref id 0 k ∧ s.H[id]? = some (some ⟨3, 1, encL encI (ids (l.take k))⟩) := ⟨_, rfl⟩
  refine aloopF 3 hW I (l.length) (by rw [hN]; rfl) ?_ ?_
  · rw [hI]
    exact ⟨0, 0, by omega, by omega, by simp -dsimp -implicitDefEqProofs [-getElem?_pos, go_sem], by simp -dsimp -implicitDefEqProofs [-getElem?_pos, go_sem], by simp -dsimp -implicitDefEqProofs [-getElem?_pos, go_sem], by simp -dsimp -implicitDefEqProofs [-getElem?_pos, go_sem], by simp -dsimp -implicitDefEqProofs [-getElem?_pos, go_sem, ids]⟩
  intro m s hs'
  rw [hI] at hs'
  obtain ⟨k, id, hk, hm, t6, t7, t8, t3, hH⟩ := hs'
  have hlt := (List.getElem?_eq_some_iff.1 hH).1
  have hz : (ids (l.take k)).length = k := by rw [ids_len]; simp; omega
  simp -dsimp -implicitDefEqProofs [-getElem?_pos, go_sem, hP, t7, t8]
  refine condP (fun h => ?_) (fun h => ?_)
  · have hk : k < l.length := by simpa using h
    obtain ⟨a, ha⟩ : ∃ a, l[k]? = some a := ⟨_, List.getElem?_eq_getElem hk⟩
    have wk := wrap_in ((k : Int) + 1) (by omega)
    have e1 : ids (l.take (k + 1)) = ids (l.take k) ++ [a.ID] := by rw [List.take_add_one, ha]; simp [ids]
    simp -dsimp -implicitDefEqProofs [-getElem?_pos, go_sem, hP, t6, t8, t3, ha, TSub.cells, hH, hz, hlt, wk]
    refine ⟨by omega, by omega, ?_⟩
    refine ⟨l.length - (k + 1), by omega, ?_⟩
    rw [hI]
    exact ⟨k + 1, s.H.length + 1, by omega, rfl, by simp -dsimp -implicitDefEqProofs [-getElem?_pos, go_sem, t6], by simp -dsimp -implicitDefEqProofs [-getElem?_pos, go_sem, t7], by simp -dsimp -implicitDefEqProofs [-getElem?_pos, go_sem], by simp -dsimp -implicitDefEqProofs [-getElem?_pos, go_sem], by rw [e1, ← encL_snoc]; simp -dsimp -implicitDefEqProofs [-getElem?_pos, go_sem, encI]⟩
  · have hk : k = l.length := by simp at h; omega
    subst hk
    refine frz id _ 3 1 (encL encI (ids l)) t3 (by rw [hH, List.take_length]) (by rw [encL_len, ids_len]) (imm_nums _) ?_
    simp -dsimp -implicitDefEqProofs [-getElem?_pos, go_sem, hP]
    exact done_imm (imm_nums _) rfl

set_option maxHeartbeats 1000000 in
theorem numbered_pf (l : List Int) (hl : l.length ≤ 100000) : PFun Try.prog none none 116 [numsL l] (· = bv (numB l)) := by
  refine pfun_intro Try.func116 rfl (by simp [Try.f116]) (by kernel_rfl) ?_
  intro E hP hr hs hW hN
  simp -dsimp -implicitDefEqProofs [-getElem?_pos, go_sem, hP]
  obtain ⟨I, hI⟩ : ∃ I : Nat → St → Prop, I = fun m s => ∃ (k : Nat) (p : Int), k ≤ l.length ∧ m = l.length - k ∧ ascB 0 l = ascB p (l.drop k) ∧ (k = 0 → p = 0) ∧ (∀ j x, k = j + 1 → l[j]? = some x → p = x) ∧ s.t 0 = numsL l ∧ s.t 5 = numsL l ∧ s.t 6 = iv l.length ∧ s.t 7 = iv k := ⟨_, rfl⟩
  refine aloop0 I (l.length) (by rw [hN]; rfl) ?_ ?_
  · rw [hI]
    exact ⟨0, 0, by omega, by omega, by simp, by simp, by omega, by simp -dsimp -implicitDefEqProofs [-getElem?_pos, go_sem], by simp -dsimp -implicitDefEqProofs [-getElem?_pos, go_sem], by simp -dsimp -implicitDefEqProofs [-getElem?_pos, go_sem], by simp -dsimp -implicitDefEqProofs [-getElem?_pos, go_sem]⟩
  intro m s hs'
  rw [hI] at hs'
  obtain ⟨k, p, hk, hm, hasc, hp0, hp1, t0, t5, t6, t7⟩ := hs'
  simp -dsimp -implicitDefEqProofs [-getElem?_pos, go_sem, hP, t6, t7]
  refine condP (fun h => ?_) (fun h => ?_)
  · have hk : k < l.length := by simpa using h
    obtain ⟨x, hx⟩ : ∃ x, l[k]? = some x := ⟨_, List.getElem?_eq_getElem hk⟩
    have wk := wrap_in ((k : Int) + 1) (by omega)
    have hdr : l.drop k = x :: l.drop (k + 1) := by
      obtain ⟨h2, h3⟩ := List.getElem?_eq_some_iff.1 hx
      rw [List.drop_eq_getElem_cons h2, h3]
    rw [hdr, ascB] at hasc
    have fin : ∀ s' : St, (amongB x 1 1000 && decide (p < x)) = true → s'.t 0 = s.t 0 → s'.t 5 = s.t 5 → s'.t 6 = s.t 6 → s'.t 7 = iv ((k : Int) + 1) → ∃ n', n' < m ∧ I n' s' := fun s' hc e0 e5 e6 e7 => by
      refine ⟨l.length - (k + 1), by omega, ?_⟩
      rw [hI]
      simp only [Bool.and_eq_true] at hc
      refine ⟨k + 1, x, by omega, rfl, by rw [hasc, hc.1, hc.2]; simp, by omega, fun j y hj hy => ?_, by rw [e0, t0], by rw [e5, t5], by rw [e6, t6], by rw [e7]; simp⟩
      have : j = k := by omega
      subst this
      rw [hx] at hy
      exact Option.some.inj hy
    have bad : (amongB x 1 1000 && decide (p < x)) = false → numB l = false := fun h => by
      rw [numB, hasc, ← Bool.and_assoc (amongB _ _ _), h]; simp
    simp -dsimp -implicitDefEqProofs [-getElem?_pos, go_sem, hP, t5, t7, hx, encI]
    refine callB_pure (among_pf x 1 1000) hP en_127 (args_same (by simp -dsimp -implicitDefEqProofs [-getElem?_pos, go_sem])) .sc ?_
    by_cases c1 : amongB x 1 1000 = true
    rotate_left
    · have : numB l = false := bad (by simp [c1])
      simp -dsimp -implicitDefEqProofs [-getElem?_pos, go_sem, hP, c1, this]
    rcases Nat.eq_zero_or_pos k with hk0 | hkp
    · have d1 : decide (0 < k) = false := decide_eq_false (by omega)
      simp -dsimp -implicitDefEqProofs [-getElem?_pos, go_sem, hP, c1, d1, t7, wk]
      exact fin _ (by have := hp0 hk0; have := amongB_iff.1 c1; simp [c1]; omega) (by simp -dsimp -implicitDefEqProofs [-getElem?_pos, go_sem]) (by simp -dsimp -implicitDefEqProofs [-getElem?_pos, go_sem]) (by simp -dsimp -implicitDefEqProofs [-getElem?_pos, go_sem]) (by simp -dsimp -implicitDefEqProofs [-getElem?_pos, go_sem])
    · obtain ⟨j, rfl⟩ : ∃ j, k = j + 1 := ⟨k - 1, by omega⟩
      obtain ⟨y, hy⟩ : ∃ y, l[j]? = some y := ⟨_, List.getElem?_eq_getElem (by omega)⟩
      have d1 : decide ((0 : Int) < (j : Int) + 1) = true := decide_eq_true (by omega)
      have wj := wrap_in ((j : Int) + 1 - 1) (by omega)
      rw [Int.add_sub_cancel] at wj
      have hpy := hp1 j y rfl hy
      have wk' := wrap_in ((j : Int) + 1 + 1) (by omega)
      by_cases c3 : x ≤ y
      · have : numB l = false := bad (by simp [c1]; omega)
        simp -dsimp -implicitDefEqProofs [-getElem?_pos, go_sem, hP, c1, d1, t0, Int.add_sub_cancel, wj, hy, encI, c3, this]
      · simp -dsimp -implicitDefEqProofs [-getElem?_pos, go_sem, hP, c1, d1, t0, Int.add_sub_cancel, wj, hy, encI, c3, t7, wk']
        exact fin _ (by simp [c1]; omega) (by simp -dsimp -implicitDefEqProofs [-getElem?_pos, go_sem]) (by simp -dsimp -implicitDefEqProofs [-getElem?_pos, go_sem]) (by simp -dsimp -implicitDefEqProofs [-getElem?_pos, go_sem]) (by simp -dsimp -implicitDefEqProofs [-getElem?_pos, go_sem])
  · have hk : k = l.length := by simp at h; omega
    subst hk
    rw [List.drop_length] at hasc
    have hasc : ascB 0 l = true := hasc
    cases l with
    | nil => simp -dsimp -implicitDefEqProofs [-getElem?_pos, go_sem, hP, t0, numB]
    | cons x l =>
      have : numB (x :: l) = decide (x = 1) := by rw [numB, hasc]; simp
      simp -dsimp -implicitDefEqProofs [-getElem?_pos, go_sem, hP, t0, this, encI]

/-- A teller. -/
structure Teller (H : Heap) (p q : Nat) (credit n d : Int) (l : List TSub) : Prop where
  ne : p ≠ q
  obj : H[p]? = some (some ⟨162, 4, [[iv credit, iv n, iv d, .sref q 0 l.length]]⟩)
  subs : H[q]? = some (some ⟨96, 2, encL TSub.cells l⟩)
theorem Teller.kept {H H' : Heap} {p q : Nat} {credit n d : Int} {l : List TSub} {X : List Nat} (h : Teller H p q credit n d l) (hk : Kept X H H') (hp : p ∉ X) (hq : q ∉ X) : Teller H' p q credit n d l :=
  ⟨h.ne, hk _ _ hp h.obj, hk _ _ hq h.subs⟩
theorem Teller.ltp {H : Heap} {p q : Nat} {credit n d : Int} {l : List TSub} (h : Teller H p q credit n d l) : p < H.length := (List.getElem?_eq_some_iff.1 h.obj).1
theorem Teller.ltq {H : Heap} {p q : Nat} {credit n d : Int} {l : List TSub} (h : Teller H p q credit n d l) : q < H.length := (List.getElem?_eq_some_iff.1 h.subs).1

theorem isid_m {row src : Option Nat} (g : FuncId) (fn : Func) (hg : True) (a : TSub) (H : Heap) (b : Nat) (id : Int) (hb : H[b]? = some (some ⟨3, 1, [[iv id]]⟩)) :
    MFun Try.prog row src 135 [.agg a.cells, .ref b 0 0] H (fun r H' => r = bv (decide (a.ID = id)) ∧ Kept [] H H') := by
  refine mfun_intro Try.func135 rfl (by simp [Try.f135]) (by kernel_rfl) (⟨_, H, rfl, kept_refl _ _⟩) ?_
  intro E hP hr hs hN
  have hlt := (List.getElem?_eq_some_iff.1 hb).1
  simp -dsimp -implicitDefEqProofs [-getElem?_pos, go_sem, hP, TSub.cells, hb, hlt]
  exact kept_push _ (kept_refl _ _)

theorem place_m {row src : Option Nat} {H : Heap} {p q : Nat} {credit n d : Int} {l : List TSub} (h : Teller H p q credit n d l) (hl : l.length ≤ 100000) (id : Int) :
    MFun Try.prog row src 133 [.ref p 0 0, iv id] H (fun r H' => r = iv (placeI l id) ∧ Kept [] H H') := by
  refine mfun_intro Try.func133 rfl (by simp [Try.f133]) (by kernel_rfl) (⟨_, H, rfl, kept_refl _ _⟩) ?_
  intro E hP hr hs hN
  have ho := h.obj
  have hlt := h.ltp
  simp -dsimp -implicitDefEqProofs [-getElem?_pos, go_sem, hP, ho, hlt]
  refine callB_m (by rw [hr, hs]; exact index_m_sub l (.sref q 0 l.length) _ 135 [.ref H.length 0 0] (fun s => decide (s.ID = id)) (.inr (.inr ⟨q, 96, by rw [encL_len], by rw [List.getElem?_append_left h.ltq]; exact h.subs⟩)) (by omega) en_135 (fun a _ H' hk => isid_m 0 default trivial a H' _ id (hk _ _ (by simp) (by simp)))) hP en_134 ?_
  rintro r H' ⟨rfl, hk⟩
  simp -dsimp -implicitDefEqProofs [-getElem?_pos, go_sem, hP]
  exact ⟨rfl, (kept_push _ (kept_refl _ _)).trans hk⟩

theorem known_m {row src : Option Nat} {H : Heap} {p q : Nat} {credit n d : Int} {l : List TSub} (h : Teller H p q credit n d l) (hl : l.length ≤ 100000) (id : Int) :
    MFun Try.prog row src 131 [.ref p 0 0, iv id] H (fun r H' => r = bv (knownB l id) ∧ Kept [] H H') := by
  refine mfun_intro Try.func131 rfl (by simp [Try.f131]) (by kernel_rfl) (⟨_, H, rfl, kept_refl _ _⟩) ?_
  intro E hP hr hs hN
  by_cases h0 : id = 0
  · have d0 : decide (id = 0) = true := decide_eq_true h0
    simp -dsimp -implicitDefEqProofs [-getElem?_pos, go_sem, hP, d0, knownB]
    exact kept_refl _ _
  · simp -dsimp -implicitDefEqProofs [-getElem?_pos, go_sem, hP, h0, knownB]
    refine callB_m (by rw [hr, hs]; exact place_m h hl id) hP en_133 ?_
    rintro r H' ⟨rfl, hk⟩
    simp -dsimp -implicitDefEqProofs [-getElem?_pos, go_sem, hP, h0, knownB]
    exact hk

theorem agree_two {H H' : Heap} {X : List Nat} {p q : Nat} {o o' : AObj} (hk : Kept X H H') (hp : H[p]? = some (some o)) (hq : H[q]? = some (some o')) (np : p ∉ X) (nq : q ∉ X) : Agree (fun i => decide (i = p) || decide (i = q)) H H' := fun i hi => by
  simp only [Bool.or_eq_true, decide_eq_true_eq] at hi
  rcases hi with rfl | rfl
  · rw [hp, hk _ _ np hp]
  · rw [hq, hk _ _ nq hq]

theorem add_m {row src : Option Nat} {H : Heap} {p q : Nat} {credit n d : Int} {l : List TSub} (h : Teller H p q credit n d l) (hl : l.length ≤ 100000) (hc : 0 ≤ credit ∧ credit ≤ 1000000000000) (hn : (ids l).Nodup) (h0 : 0 ∉ ids l) (hok : okAll credit l = true)
    (id amt : Int) (hid : id = 0 ∨ id ∈ ids l) (ham : -1000000000000 ≤ amt ∧ amt ≤ 1000000000000) :
    MFun Try.prog row src 132 [.ref p 0 0, iv id, iv amt] H (fun r H' => r = bv (okAt credit (adj l id amt) id) ∧ Teller H' p q credit n d (adj l id amt) ∧ Kept [q] H H') := by
  have hadj : (adj l id amt).length = l.length := adj_len _ _ _
  refine mfun_intro Try.func132 rfl (by simp [Try.f132]) (by kernel_rfl) (⟨_, H.set q (some ⟨96, 2, encL TSub.cells (adj l id amt)⟩), rfl, ⟨h.ne, by rw [List.getElem?_set_ne h.ne.symm, hadj]; exact h.obj, by rw [List.getElem?_set_self h.ltq]⟩, kept_set _ (by simp) (kept_refl _ _)⟩) ?_
  intro E hP hr hs hN
  by_cases hz : id = 0
  · subst hz
    have e1 : adj l 0 amt = l := adj_none h0
    have e2 : okAt credit l 0 = true := okAt_none h0
    simp -dsimp -implicitDefEqProofs [-getElem?_pos, go_sem, hP, e1, e2]
    exact ⟨h, kept_refl _ _⟩
  have hm : id ∈ ids l := hid.resolve_left hz
  have ho := h.obj
  have hlt := h.ltp
  rcases placeI_spec l id with ⟨_, h2⟩ | ⟨i, a, hi, ha, hp, _⟩
  · exact absurd hm h2
  simp -dsimp -implicitDefEqProofs [-getElem?_pos, go_sem, hP, hz, ho, hlt]
  have hq := h.subs
  refine adrawB (fun i => decide (i = p) || decide (i = q)) [] hP (by kernel_rfl) (by kernel_rfl) ?_
  simp -dsimp -implicitDefEqProofs [-getElem?_pos, go_sem, hP, ho, hlt, restr_get]
  refine callB_m (by rw [hr, hs]; exact place_m h hl id) hP en_133 ?_
  rintro r H' ⟨rfl, hk⟩
  simp -dsimp -implicitDefEqProofs [-getElem?_pos, go_sem, hP, hp]
  have h' := h.kept hk (by simp) (by simp)
  have ho' := h'.obj
  have hq' := h'.subs
  have hil := (List.getElem?_eq_some_iff.1 hi).1
  have hlq := h'.ltq
  have hlp := h'.ltp
  have hne : ¬ q = p := fun e => h.ne e.symm
  have bnd := okSub_bounds hc (List.all_eq_true.1 hok a (List.mem_of_getElem? hi))
  have wa := wrap_in (a.Balance + amt) (by omega)
  have set1 : (encL TSub.cells l).set i [iv a.ID, iv (a.Balance + amt)] = encL TSub.cells (adj l id amt) := by
    rw [← ha, ← set_adj hn hi, ← encL_set]
    rfl
  have g1 : (adj l id amt)[i]? = some ⟨a.ID, a.Balance + amt⟩ := by rw [adj_get, hi, ← ha]; simp
  have o1 : okAt credit (adj l id amt) id = okSub credit ⟨a.ID, a.Balance + amt⟩ := by
    rw [← ha] at g1 ⊢
    exact okAt_get (by rw [adj_ids]; exact hn) g1
  have fin : ∀ H'', Kept [] (H'.set q (some ⟨96, 2, encL TSub.cells (adj l id amt)⟩)) H'' → Teller H'' p q credit n d (adj l id amt) ∧ Kept [q] H H'' := fun H'' hk2 => by
    have t : Teller (H'.set q (some ⟨96, 2, encL TSub.cells (adj l id amt)⟩)) p q credit n d (adj l id amt) := ⟨h.ne, by rw [List.getElem?_set_ne h.ne.symm, hadj]; exact ho', by rw [List.getElem?_set_self hlq]⟩
    exact ⟨t.kept hk2 (by simp) (by simp), (kept_set _ (by simp) (hk.mono (by simp))).trans (hk2.mono (by simp))⟩
  simp -dsimp -implicitDefEqProofs [-getElem?_pos, go_sem, hP, hz, restr_get, hq', hil]
  refine ⟨agree_two hk ho hq (by simp) (by simp), ?_⟩
  by_cases h1 : id = 1
  · have d1 : decide (id = 1) = true := decide_eq_true h1
    have wn := wrap_in (-credit) (by omega)
    simp -dsimp -implicitDefEqProofs [-getElem?_pos, go_sem, hP, hp, hil, hq', hi, TSub.cells, wa, hlq, set1, d1, ho', hne, hlp, wn, g1]
    refine callB_pure (among_pf (a.Balance + amt) (-credit) 1000000000000000) hP en_127 (args_same (by simp -dsimp -implicitDefEqProofs [-getElem?_pos, go_sem])) .sc ?_
    simp -dsimp -implicitDefEqProofs [-getElem?_pos, go_sem, hP]
    refine ⟨?_, fin _ (kept_refl _ _)⟩
    rw [o1]
    simp [okSub, amongB, ha, h1]
  · simp -dsimp -implicitDefEqProofs [-getElem?_pos, go_sem, hP, hp, hil, hq', hi, TSub.cells, wa, hlq, set1, h1, g1]
    refine callB_pure (among_pf (a.Balance + amt) 0 1000000000000000) hP en_127 (args_same (by simp -dsimp -implicitDefEqProofs [-getElem?_pos, go_sem])) .sc ?_
    simp -dsimp -implicitDefEqProofs [-getElem?_pos, go_sem, hP]
    refine ⟨?_, fin _ (kept_refl _ _)⟩
    rw [o1]
    simp [okSub, amongB, ha, h1]

set_option maxHeartbeats 1000000 in
theorem tpost_m {row src : Option Nat} {H : Heap} {p q : Nat} {credit n d : Int} {l : List TSub} (h : Teller H p q credit n d l) (hl : l.length ≤ 100000) (hc : 0 ≤ credit ∧ credit ≤ 1000000000000) (hn : (ids l).Nodup) (h0 : 0 ∉ ids l) (hok : okAll credit l = true)
    (hnn : 0 ≤ n ∧ n ≤ 100000) (e : TEntry) :
    MFun Try.prog row src 129 [.ref p 0 0, .agg e.cells] H (fun r H' => r = iv (postS credit n d l e).1 ∧ ((postS credit n d l e).1 = 0 → Teller H' p q credit e.Number e.Day (postS credit n d l e).2) ∧ Kept [p, q] H H') := by
  have post : ∃ r H', r = iv (postS credit n d l e).1 ∧ ((postS credit n d l e).1 = 0 → Teller H' p q credit e.Number e.Day (postS credit n d l e).2) ∧ Kept [p, q] H H' :=
    ⟨_, (H.set q (some ⟨96, 2, encL TSub.cells (postS credit n d l e).2⟩)).set p (some ⟨162, 4, [[iv credit, iv e.Number, iv e.Day, .sref q 0 (postS credit n d l e).2.length]]⟩), rfl, fun _ => ⟨h.ne, by rw [List.getElem?_set_self (by simp; exact h.ltp)], by rw [List.getElem?_set_ne h.ne, List.getElem?_set_self h.ltq]⟩, kept_set _ (by simp) (kept_set _ (by simp) (kept_refl _ _))⟩
  obtain ⟨C, hC⟩ : ∃ C : AV → Heap → Prop, C = fun r H' => r = iv (postS credit n d l e).1 ∧ ((postS credit n d l e).1 = 0 → Teller H' p q credit e.Number e.Day (postS credit n d l e).2) ∧ Kept [p, q] H H' := ⟨_, rfl⟩
  rw [← hC]
  have post : ∃ r H', C r H' := hC ▸ post
  refine mfun_intro Try.func129 rfl (by simp [Try.f129]) (by kernel_rfl) (post) ?_
  intro E hP hr hs hN
  have ho := h.obj
  have hlt := h.ltp
  have wn := wrap_in (n + 1) (by omega)
  have bad : ∀ (c : Int) (H'' : Heap), (postS credit n d l e).1 = c → c ≠ 0 → Kept [p, q] H H'' → C (iv c) H'' := fun c H'' h1 h2 h3 => by
    rw [hC]
    exact ⟨by rw [h1], fun h4 => absurd (h1.symm.trans h4) h2, h3⟩
  have kb := kept_push (X := [p, q]) (some ⟨139, 6, [[iv e.Number, iv e.Day, iv e.From, iv e.To, iv e.Amount, iv e.Ref]]⟩) (kept_refl [p, q] H)
  have hB : Teller (H ++ [some ⟨139, 6, [[iv e.Number, iv e.Day, iv e.From, iv e.To, iv e.Amount, iv e.Ref]]⟩]) p q credit n d l := h.kept (X := []) (kept_push _ (kept_refl _ _)) (by simp) (by simp)
  simp -dsimp -implicitDefEqProofs [-getElem?_pos, go_sem, hP, cE]
  refine adrawB (fun _ => true) [] hP (by kernel_rfl) (by kernel_rfl) ?_
  simp -dsimp -implicitDefEqProofs [-getElem?_pos, go_sem, hP, ho, hlt, wn]
  by_cases c1 : e.Number = n + 1
  rotate_left
  · have b1 : badNum n e = true := by simp [badNum, c1]
    simp -dsimp -implicitDefEqProofs [-getElem?_pos, go_sem, hP, c1]
    exact bad 65 _ (by rw [postS, if_pos b1]) (by omega) kb
  have b1 : ¬ badNum n e = true := by simp [badNum, c1]
  have d1 : decide (e.Number = n + 1) = true := decide_eq_true c1
  simp -dsimp -implicitDefEqProofs [-getElem?_pos, go_sem, hP, d1]
  refine adrawB (fun _ => true) [] hP (by kernel_rfl) (by kernel_rfl) ?_
  simp -dsimp -implicitDefEqProofs [-getElem?_pos, go_sem, hP, ho, hlt]
  refine callB_pure (among_pf e.Day d 36000) hP en_127 (args_same (by simp -dsimp -implicitDefEqProofs [-getElem?_pos, go_sem])) .sc ?_
  by_cases c2 : amongB e.Day d 36000 = true
  rotate_left
  · have b2 : badDay d e = true := by simp [badDay, c2]
    simp -dsimp -implicitDefEqProofs [-getElem?_pos, go_sem, hP, c2, agree_refl]
    exact bad 8 _ (by rw [postS, if_neg b1, if_pos b2]) (by omega) kb
  have b2 : ¬ badDay d e = true := by simp [badDay, c2]
  simp -dsimp -implicitDefEqProofs [-getElem?_pos, go_sem, hP, c2, agree_refl]
  refine callB_pure (positive_pf e.Amount) hP en_130 (args_same (by simp -dsimp -implicitDefEqProofs [-getElem?_pos, go_sem])) .sc ?_
  by_cases c3 : (decide (0 < e.Amount) && vB e.Amount) = true
  rotate_left
  · have b3 : badAmt e = true := by simp [badAmt, c3]
    have c3 : (decide (0 < e.Amount) && vB e.Amount) = false := by simpa using c3
    simp -dsimp -implicitDefEqProofs [-getElem?_pos, go_sem, hP, c3]
    exact bad 2 _ (by rw [postS, if_neg b1, if_neg b2, if_pos b3]) (by omega) kb
  simp -dsimp -implicitDefEqProofs [-getElem?_pos, go_sem, hP, c3]
  refine callB_pure (among_pf e.Ref 0 1000000) hP en_127 (args_same (by simp -dsimp -implicitDefEqProofs [-getElem?_pos, go_sem])) .sc ?_
  by_cases c4 : amongB e.Ref 0 1000000 = true
  rotate_left
  · have b3 : badAmt e = true := by simp [badAmt, c4]
    simp -dsimp -implicitDefEqProofs [-getElem?_pos, go_sem, hP, c3, c4]
    exact bad 2 _ (by rw [postS, if_neg b1, if_neg b2, if_pos b3]) (by omega) kb
  have b3 : ¬ badAmt e = true := by simp [badAmt, c3, c4]
  have am : 0 < e.Amount ∧ e.Amount ≤ 1000000000000 := by
    simp only [Bool.and_eq_true, decide_eq_true_eq, vB, amongB_iff] at c3
    omega
  have p60 : badSub l e = true → (postS credit n d l e).1 = 60 := fun h => by rw [postS, if_neg b1, if_neg b2, if_neg b3, if_pos h]
  simp -dsimp -implicitDefEqProofs [-getElem?_pos, go_sem, hP, c3, c4]
  by_cases c5 : e.From = e.To
  · have d5 : decide (e.From = e.To) = true := decide_eq_true c5
    simp -dsimp -implicitDefEqProofs [-getElem?_pos, go_sem, hP, d5]
    exact bad 60 _ (p60 (by simp [badSub, c5])) (by omega) kb
  simp -dsimp -implicitDefEqProofs [-getElem?_pos, go_sem, hP, c5]
  refine callB_m (by rw [hr, hs]; exact known_m hB hl e.From) hP en_131 ?_
  rintro r H1 ⟨rfl, hk1⟩
  have h1 := hB.kept hk1 (by simp) (by simp)
  have o1 := hk1 H.length ⟨139, 6, [[iv e.Number, iv e.Day, iv e.From, iv e.To, iv e.Amount, iv e.Ref]]⟩ (by simp) (by simp)
  have l1 := (List.getElem?_eq_some_iff.1 o1).1
  by_cases c6 : knownB l e.From = true
  rotate_left
  · simp -dsimp -implicitDefEqProofs [-getElem?_pos, go_sem, hP, c5, c6]
    exact bad 60 _ (p60 (by simp [badSub, c6])) (by omega) (kb.trans (hk1.mono (by simp)))
  simp -dsimp -implicitDefEqProofs [-getElem?_pos, go_sem, hP, c5, c6, o1, l1]
  refine callB_m (by rw [hr, hs]; exact known_m h1 hl e.To) hP en_131 ?_
  rintro r H2 ⟨rfl, hk2⟩
  have h2 := h1.kept hk2 (by simp) (by simp)
  have o2 := hk2 _ _ (by simp) o1
  have l2 := (List.getElem?_eq_some_iff.1 o2).1
  have k2 := kb.trans ((hk1.trans hk2).mono (Y := [p, q]) (by simp))
  by_cases c7 : knownB l e.To = true
  rotate_left
  · simp -dsimp -implicitDefEqProofs [-getElem?_pos, go_sem, hP, c5, c6, c7]
    exact bad 60 _ (p60 (by simp [badSub, c7])) (by omega) k2
  have b4 : ¬ badSub l e = true := by simp [badSub, c5, c6, c7]
  have pS : postS credit n d l e = if okAt credit (adj l e.From (-e.Amount)) e.From = false then (61, adj l e.From (-e.Amount)) else
      if okAt credit (adj (adj l e.From (-e.Amount)) e.To e.Amount) e.To = false then (61, adj (adj l e.From (-e.Amount)) e.To e.Amount) else (0, adj (adj l e.From (-e.Amount)) e.To e.Amount) := by
    rw [postS, if_neg b1, if_neg b2, if_neg b3, if_neg b4]
  have wa := wrap_in (-e.Amount) (by omega)
  simp -dsimp -implicitDefEqProofs [-getElem?_pos, go_sem, hP, c5, c6, c7, o2, l2, wa]
  refine callB_m (by rw [hr, hs]; exact add_m h2 hl hc hn h0 hok e.From (-e.Amount) ((knownB_iff _ _).1 c6) (by omega)) hP en_132 ?_
  rintro r H3 ⟨rfl, h3, hk3⟩
  have nq : ¬ H.length = q := by have := h.ltq; omega
  have np : ¬ H.length = p := by have := h.ltp; omega
  have o3 := hk3 _ _ (by simp [nq]) o2
  have l3 := (List.getElem?_eq_some_iff.1 o3).1
  have k3 := k2.trans (hk3.mono (Y := [p, q]) (by simp))
  by_cases c8 : okAt credit (adj l e.From (-e.Amount)) e.From = true
  rotate_left
  · have c8 : okAt credit (adj l e.From (-e.Amount)) e.From = false := by simpa using c8
    simp -dsimp -implicitDefEqProofs [-getElem?_pos, go_sem, hP, c8]
    exact bad 61 _ (by rw [pS, if_pos c8]) (by omega) k3
  rw [if_neg (by simp [c8])] at pS
  simp -dsimp -implicitDefEqProofs [-getElem?_pos, go_sem, hP, c8, o3, l3]
  refine callB_m (by rw [hr, hs]; exact add_m h3 (by rw [adj_len]; omega) hc (by rw [adj_ids]; exact hn) (by rw [adj_ids]; exact h0) (okAll_adj hok c8) e.To e.Amount (by rw [adj_ids]; exact (knownB_iff _ _).1 c7) (by omega)) hP en_132 ?_
  rintro r H4 ⟨rfl, h4, hk4⟩
  have o4 := hk4 _ _ (by simp [nq]) o3
  have l4 := (List.getElem?_eq_some_iff.1 o4).1
  have k4 := k3.trans (hk4.mono (Y := [p, q]) (by simp))
  by_cases c9 : okAt credit (adj (adj l e.From (-e.Amount)) e.To e.Amount) e.To = true
  rotate_left
  · have c9 : okAt credit (adj (adj l e.From (-e.Amount)) e.To e.Amount) e.To = false := by simpa using c9
    simp -dsimp -implicitDefEqProofs [-getElem?_pos, go_sem, hP, c8, c9]
    exact bad 61 _ (by rw [pS, if_pos c9]) (by omega) k4
  rw [if_neg (by simp [c9])] at pS
  have ho4 := h4.obj
  have hp4 := h4.ltp
  simp -dsimp -implicitDefEqProofs [-getElem?_pos, go_sem, hP, c8, c9]
  refine adrawB (fun i => decide (i = H.length)) [6, 7, 9, 10, 11] hP (by kernel_rfl) (by kernel_rfl) ?_
  simp -dsimp -implicitDefEqProofs [-getElem?_pos, go_sem, hP, o4, l4, ho4, hp4]
  refine ⟨fun i hi => ?_, ?_⟩
  · simp only [decide_eq_true_eq] at hi
    subst hi
    rw [List.getElem?_set_ne (Ne.symm np)]
  rw [hC, pS]
  refine ⟨rfl, fun _ => ⟨h.ne, by rw [List.getElem?_set_self hp4], by rw [List.getElem?_set_ne h.ne]; exact h4.subs⟩, kept_set _ (by simp) k4⟩

set_option maxHeartbeats 1000000 in
theorem fresh_m {row src : Option Nat} (a : TAccount) (H : Heap) (hl : a.Subs.length ≤ 100000) (hne : a.Subs ≠ []) :
    MFun Try.prog row src 128 [.agg a.cells] H (fun r H' => ∃ p q, r = .ref p 0 0 ∧ H.length ≤ p ∧ H.length ≤ q ∧ Teller H' p q a.Credit 0 0 (zeroS a.Subs) ∧ Kept [] H H') := by
  obtain ⟨C, hC⟩ : ∃ C : AV → Heap → Prop, C = fun r H' => ∃ p q, r = .ref p 0 0 ∧ H.length ≤ p ∧ H.length ≤ q ∧ Teller H' p q a.Credit 0 0 (zeroS a.Subs) ∧ Kept [] H H' := ⟨_, rfl⟩
  rw [← hC]
  have ex : ∃ r H', C r H' := ⟨.ref H.length 0 0, H ++ [some ⟨162, 4, [[iv a.Credit, iv 0, iv 0, .sref (H.length + 1) 0 (zeroS a.Subs).length]]⟩, some ⟨96, 2, encL TSub.cells (zeroS a.Subs)⟩], by
    rw [hC]
    exact ⟨H.length, H.length + 1, rfl, Nat.le_refl _, by omega, ⟨by omega, by simp, by rw [List.getElem?_append_right (by omega)]; simp⟩, kept_app _ _ _⟩⟩
  refine mfun_intro Try.func128 rfl (by simp [Try.f128]) (by kernel_rfl) (ex) ?_
  intro E hP hr hs hN
  simp -dsimp -implicitDefEqProofs [-getElem?_pos, go_sem, hP, cA]
  obtain ⟨I, hI⟩ : ∃ I : Nat → St → Prop, I = fun m s => ∃ (k : Nat) (x : AV), k ≤ a.Subs.length ∧ m = a.Subs.length - k ∧ s.t 3 = .ref (H.length + 1) 0 0 ∧ s.t 11 = subsL a.Subs ∧ s.t 12 = iv a.Subs.length ∧ s.t 13 = iv k ∧ s.H[H.length + 1]? = some (some ⟨162, 4, [[iv a.Credit, iv 0, iv 0, x]]⟩) ∧ Grown (H.length + 2) s.H x 96 2 (encL TSub.cells (zeroS (a.Subs.take k))) ∧ Kept [] H s.H := ⟨_, rfl⟩
  refine aloop0 I (a.Subs.length) (by rw [hN]; rfl) ?_ ?_
  · rw [hI]
    exact ⟨0, .nil, by omega, by omega, by simp -dsimp -implicitDefEqProofs [-getElem?_pos, go_sem], by simp -dsimp -implicitDefEqProofs [-getElem?_pos, go_sem], by simp -dsimp -implicitDefEqProofs [-getElem?_pos, go_sem], by simp -dsimp -implicitDefEqProofs [-getElem?_pos, go_sem], by simp -dsimp -implicitDefEqProofs [-getElem?_pos, go_sem], .inl ⟨rfl, rfl⟩, by simp -dsimp -implicitDefEqProofs [-getElem?_pos, go_sem]; exact kept_app _ _ _⟩
  intro m s hs'
  rw [hI] at hs'
  obtain ⟨k, x, hk, hm, t3, t11, t12, t13, h1, hg, hK⟩ := hs'
  have lt1 := (List.getElem?_eq_some_iff.1 h1).1
  simp -dsimp -implicitDefEqProofs [-getElem?_pos, go_sem, hP, t12, t13]
  refine condP (fun h => ?_) (fun h => ?_)
  · have hk : k < a.Subs.length := by simpa using h
    obtain ⟨y, hy⟩ : ∃ y, a.Subs[k]? = some y := ⟨_, List.getElem?_eq_getElem hk⟩
    have wk := wrap_in ((k : Int) + 1) (by omega)
    have e1 : zeroS (a.Subs.take (k + 1)) = zeroS (a.Subs.take k) ++ [⟨y.ID, 0⟩] := by rw [List.take_add_one, hy]; simp [zeroS]
    have nl : (zeroS (a.Subs.take k)).length = k := by rw [zeroS_len, List.length_take]; omega
    simp -dsimp -implicitDefEqProofs [-getElem?_pos, go_sem, hP, t11, t13, hy, TSub.cells]
    rcases hg with ⟨rfl, hg⟩ | ⟨id, h2, rfl, hg⟩
    · refine adrawB (fun i => decide (i = H.length + 1) || decide (i = s.H.length)) [12] hP (by kernel_rfl) (by kernel_rfl) ?_
      simp -dsimp -implicitDefEqProofs [-getElem?_pos, go_sem, hP, t3, h1, lt1, t13, wk]
      refine ⟨fun i hi => ?_, a.Subs.length - (k + 1), by omega, ?_⟩
      · simp only [Bool.or_eq_true, decide_eq_true_eq] at hi
        rcases hi with rfl | rfl <;> simp [-getElem?_pos, List.getElem?_append, lt1] <;> rfl
      rw [hI]
      refine ⟨k + 1, .sref (s.H.length + 1) 0 1, by omega, rfl, by simp -dsimp -implicitDefEqProofs [-getElem?_pos, go_sem, t3], by simp -dsimp -implicitDefEqProofs [-getElem?_pos, go_sem, t11], by simp -dsimp -implicitDefEqProofs [-getElem?_pos, go_sem, t12], by simp -dsimp -implicitDefEqProofs [-getElem?_pos, go_sem], by simp -dsimp -implicitDefEqProofs [-getElem?_pos, go_sem, lt1], .inr ⟨s.H.length + 1, by omega, ?_, ?_⟩, ?_⟩
      · rw [e1, ← encL_snoc, hg]; rfl
      · rw [e1, ← encL_snoc, hg]
        simp -dsimp -implicitDefEqProofs [-getElem?_pos, go_sem, TSub.cells]
      · simp -dsimp -implicitDefEqProofs [-getElem?_pos, go_sem]
        exact (kept_new _ (by omega) hK).trans (kept_app _ _ _)
    · have ne1 : ¬ id = H.length + 1 := by omega
      have lti := (List.getElem?_eq_some_iff.1 hg).1
      have ne2 : ¬ id = s.H.length := by omega
      refine adrawB (fun i => decide (i = H.length + 1) || decide (i = s.H.length)) [12] hP (by kernel_rfl) (by kernel_rfl) ?_
      simp -dsimp -implicitDefEqProofs [-getElem?_pos, go_sem, hP, t3, h1, lt1, t13, wk, hg, lti, ne1, nl]
      refine ⟨by omega, by omega, fun i hi => ?_, a.Subs.length - (k + 1), by omega, ?_⟩
      · simp only [Bool.or_eq_true, decide_eq_true_eq] at hi
        rcases hi with rfl | rfl <;> simp [-getElem?_pos, List.getElem?_append, List.getElem?_set, lt1, ne1, ne2] <;> rfl
      rw [hI]
      refine ⟨k + 1, .sref (s.H.length + 1) 0 (k + 1), by omega, rfl, by simp -dsimp -implicitDefEqProofs [-getElem?_pos, go_sem, t3], by simp -dsimp -implicitDefEqProofs [-getElem?_pos, go_sem, t11], by simp -dsimp -implicitDefEqProofs [-getElem?_pos, go_sem, t12], by simp -dsimp -implicitDefEqProofs [-getElem?_pos, go_sem], by simp -dsimp -implicitDefEqProofs [-getElem?_pos, go_sem, lt1, ne1], .inr ⟨s.H.length + 1, by omega, ?_, ?_⟩, ?_⟩
      · rw [encL_len, zeroS_len, List.length_take]
        congr 1
        omega
      · rw [e1, ← encL_snoc]
        simp -dsimp -implicitDefEqProofs [-getElem?_pos, go_sem, TSub.cells]
      · simp -dsimp -implicitDefEqProofs [-getElem?_pos, go_sem]
        exact ((kept_new _ (by omega) (kept_new _ (by omega) hK)).trans (kept_app _ _ _))
  · have hk : k = a.Subs.length := by simp at h; omega
    subst hk
    rw [List.take_length] at hg
    simp -dsimp -implicitDefEqProofs [-getElem?_pos, go_sem, hP, t3]
    rw [hC]
    rcases hg with ⟨rfl, hg⟩ | ⟨id, h2, rfl, hg⟩
    · exfalso
      apply hne
      have := congrArg List.length hg
      rw [encL_len, zeroS_len] at this
      exact List.eq_nil_of_length_eq_zero this
    · exact ⟨H.length + 1, id, rfl, by omega, by omega, ⟨by omega, by rw [h1, encL_len], hg⟩, hK⟩

end Go.Proofs.Ytellcfkpfccgaaa