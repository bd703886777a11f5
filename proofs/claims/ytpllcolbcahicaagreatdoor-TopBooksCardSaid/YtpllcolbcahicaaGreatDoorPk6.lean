/- Several texts of this claim, joined: Acc6 Acc7 Acc8 AccNet LedEnt1 Bk1 PaMapK PaEnt Bk3 Cmp PaIns Ints Con1 PaSort Bk2 ShelfZ PaCut Con2. -/
import Derived.Test.YtpllcolbcahicaaGreatDoorPk5
import Derived.Lib.AppendZerosOnto
import Derived.Lib.Overlaps
import Derived.Laws.Externs
import Derived.Sort.Grow
import Derived.Lib.RowBridge
import Derived.Shelf.SlGeneric
import Derived.Ground.SlgmProg
import Derived.Ground.Names2Prog
import Derived.Shelf.SortM.Plain
import Derived.Shelf.SortM.SortNone
import Derived.Shelf.Slices.CompactI
import Derived.Test.YtpllcolbcahicaaGreatDoorProg
set_option linter.unusedSimpArgs false
set_option linter.unusedVariables false
namespace Go.Proofs.YtpllcolbcahicaaGreatDoor
open Go.PA
open Go.RowKit
theorem valid_pf (n : Int) : PFun Tryz.prog none none 48 [iv n] (· = bv (vB n)) := by
  refine pfun_intro Tryz.func48 rfl (by simp [Tryz.f48]) (by kernel_rfl) ?_
  intro E hP hr hs hW hN
  by_cases h1 : 0 ≤ n <;> by_cases h2 : n ≤ 1000000000000 <;> simp -dsimp -implicitDefEqProofs [-getElem?_pos, go_sem, hP, h1, h2, vB, amongB]
theorem among_pf (n lo hi : Int) : PFun Tryz.prog none none 80 [iv n, iv lo, iv hi] (· = bv (amongB n lo hi)) := by
  refine pfun_intro Tryz.func80 rfl (by simp [Tryz.f80]) (by kernel_rfl) ?_
  intro E hP hr hs hW hN
  by_cases h1 : lo ≤ n <;> by_cases h2 : n ≤ hi <;> simp -dsimp -implicitDefEqProofs [-getElem?_pos, go_sem, hP, h1, h2, amongB]
theorem positive_pf (n : Int) : PFun Tryz.prog none none 126 [iv n] (· = bv (decide (0 < n) && vB n)) := by
  refine pfun_intro Tryz.func126 rfl (by simp [Tryz.f126]) (by kernel_rfl) ?_
  intro E hP hr hs hW hN
  by_cases h1 : 0 < n
  · have d1 : decide (0 < n) = true := decide_eq_true h1
    simp -dsimp -implicitDefEqProofs [-getElem?_pos, go_sem, hP, d1]
    refine callB_pure (valid_pf n) hP en_48 (args_same (by simp -dsimp -implicitDefEqProofs [-getElem?_pos, go_sem])) .sc ?_
    simp -dsimp -implicitDefEqProofs [-getElem?_pos, go_sem, hP, d1]
  · simp -dsimp -implicitDefEqProofs [-getElem?_pos, go_sem, hP, h1]
theorem numbers_pf (l : List TSub) (hl : l.length ≤ 100000) : PFun Tryz.prog none none 50 [subsL l] (· = numsL (ids l)) := by
  refine pfun_intro Tryz.func50 rfl (by simp [Tryz.f50]) (by kernel_rfl) ?_
  intro E hP hr hs hW hN
  simp -dsimp -implicitDefEqProofs [-getElem?_pos, go_sem, hP]
  refine aloop_own 3 3 1 (by simp -dsimp -implicitDefEqProofs [-getElem?_pos, go_sem]) ?_
  obtain ⟨I, hI⟩ : ∃ I : Nat → St → Prop, I = fun m s => ∃ k id : Nat, k ≤ l.length ∧ m = l.length - k ∧ s.t 6 = subsL l ∧ s.t 7 = iv l.length ∧ s.t 8 = iv k ∧ s.t 3 = .sref id 0 k ∧ s.H[id]? = some (some ⟨3, 1, encL encI (ids (l.take k))⟩) := ⟨_, rfl⟩
  refine aloopF 3 hW I (l.length) (by rw [hN]; rfl) ?_ ?_
  · rw [hI]
    exact ⟨0, 0, by omega, by omega, by simp -dsimp -implicitDefEqProofs [-getElem?_pos, go_sem], by simp -dsimp -implicitDefEqProofs [-getElem?_pos, go_sem], by simp -dsimp -implicitDefEqProofs [-getElem?_pos, go_sem], by simp -dsimp -implicitDefEqProofs [-getElem?_pos, go_sem], by simp -dsimp -implicitDefEqProofs [-getElem?_pos, go_sem, ids]⟩
  intro m s hs'
  rw [hI] at hs'
  obtain ⟨k, id, hk, hm, t6, t7, t8, t3, hH⟩ := hs'
  have hlt := (List.getElem?_eq_some_iff.1 hH).1
  have hz : (ids (l.take k)).length = k := by rw [ids_len]; simp; omega
  simp -dsimp -implicitDefEqProofs [-getElem?_pos, go_sem, hP, t7, t8]
  refine condP (fun h => ?_) (fun h => ?_)
  · have hk : k < l.length := by simpa using h
    obtain ⟨a, ha⟩ : ∃ a, l[k]? = some a := ⟨_, List.getElem?_eq_getElem hk⟩
    have wk := wrap_in ((k : Int) + 1) (by omega)
    have e1 : ids (l.take (k + 1)) = ids (l.take k) ++ [a.ID] := by rw [List.take_add_one, ha]; simp [ids]
    simp -dsimp -implicitDefEqProofs [-getElem?_pos, go_sem, hP, t6, t8, t3, ha, TSub.cells, hH, hz, hlt, wk]
    refine ⟨by omega, by omega, ?_⟩
    refine ⟨l.length - (k + 1), by omega, ?_⟩
    rw [hI]
    exact ⟨k + 1, s.H.length + 1, by omega, rfl, by simp -dsimp -implicitDefEqProofs [-getElem?_pos, go_sem, t6], by simp -dsimp -implicitDefEqProofs [-getElem?_pos, go_sem, t7], by simp -dsimp -implicitDefEqProofs [-getElem?_pos, go_sem], by simp -dsimp -implicitDefEqProofs [-getElem?_pos, go_sem], by rw [e1, ← encL_snoc]; simp -dsimp -implicitDefEqProofs [-getElem?_pos, go_sem, encI]⟩
  · have hk : k = l.length := by simp at h; omega
    subst hk
    refine frz id _ 3 1 (encL encI (ids l)) t3 (by rw [hH, List.take_length]) (by rw [encL_len, ids_len]) (imm_nums _) ?_
    simp -dsimp -implicitDefEqProofs [-getElem?_pos, go_sem, hP]
    exact done_imm (imm_nums _) rfl
set_option maxHeartbeats 1000000 in
theorem numbered_pf (l : List Int) (hl : l.length ≤ 100000) : PFun Tryz.prog none none 49 [numsL l] (· = bv (numB l)) := by
  refine pfun_intro Tryz.func49 rfl (by simp [Tryz.f49]) (by kernel_rfl) ?_
  intro E hP hr hs hW hN
  simp -dsimp -implicitDefEqProofs [-getElem?_pos, go_sem, hP]
  obtain ⟨I, hI⟩ : ∃ I : Nat → St → Prop, I = fun m s => ∃ (k : Nat) (p : Int), k ≤ l.length ∧ m = l.length - k ∧ ascA 0 l = ascA p (l.drop k) ∧ (k = 0 → p = 0) ∧ (∀ j x, k = j + 1 → l[j]? = some x → p = x) ∧ s.t 0 = numsL l ∧ s.t 5 = numsL l ∧ s.t 6 = iv l.length ∧ s.t 7 = iv k := ⟨_, rfl⟩
  refine aloop0 I (l.length) (by rw [hN]; rfl) ?_ ?_
  · rw [hI]
    exact ⟨0, 0, by omega, by omega, by simp, by simp, by omega, by simp -dsimp -implicitDefEqProofs [-getElem?_pos, go_sem], by simp -dsimp -implicitDefEqProofs [-getElem?_pos, go_sem], by simp -dsimp -implicitDefEqProofs [-getElem?_pos, go_sem], by simp -dsimp -implicitDefEqProofs [-getElem?_pos, go_sem]⟩
  intro m s hs'
  rw [hI] at hs'
  obtain ⟨k, p, hk, hm, hasc, hp0, hp1, t0, t5, t6, t7⟩ := hs'
  simp -dsimp -implicitDefEqProofs [-getElem?_pos, go_sem, hP, t6, t7]
  refine condP (fun h => ?_) (fun h => ?_)
  · have hk : k < l.length := by simpa using h
    obtain ⟨x, hx⟩ : ∃ x, l[k]? = some x := ⟨_, List.getElem?_eq_getElem hk⟩
    have wk := wrap_in ((k : Int) + 1) (by omega)
    have hdr : l.drop k = x :: l.drop (k + 1) := by
      obtain ⟨h2, h3⟩ := List.getElem?_eq_some_iff.1 hx
      rw [List.drop_eq_getElem_cons h2, h3]
    rw [hdr, ascA] at hasc
    have fin : ∀ s' : St, (amongB x 1 1000 && decide (p < x)) = true → s'.t 0 = s.t 0 → s'.t 5 = s.t 5 → s'.t 6 = s.t 6 → s'.t 7 = iv ((k : Int) + 1) → ∃ n', n' < m ∧ I n' s' := fun s' hc e0 e5 e6 e7 => by
      refine ⟨l.length - (k + 1), by omega, ?_⟩
      rw [hI]
      simp only [Bool.and_eq_true] at hc
      refine ⟨k + 1, x, by omega, rfl, by rw [hasc, hc.1, hc.2]; simp, by omega, fun j y hj hy => ?_, by rw [e0, t0], by rw [e5, t5], by rw [e6, t6], by rw [e7]; simp⟩
      have : j = k := by omega
      subst this
      rw [hx] at hy
      exact Option.some.inj hy
    have bad : (amongB x 1 1000 && decide (p < x)) = false → numB l = false := fun h => by
      rw [numB, hasc, ← Bool.and_assoc (amongB _ _ _), h]; simp
    simp -dsimp -implicitDefEqProofs [-getElem?_pos, go_sem, hP, t5, t7, hx, encI]
    refine callB_pure (among_pf x 1 1000) hP en_80 (args_same (by simp -dsimp -implicitDefEqProofs [-getElem?_pos, go_sem])) .sc ?_
    by_cases c1 : amongB x 1 1000 = true
    rotate_left
    · have : numB l = false := bad (by simp [c1])
      simp -dsimp -implicitDefEqProofs [-getElem?_pos, go_sem, hP, c1, this]
    rcases Nat.eq_zero_or_pos k with hk0 | hkp
    · have d1 : decide (0 < k) = false := decide_eq_false (by omega)
      simp -dsimp -implicitDefEqProofs [-getElem?_pos, go_sem, hP, c1, d1, t7, wk]
      exact fin _ (by have := hp0 hk0; have := amongB_iff.1 c1; simp [c1]; omega) (by simp -dsimp -implicitDefEqProofs [-getElem?_pos, go_sem]) (by simp -dsimp -implicitDefEqProofs [-getElem?_pos, go_sem]) (by simp -dsimp -implicitDefEqProofs [-getElem?_pos, go_sem]) (by simp -dsimp -implicitDefEqProofs [-getElem?_pos, go_sem])
    · obtain ⟨j, rfl⟩ : ∃ j, k = j + 1 := ⟨k - 1, by omega⟩
      obtain ⟨y, hy⟩ : ∃ y, l[j]? = some y := ⟨_, List.getElem?_eq_getElem (by omega)⟩
      have d1 : decide ((0 : Int) < (j : Int) + 1) = true := decide_eq_true (by omega)
      have wj := wrap_in ((j : Int) + 1 - 1) (by omega)
      rw [Int.add_sub_cancel] at wj
      have hpy := hp1 j y rfl hy
      have wk' := wrap_in ((j : Int) + 1 + 1) (by omega)
      by_cases c3 : x ≤ y
      · have : numB l = false := bad (by simp [c1]; omega)
        simp -dsimp -implicitDefEqProofs [-getElem?_pos, go_sem, hP, c1, d1, t0, Int.add_sub_cancel, wj, hy, encI, c3, this]
      · simp -dsimp -implicitDefEqProofs [-getElem?_pos, go_sem, hP, c1, d1, t0, Int.add_sub_cancel, wj, hy, encI, c3, t7, wk']
        exact fin _ (by simp [c1]; omega) (by simp -dsimp -implicitDefEqProofs [-getElem?_pos, go_sem]) (by simp -dsimp -implicitDefEqProofs [-getElem?_pos, go_sem]) (by simp -dsimp -implicitDefEqProofs [-getElem?_pos, go_sem]) (by simp -dsimp -implicitDefEqProofs [-getElem?_pos, go_sem])
  · have hk : k = l.length := by simp at h; omega
    subst hk
    rw [List.drop_length] at hasc
    have hasc : ascA 0 l = true := hasc
    cases l with
    | nil => simp -dsimp -implicitDefEqProofs [-getElem?_pos, go_sem, hP, t0, numB]
    | cons x l =>
      have : numB (x :: l) = decide (x = 1) := by rw [numB, hasc]; simp
      simp -dsimp -implicitDefEqProofs [-getElem?_pos, go_sem, hP, t0, this, encI]
structure Teller (H : Heap) (p q : Nat) (credit n d : Int) (l : List TSub) : Prop where
  ne : p ≠ q
  obj : H[p]? = some (some ⟨135, 4, [[iv credit, iv n, iv d, .sref q 0 l.length]]⟩)
  subs : H[q]? = some (some ⟨96, 2, encL TSub.cells l⟩)
theorem Teller.kept {H H' : Heap} {p q : Nat} {credit n d : Int} {l : List TSub} {X : List Nat} (h : Teller H p q credit n d l) (hk : Kept X H H') (hp : p ∉ X) (hq : q ∉ X) : Teller H' p q credit n d l :=
  ⟨h.ne, hk _ _ hp h.obj, hk _ _ hq h.subs⟩
theorem Teller.ltp {H : Heap} {p q : Nat} {credit n d : Int} {l : List TSub} (h : Teller H p q credit n d l) : p < H.length := (List.getElem?_eq_some_iff.1 h.obj).1
theorem Teller.ltq {H : Heap} {p q : Nat} {credit n d : Int} {l : List TSub} (h : Teller H p q credit n d l) : q < H.length := (List.getElem?_eq_some_iff.1 h.subs).1
theorem isid_m {row src : Option Nat} (g : FuncId) (fn : Func) (hg : True) (a : TSub) (H : Heap) (b : Nat) (id : Int) (hb : H[b]? = some (some ⟨3, 1, [[iv id]]⟩)) :
    MFun Tryz.prog row src 208 [.agg a.cells, .ref b 0 0] H (fun r H' => r = bv (decide (a.ID = id)) ∧ Kept [] H H') := by
  refine mfun_intro Tryz.func208 rfl (by simp [Tryz.f208]) (by kernel_rfl) (⟨_, H, rfl, kept_refl _ _⟩) ?_
  intro E hP hr hs hN
  have hlt := (List.getElem?_eq_some_iff.1 hb).1
  simp -dsimp -implicitDefEqProofs [-getElem?_pos, go_sem, hP, TSub.cells, hb, hlt]
  exact kept_push _ (kept_refl _ _)
theorem place_m {row src : Option Nat} {H : Heap} {p q : Nat} {credit n d : Int} {l : List TSub} (h : Teller H p q credit n d l) (hl : l.length ≤ 100000) (id : Int) :
    MFun Tryz.prog row src 162 [.ref p 0 0, iv id] H (fun r H' => r = iv (placeI l id) ∧ Kept [] H H') := by
  refine mfun_intro Tryz.func162 rfl (by simp [Tryz.f162]) (by kernel_rfl) (⟨_, H, rfl, kept_refl _ _⟩) ?_
  intro E hP hr hs hN
  have ho := h.obj
  have hlt := h.ltp
  simp -dsimp -implicitDefEqProofs [-getElem?_pos, go_sem, hP, ho, hlt]
  refine callB_m (by rw [hr, hs]; exact index_m_sub l (.sref q 0 l.length) _ 208 [.ref H.length 0 0] (fun s => decide (s.ID = id)) (.inr (.inr ⟨q, 96, by rw [encL_len], by rw [List.getElem?_append_left h.ltq]; exact h.subs⟩)) (by omega) en_208 (fun a _ H' hk => isid_m 0 default trivial a H' _ id (hk _ _ (by simp) (by simp)))) hP en_207 ?_
  rintro r H' ⟨rfl, hk⟩
  simp -dsimp -implicitDefEqProofs [-getElem?_pos, go_sem, hP]
  exact ⟨rfl, (kept_push _ (kept_refl _ _)).trans hk⟩
theorem known_m {row src : Option Nat} {H : Heap} {p q : Nat} {credit n d : Int} {l : List TSub} (h : Teller H p q credit n d l) (hl : l.length ≤ 100000) (id : Int) :
    MFun Tryz.prog row src 127 [.ref p 0 0, iv id] H (fun r H' => r = bv (knownB l id) ∧ Kept [] H H') := by
  refine mfun_intro Tryz.func127 rfl (by simp [Tryz.f127]) (by kernel_rfl) (⟨_, H, rfl, kept_refl _ _⟩) ?_
  intro E hP hr hs hN
  by_cases h0 : id = 0
  · have d0 : decide (id = 0) = true := decide_eq_true h0
    simp -dsimp -implicitDefEqProofs [-getElem?_pos, go_sem, hP, d0, knownB]
    exact kept_refl _ _
  · simp -dsimp -implicitDefEqProofs [-getElem?_pos, go_sem, hP, h0, knownB]
    refine callB_m (by rw [hr, hs]; exact place_m h hl id) hP en_162 ?_
    rintro r H' ⟨rfl, hk⟩
    simp -dsimp -implicitDefEqProofs [-getElem?_pos, go_sem, hP, h0, knownB]
    exact hk
theorem agree_two {H H' : Heap} {X : List Nat} {p q : Nat} {o o' : AObj} (hk : Kept X H H') (hp : H[p]? = some (some o)) (hq : H[q]? = some (some o')) (np : p ∉ X) (nq : q ∉ X) : Agree (fun i => decide (i = p) || decide (i = q)) H H' := fun i hi => by
  simp only [Bool.or_eq_true, decide_eq_true_eq] at hi
  rcases hi with rfl | rfl
  · rw [hp, hk _ _ np hp]
  · rw [hq, hk _ _ nq hq]
theorem add_m {row src : Option Nat} {H : Heap} {p q : Nat} {credit n d : Int} {l : List TSub} (h : Teller H p q credit n d l) (hl : l.length ≤ 100000) (hc : 0 ≤ credit ∧ credit ≤ 1000000000000) (hn : (ids l).Nodup) (h0 : 0 ∉ ids l) (hok : okAll credit l = true)
    (id amt : Int) (hid : id = 0 ∨ id ∈ ids l) (ham : -1000000000000 ≤ amt ∧ amt ≤ 1000000000000) :
    MFun Tryz.prog row src 128 [.ref p 0 0, iv id, iv amt] H (fun r H' => r = bv (okAt credit (adj l id amt) id) ∧ Teller H' p q credit n d (adj l id amt) ∧ Kept [q] H H') := by
  have hadj : (adj l id amt).length = l.length := adj_len _ _ _
  refine mfun_intro Tryz.func128 rfl (by simp [Tryz.f128]) (by kernel_rfl) (⟨_, H.set q (some ⟨96, 2, encL TSub.cells (adj l id amt)⟩), rfl, ⟨h.ne, by rw [List.getElem?_set_ne h.ne.symm, hadj]; exact h.obj, by rw [List.getElem?_set_self h.ltq]⟩, kept_set _ (by simp) (kept_refl _ _)⟩) ?_
  intro E hP hr hs hN
  by_cases hz : id = 0
  · subst hz
    have e1 : adj l 0 amt = l := adj_none h0
    have e2 : okAt credit l 0 = true := okAt_none h0
    simp -dsimp -implicitDefEqProofs [-getElem?_pos, go_sem, hP, e1, e2]
    exact ⟨h, kept_refl _ _⟩
  have hm : id ∈ ids l := hid.resolve_left hz
  have ho := h.obj
  have hlt := h.ltp
  rcases placeI_spec l id with ⟨_, h2⟩ | ⟨i, a, hi, ha, hp, _⟩
  · exact absurd hm h2
  simp -dsimp -implicitDefEqProofs [-getElem?_pos, go_sem, hP, hz, ho, hlt]
  have hq := h.subs
  refine adrawB (fun i => decide (i = p) || decide (i = q)) [] hP (by kernel_rfl) (by kernel_rfl) ?_
  simp -dsimp -implicitDefEqProofs [-getElem?_pos, go_sem, hP, ho, hlt, restr_get]
  refine callB_m (by rw [hr, hs]; exact place_m h hl id) hP en_162 ?_
  rintro r H' ⟨rfl, hk⟩
  simp -dsimp -implicitDefEqProofs [-getElem?_pos, go_sem, hP, hp]
  have h' := h.kept hk (by simp) (by simp)
  have ho' := h'.obj
  have hq' := h'.subs
  have hil := (List.getElem?_eq_some_iff.1 hi).1
  have hlq := h'.ltq
  have hlp := h'.ltp
  have hne : ¬ q = p := fun e => h.ne e.symm
  have bnd := okSub_bounds hc (List.all_eq_true.1 hok a (List.mem_of_getElem? hi))
  have wa := wrap_in (a.Balance + amt) (by omega)
  have set1 : (encL TSub.cells l).set i [iv a.ID, iv (a.Balance + amt)] = encL TSub.cells (adj l id amt) := by
    rw [← ha, ← set_adj hn hi, ← encL_set]
    rfl
  have g1 : (adj l id amt)[i]? = some ⟨a.ID, a.Balance + amt⟩ := by rw [adj_get, hi, ← ha]; simp
  have o1 : okAt credit (adj l id amt) id = okSub credit ⟨a.ID, a.Balance + amt⟩ := by
    rw [← ha] at g1 ⊢
    exact okAt_get (by rw [adj_ids]; exact hn) g1
  have fin : ∀ H'', Kept [] (H'.set q (some ⟨96, 2, encL TSub.cells (adj l id amt)⟩)) H'' → Teller H'' p q credit n d (adj l id amt) ∧ Kept [q] H H'' := fun H'' hk2 => by
    have t : Teller (H'.set q (some ⟨96, 2, encL TSub.cells (adj l id amt)⟩)) p q credit n d (adj l id amt) := ⟨h.ne, by rw [List.getElem?_set_ne h.ne.symm, hadj]; exact ho', by rw [List.getElem?_set_self hlq]⟩
    exact ⟨t.kept hk2 (by simp) (by simp), (kept_set _ (by simp) (hk.mono (by simp))).trans (hk2.mono (by simp))⟩
  simp -dsimp -implicitDefEqProofs [-getElem?_pos, go_sem, hP, hz, restr_get, hq', hil]
  refine ⟨agree_two hk ho hq (by simp) (by simp), ?_⟩
  by_cases h1 : id = 1
  · have d1 : decide (id = 1) = true := decide_eq_true h1
    have wn := wrap_in (-credit) (by omega)
    simp -dsimp -implicitDefEqProofs [-getElem?_pos, go_sem, hP, hp, hil, hq', hi, TSub.cells, wa, hlq, set1, d1, ho', hne, hlp, wn, g1]
    refine callB_pure (among_pf (a.Balance + amt) (-credit) 1000000000000000) hP en_80 (args_same (by simp -dsimp -implicitDefEqProofs [-getElem?_pos, go_sem])) .sc ?_
    simp -dsimp -implicitDefEqProofs [-getElem?_pos, go_sem, hP]
    refine ⟨?_, fin _ (kept_refl _ _)⟩
    rw [o1]
    simp [okSub, amongB, ha, h1]
  · simp -dsimp -implicitDefEqProofs [-getElem?_pos, go_sem, hP, hp, hil, hq', hi, TSub.cells, wa, hlq, set1, h1, g1]
    refine callB_pure (among_pf (a.Balance + amt) 0 1000000000000000) hP en_80 (args_same (by simp -dsimp -implicitDefEqProofs [-getElem?_pos, go_sem])) .sc ?_
    simp -dsimp -implicitDefEqProofs [-getElem?_pos, go_sem, hP]
    refine ⟨?_, fin _ (kept_refl _ _)⟩
    rw [o1]
    simp [okSub, amongB, ha, h1]
set_option maxHeartbeats 1000000 in
theorem tpost_m {row src : Option Nat} {H : Heap} {p q : Nat} {credit n d : Int} {l : List TSub} (h : Teller H p q credit n d l) (hl : l.length ≤ 100000) (hc : 0 ≤ credit ∧ credit ≤ 1000000000000) (hn : (ids l).Nodup) (h0 : 0 ∉ ids l) (hok : okAll credit l = true)
    (hnn : 0 ≤ n ∧ n ≤ 100000) (e : TEntry) :
    MFun Tryz.prog row src 82 [.ref p 0 0, .agg e.cells] H (fun r H' => r = iv (postS credit n d l e).1 ∧ ((postS credit n d l e).1 = 0 → Teller H' p q credit e.Number e.Day (postS credit n d l e).2) ∧ Kept [p, q] H H') := by
  have post : ∃ r H', r = iv (postS credit n d l e).1 ∧ ((postS credit n d l e).1 = 0 → Teller H' p q credit e.Number e.Day (postS credit n d l e).2) ∧ Kept [p, q] H H' :=
    ⟨_, (H.set q (some ⟨96, 2, encL TSub.cells (postS credit n d l e).2⟩)).set p (some ⟨135, 4, [[iv credit, iv e.Number, iv e.Day, .sref q 0 (postS credit n d l e).2.length]]⟩), rfl, fun _ => ⟨h.ne, by rw [List.getElem?_set_self (by simp; exact h.ltp)], by rw [List.getElem?_set_ne h.ne, List.getElem?_set_self h.ltq]⟩, kept_set _ (by simp) (kept_set _ (by simp) (kept_refl _ _))⟩
  obtain ⟨C, hC⟩ : ∃ C : AV → Heap → Prop, C = fun r H' => r = iv (postS credit n d l e).1 ∧ ((postS credit n d l e).1 = 0 → Teller H' p q credit e.Number e.Day (postS credit n d l e).2) ∧ Kept [p, q] H H' := ⟨_, rfl⟩
  rw [← hC]
  have post : ∃ r H', C r H' := hC ▸ post
  refine mfun_intro Tryz.func82 rfl (by simp [Tryz.f82]) (by kernel_rfl) (post) ?_
  intro E hP hr hs hN
  have ho := h.obj
  have hlt := h.ltp
  have wn := wrap_in (n + 1) (by omega)
  have bad : ∀ (c : Int) (H'' : Heap), (postS credit n d l e).1 = c → c ≠ 0 → Kept [p, q] H H'' → C (iv c) H'' := fun c H'' h1 h2 h3 => by
    rw [hC]
    exact ⟨by rw [h1], fun h4 => absurd (h1.symm.trans h4) h2, h3⟩
  have kb := kept_push (X := [p, q]) (some ⟨66, 6, [[iv e.Number, iv e.Day, iv e.From, iv e.To, iv e.Amount, iv e.Ref]]⟩) (kept_refl [p, q] H)
  have hB : Teller (H ++ [some ⟨66, 6, [[iv e.Number, iv e.Day, iv e.From, iv e.To, iv e.Amount, iv e.Ref]]⟩]) p q credit n d l := h.kept (X := []) (kept_push _ (kept_refl _ _)) (by simp) (by simp)
  simp -dsimp -implicitDefEqProofs [-getElem?_pos, go_sem, hP, cE]
  refine adrawB (fun _ => true) [] hP (by kernel_rfl) (by kernel_rfl) ?_
  simp -dsimp -implicitDefEqProofs [-getElem?_pos, go_sem, hP, ho, hlt, wn]
  by_cases c1 : e.Number = n + 1
  rotate_left
  · have b1 : badNum n e = true := by simp [badNum, c1]
    simp -dsimp -implicitDefEqProofs [-getElem?_pos, go_sem, hP, c1]
    exact bad 65 _ (by rw [postS, if_pos b1]) (by omega) kb
  have b1 : ¬ badNum n e = true := by simp [badNum, c1]
  have d1 : decide (e.Number = n + 1) = true := decide_eq_true c1
  simp -dsimp -implicitDefEqProofs [-getElem?_pos, go_sem, hP, d1]
  refine adrawB (fun _ => true) [] hP (by kernel_rfl) (by kernel_rfl) ?_
  simp -dsimp -implicitDefEqProofs [-getElem?_pos, go_sem, hP, ho, hlt]
  refine callB_pure (among_pf e.Day d 36000) hP en_80 (args_same (by simp -dsimp -implicitDefEqProofs [-getElem?_pos, go_sem])) .sc ?_
  by_cases c2 : amongB e.Day d 36000 = true
  rotate_left
  · have b2 : badDay d e = true := by simp [badDay, c2]
    simp -dsimp -implicitDefEqProofs [-getElem?_pos, go_sem, hP, c2, agree_refl]
    exact bad 8 _ (by rw [postS, if_neg b1, if_pos b2]) (by omega) kb
  have b2 : ¬ badDay d e = true := by simp [badDay, c2]
  simp -dsimp -implicitDefEqProofs [-getElem?_pos, go_sem, hP, c2, agree_refl]
  refine callB_pure (positive_pf e.Amount) hP en_126 (args_same (by simp -dsimp -implicitDefEqProofs [-getElem?_pos, go_sem])) .sc ?_
  by_cases c3 : (decide (0 < e.Amount) && vB e.Amount) = true
  rotate_left
  · have b3 : badAmt e = true := by simp [badAmt, c3]
    have c3 : (decide (0 < e.Amount) && vB e.Amount) = false := by simpa using c3
    simp -dsimp -implicitDefEqProofs [-getElem?_pos, go_sem, hP, c3]
    exact bad 2 _ (by rw [postS, if_neg b1, if_neg b2, if_pos b3]) (by omega) kb
  simp -dsimp -implicitDefEqProofs [-getElem?_pos, go_sem, hP, c3]
  refine callB_pure (among_pf e.Ref 0 1000000) hP en_80 (args_same (by simp -dsimp -implicitDefEqProofs [-getElem?_pos, go_sem])) .sc ?_
  by_cases c4 : amongB e.Ref 0 1000000 = true
  rotate_left
  · have b3 : badAmt e = true := by simp [badAmt, c4]
    simp -dsimp -implicitDefEqProofs [-getElem?_pos, go_sem, hP, c3, c4]
    exact bad 2 _ (by rw [postS, if_neg b1, if_neg b2, if_pos b3]) (by omega) kb
  have b3 : ¬ badAmt e = true := by simp [badAmt, c3, c4]
  have am : 0 < e.Amount ∧ e.Amount ≤ 1000000000000 := by
    simp only [Bool.and_eq_true, decide_eq_true_eq, vB, amongB_iff] at c3
    omega
  have p60 : badSub l e = true → (postS credit n d l e).1 = 60 := fun h => by rw [postS, if_neg b1, if_neg b2, if_neg b3, if_pos h]
  simp -dsimp -implicitDefEqProofs [-getElem?_pos, go_sem, hP, c3, c4]
  by_cases c5 : e.From = e.To
  · have d5 : decide (e.From = e.To) = true := decide_eq_true c5
    simp -dsimp -implicitDefEqProofs [-getElem?_pos, go_sem, hP, d5]
    exact bad 60 _ (p60 (by simp [badSub, c5])) (by omega) kb
  simp -dsimp -implicitDefEqProofs [-getElem?_pos, go_sem, hP, c5]
  refine callB_m (by rw [hr, hs]; exact known_m hB hl e.From) hP en_127 ?_
  rintro r H1 ⟨rfl, hk1⟩
  have h1 := hB.kept hk1 (by simp) (by simp)
  have o1 := hk1 H.length ⟨66, 6, [[iv e.Number, iv e.Day, iv e.From, iv e.To, iv e.Amount, iv e.Ref]]⟩ (by simp) (by simp)
  have l1 := (List.getElem?_eq_some_iff.1 o1).1
  by_cases c6 : knownB l e.From = true
  rotate_left
  · simp -dsimp -implicitDefEqProofs [-getElem?_pos, go_sem, hP, c5, c6]
    exact bad 60 _ (p60 (by simp [badSub, c6])) (by omega) (kb.trans (hk1.mono (by simp)))
  simp -dsimp -implicitDefEqProofs [-getElem?_pos, go_sem, hP, c5, c6, o1, l1]
  refine callB_m (by rw [hr, hs]; exact known_m h1 hl e.To) hP en_127 ?_
  rintro r H2 ⟨rfl, hk2⟩
  have h2 := h1.kept hk2 (by simp) (by simp)
  have o2 := hk2 _ _ (by simp) o1
  have l2 := (List.getElem?_eq_some_iff.1 o2).1
  have k2 := kb.trans ((hk1.trans hk2).mono (Y := [p, q]) (by simp))
  by_cases c7 : knownB l e.To = true
  rotate_left
  · simp -dsimp -implicitDefEqProofs [-getElem?_pos, go_sem, hP, c5, c6, c7]
    exact bad 60 _ (p60 (by simp [badSub, c7])) (by omega) k2
  have b4 : ¬ badSub l e = true := by simp [badSub, c5, c6, c7]
  have pS : postS credit n d l e = if okAt credit (adj l e.From (-e.Amount)) e.From = false then (61, adj l e.From (-e.Amount)) else
      if okAt credit (adj (adj l e.From (-e.Amount)) e.To e.Amount) e.To = false then (61, adj (adj l e.From (-e.Amount)) e.To e.Amount) else (0, adj (adj l e.From (-e.Amount)) e.To e.Amount) := by
    rw [postS, if_neg b1, if_neg b2, if_neg b3, if_neg b4]
  have wa := wrap_in (-e.Amount) (by omega)
  simp -dsimp -implicitDefEqProofs [-getElem?_pos, go_sem, hP, c5, c6, c7, o2, l2, wa]
  refine callB_m (by rw [hr, hs]; exact add_m h2 hl hc hn h0 hok e.From (-e.Amount) ((knownB_iff _ _).1 c6) (by omega)) hP en_128 ?_
  rintro r H3 ⟨rfl, h3, hk3⟩
  have nq : ¬ H.length = q := by have := h.ltq; omega
  have np : ¬ H.length = p := by have := h.ltp; omega
  have o3 := hk3 _ _ (by simp [nq]) o2
  have l3 := (List.getElem?_eq_some_iff.1 o3).1
  have k3 := k2.trans (hk3.mono (Y := [p, q]) (by simp))
  by_cases c8 : okAt credit (adj l e.From (-e.Amount)) e.From = true
  rotate_left
  · have c8 : okAt credit (adj l e.From (-e.Amount)) e.From = false := by simpa using c8
    simp -dsimp -implicitDefEqProofs [-getElem?_pos, go_sem, hP, c8]
    exact bad 61 _ (by rw [pS, if_pos c8]) (by omega) k3
  rw [if_neg (by simp [c8])] at pS
  simp -dsimp -implicitDefEqProofs [-getElem?_pos, go_sem, hP, c8, o3, l3]
  refine callB_m (by rw [hr, hs]; exact add_m h3 (by rw [adj_len]; omega) hc (by rw [adj_ids]; exact hn) (by rw [adj_ids]; exact h0) (okAll_adj hok c8) e.To e.Amount (by rw [adj_ids]; exact (knownB_iff _ _).1 c7) (by omega)) hP en_128 ?_
  rintro r H4 ⟨rfl, h4, hk4⟩
  have o4 := hk4 _ _ (by simp [nq]) o3
  have l4 := (List.getElem?_eq_some_iff.1 o4).1
  have k4 := k3.trans (hk4.mono (Y := [p, q]) (by simp))
  by_cases c9 : okAt credit (adj (adj l e.From (-e.Amount)) e.To e.Amount) e.To = true
  rotate_left
  · have c9 : okAt credit (adj (adj l e.From (-e.Amount)) e.To e.Amount) e.To = false := by simpa using c9
    simp -dsimp -implicitDefEqProofs [-getElem?_pos, go_sem, hP, c8, c9]
    exact bad 61 _ (by rw [pS, if_pos c9]) (by omega) k4
  rw [if_neg (by simp [c9])] at pS
  have ho4 := h4.obj
  have hp4 := h4.ltp
  simp -dsimp -implicitDefEqProofs [-getElem?_pos, go_sem, hP, c8, c9]
  refine adrawB (fun i => decide (i = H.length)) [6, 7, 9, 10, 11] hP (by kernel_rfl) (by kernel_rfl) ?_
  simp -dsimp -implicitDefEqProofs [-getElem?_pos, go_sem, hP, o4, l4, ho4, hp4]
  refine ⟨fun i hi => ?_, ?_⟩
  · simp only [decide_eq_true_eq] at hi
    subst hi
    rw [List.getElem?_set_ne (Ne.symm np)]
  rw [hC, pS]
  refine ⟨rfl, fun _ => ⟨h.ne, by rw [List.getElem?_set_self hp4], by rw [List.getElem?_set_ne h.ne]; exact h4.subs⟩, kept_set _ (by simp) k4⟩
set_option maxHeartbeats 1000000 in
theorem fresh_m {row src : Option Nat} (a : TAccount) (H : Heap) (hl : a.Subs.length ≤ 100000) (hne : a.Subs ≠ []) :
    MFun Tryz.prog row src 81 [.agg a.cells] H (fun r H' => ∃ p q, r = .ref p 0 0 ∧ H.length ≤ p ∧ H.length ≤ q ∧ Teller H' p q a.Credit 0 0 (zeroS a.Subs) ∧ Kept [] H H') := by
  obtain ⟨C, hC⟩ : ∃ C : AV → Heap → Prop, C = fun r H' => ∃ p q, r = .ref p 0 0 ∧ H.length ≤ p ∧ H.length ≤ q ∧ Teller H' p q a.Credit 0 0 (zeroS a.Subs) ∧ Kept [] H H' := ⟨_, rfl⟩
  rw [← hC]
  have ex : ∃ r H', C r H' := ⟨.ref H.length 0 0, H ++ [some ⟨135, 4, [[iv a.Credit, iv 0, iv 0, .sref (H.length + 1) 0 (zeroS a.Subs).length]]⟩, some ⟨96, 2, encL TSub.cells (zeroS a.Subs)⟩], by
    rw [hC]
    exact ⟨H.length, H.length + 1, rfl, Nat.le_refl _, by omega, ⟨by omega, by simp, by rw [List.getElem?_append_right (by omega)]; simp⟩, kept_app _ _ _⟩⟩
  refine mfun_intro Tryz.func81 rfl (by simp [Tryz.f81]) (by kernel_rfl) (ex) ?_
  intro E hP hr hs hN
  simp -dsimp -implicitDefEqProofs [-getElem?_pos, go_sem, hP, cA]
  obtain ⟨I, hI⟩ : ∃ I : Nat → St → Prop, I = fun m s => ∃ (k : Nat) (x : AV), k ≤ a.Subs.length ∧ m = a.Subs.length - k ∧ s.t 3 = .ref (H.length + 1) 0 0 ∧ s.t 11 = subsL a.Subs ∧ s.t 12 = iv a.Subs.length ∧ s.t 13 = iv k ∧ s.H[H.length + 1]? = some (some ⟨135, 4, [[iv a.Credit, iv 0, iv 0, x]]⟩) ∧ Grown (H.length + 2) s.H x 96 2 (encL TSub.cells (zeroS (a.Subs.take k))) ∧ Kept [] H s.H := ⟨_, rfl⟩
  refine aloop0 I (a.Subs.length) (by rw [hN]; rfl) ?_ ?_
  · rw [hI]
    exact ⟨0, .nil, by omega, by omega, by simp -dsimp -implicitDefEqProofs [-getElem?_pos, go_sem], by simp -dsimp -implicitDefEqProofs [-getElem?_pos, go_sem], by simp -dsimp -implicitDefEqProofs [-getElem?_pos, go_sem], by simp -dsimp -implicitDefEqProofs [-getElem?_pos, go_sem], by simp -dsimp -implicitDefEqProofs [-getElem?_pos, go_sem], .inl ⟨rfl, rfl⟩, by simp -dsimp -implicitDefEqProofs [-getElem?_pos, go_sem]; exact kept_app _ _ _⟩
  intro m s hs'
  rw [hI] at hs'
  obtain ⟨k, x, hk, hm, t3, t11, t12, t13, h1, hg, hK⟩ := hs'
  have lt1 := (List.getElem?_eq_some_iff.1 h1).1
  simp -dsimp -implicitDefEqProofs [-getElem?_pos, go_sem, hP, t12, t13]
  refine condP (fun h => ?_) (fun h => ?_)
  · have hk : k < a.Subs.length := by simpa using h
    obtain ⟨y, hy⟩ : ∃ y, a.Subs[k]? = some y := ⟨_, List.getElem?_eq_getElem hk⟩
    have wk := wrap_in ((k : Int) + 1) (by omega)
    have e1 : zeroS (a.Subs.take (k + 1)) = zeroS (a.Subs.take k) ++ [⟨y.ID, 0⟩] := by rw [List.take_add_one, hy]; simp [zeroS]
    have nl : (zeroS (a.Subs.take k)).length = k := by rw [zeroS_len, List.length_take]; omega
    simp -dsimp -implicitDefEqProofs [-getElem?_pos, go_sem, hP, t11, t13, hy, TSub.cells]
    rcases hg with ⟨rfl, hg⟩ | ⟨id, h2, rfl, hg⟩
    · refine adrawB (fun i => decide (i = H.length + 1) || decide (i = s.H.length)) [12] hP (by kernel_rfl) (by kernel_rfl) ?_
      simp -dsimp -implicitDefEqProofs [-getElem?_pos, go_sem, hP, t3, h1, lt1, t13, wk]
      refine ⟨fun i hi => ?_, a.Subs.length - (k + 1), by omega, ?_⟩
      · simp only [Bool.or_eq_true, decide_eq_true_eq] at hi
        rcases hi with rfl | rfl <;> simp [-getElem?_pos, List.getElem?_append, lt1] <;> rfl
      rw [hI]
      refine ⟨k + 1, .sref (s.H.length + 1) 0 1, by omega, rfl, by simp -dsimp -implicitDefEqProofs [-getElem?_pos, go_sem, t3], by simp -dsimp -implicitDefEqProofs [-getElem?_pos, go_sem, t11], by simp -dsimp -implicitDefEqProofs [-getElem?_pos, go_sem, t12], by simp -dsimp -implicitDefEqProofs [-getElem?_pos, go_sem], by simp -dsimp -implicitDefEqProofs [-getElem?_pos, go_sem, lt1], .inr ⟨s.H.length + 1, by omega, ?_, ?_⟩, ?_⟩
      · rw [e1, ← encL_snoc, hg]; rfl
      · rw [e1, ← encL_snoc, hg]
        simp -dsimp -implicitDefEqProofs [-getElem?_pos, go_sem, TSub.cells]
      · simp -dsimp -implicitDefEqProofs [-getElem?_pos, go_sem]
        exact (kept_new _ (by omega) hK).trans (kept_app _ _ _)
    · have ne1 : ¬ id = H.length + 1 := by omega
      have lti := (List.getElem?_eq_some_iff.1 hg).1
      have ne2 : ¬ id = s.H.length := by omega
      refine adrawB (fun i => decide (i = H.length + 1) || decide (i = s.H.length)) [12] hP (by kernel_rfl) (by kernel_rfl) ?_
      simp -dsimp -implicitDefEqProofs [-getElem?_pos, go_sem, hP, t3, h1, lt1, t13, wk, hg, lti, ne1, nl]
      refine ⟨by omega, by omega, fun i hi => ?_, a.Subs.length - (k + 1), by omega, ?_⟩
      · simp only [Bool.or_eq_true, decide_eq_true_eq] at hi
        rcases hi with rfl | rfl <;> simp [-getElem?_pos, List.getElem?_append, List.getElem?_set, lt1, ne1, ne2] <;> rfl
      rw [hI]
      refine ⟨k + 1, .sref (s.H.length + 1) 0 (k + 1), by omega, rfl, by simp -dsimp -implicitDefEqProofs [-getElem?_pos, go_sem, t3], by simp -dsimp -implicitDefEqProofs [-getElem?_pos, go_sem, t11], by simp -dsimp -implicitDefEqProofs [-getElem?_pos, go_sem, t12], by simp -dsimp -implicitDefEqProofs [-getElem?_pos, go_sem], by simp -dsimp -implicitDefEqProofs [-getElem?_pos, go_sem, lt1, ne1], .inr ⟨s.H.length + 1, by omega, ?_, ?_⟩, ?_⟩
      · rw [encL_len, zeroS_len, List.length_take]
        congr 1
        omega
      · rw [e1, ← encL_snoc]
        simp -dsimp -implicitDefEqProofs [-getElem?_pos, go_sem, TSub.cells]
      · simp -dsimp -implicitDefEqProofs [-getElem?_pos, go_sem]
        exact ((kept_new _ (by omega) (kept_new _ (by omega) hK)).trans (kept_app _ _ _))
  · have hk : k = a.Subs.length := by simp at h; omega
    subst hk
    rw [List.take_length] at hg
    simp -dsimp -implicitDefEqProofs [-getElem?_pos, go_sem, hP, t3]
    rw [hC]
    rcases hg with ⟨rfl, hg⟩ | ⟨id, h2, rfl, hg⟩
    · exfalso
      apply hne
      have := congrArg List.length hg
      rw [encL_len, zeroS_len] at this
      exact List.eq_nil_of_length_eq_zero this
    · exact ⟨H.length + 1, id, rfl, by omega, by omega, ⟨by omega, by rw [h1, encL_len], hg⟩, hK⟩
open Go.PA
open Go.RowKit
theorem kept_high {H H' H'' : Heap} {X : List Nat} (h : Kept [] H H') (k : Kept X H' H'') (hX : ∀ i, i ∈ X → H.length ≤ i) : Kept [] H H'' := fun j o _ ho => by
  refine k j o (fun hj => ?_) (h j o (by simp) ho)
  have := hX j hj
  have := (List.getElem?_eq_some_iff.1 ho).1
  omega
def replayW (a : TAccount) (w : TEntry → Bool) : Option (Int × Int × List TSub) := replayS a.Credit 0 0 (zeroS a.Subs) (a.Entries.takeWhile w)
set_option maxHeartbeats 1000000 in
theorem replay_m {row src : Option Nat} (a : TAccount) (H : Heap) (g : FuncId) (caps : List AV) (w : TEntry → Bool) (hl : a.Subs.length ≤ 100000) (he : a.Entries.length ≤ 100000) (hne : a.Subs ≠ []) (hc : 0 ≤ a.Credit ∧ a.Credit ≤ 1000000000000) (hn : (ids a.Subs).Nodup) (h0 : 0 ∉ ids a.Subs)
    (hen : enterable Tryz.prog g = true) (hg : ∀ e, e ∈ a.Entries → ∀ H', Kept [] H H' → MFun Tryz.prog row src g (.agg e.cells :: caps) H' (fun r H'' => r = bv (w e) ∧ Kept [] H' H'')) :
    MFun Tryz.prog row src 51 [.agg a.cells, .fn g caps] H (fun r H' => ∃ p q, r = .tup [.ref p 0 0, bv (replayW a w).isSome] ∧ H.length ≤ p ∧ H.length ≤ q ∧ (∀ x, replayW a w = some x → Teller H' p q a.Credit x.1 x.2.1 x.2.2) ∧ Kept [] H H') := by
  obtain ⟨C, hC⟩ : ∃ C : AV → Heap → Prop, C = fun r H' => ∃ p q, r = .tup [.ref p 0 0, bv (replayW a w).isSome] ∧ H.length ≤ p ∧ H.length ≤ q ∧ (∀ x, replayW a w = some x → Teller H' p q a.Credit x.1 x.2.1 x.2.2) ∧ Kept [] H H' := ⟨_, rfl⟩
  rw [← hC]
  obtain ⟨R, hR⟩ : ∃ R, R = replayW a w := ⟨_, rfl⟩
  rw [← hR] at hC
  have ex : ∃ r H', C r H' := by
    rw [hC]
    cases R with
    | none => exact ⟨_, H, H.length, H.length, rfl, Nat.le_refl _, Nat.le_refl _, by simp, kept_refl _ _⟩
    | some x => exact ⟨_, H ++ [some ⟨135, 4, [[iv a.Credit, iv x.1, iv x.2.1, .sref (H.length + 1) 0 x.2.2.length]]⟩, some ⟨96, 2, encL TSub.cells x.2.2⟩], H.length, H.length + 1, rfl, Nat.le_refl _, by omega, fun y hy => by
        simp only [Option.some.injEq] at hy
        subst hy
        exact ⟨by omega, by simp, by rw [List.getElem?_append_right (by omega)]; simp⟩, kept_app _ _ _⟩
  refine mfun_intro Tryz.func51 rfl (by simp [Tryz.f51]) (by kernel_rfl) (ex) ?_
  intro E hP hr hs hN
  have ia : Imm (.agg [iv a.Credit, subsL a.Subs, entsL a.Entries]) := imm_acc a
  have fr := fun (row src : Option Nat) (H : Heap) => fresh_m (row := row) (src := src) a H hl hne
  rw [cA] at fr
  simp -dsimp -implicitDefEqProofs [-getElem?_pos, go_sem, hP, cA]
  refine callB_m (fr _ _ _) hP en_81 ?_
  rintro r H1 ⟨p, q, rfl, hp, hq, ht, hk1⟩
  have ob := hk1 H.length ⟨28, 3, [[iv a.Credit, subsL a.Subs, entsL a.Entries]]⟩ (by simp) (by simp)
  have lb := (List.getElem?_eq_some_iff.1 ob).1
  rw [List.length_append, List.length_singleton] at hp hq
  simp -dsimp -implicitDefEqProofs [-getElem?_pos, go_sem, hP, ob, lb]
  obtain ⟨I, hI⟩ : ∃ I : Nat → St → Prop, I = fun m s => ∃ (k : Nat) (d : Int) (l : List TSub), k ≤ a.Entries.length ∧ m = a.Entries.length - k ∧ R = replayS a.Credit k d l ((a.Entries.drop k).takeWhile w) ∧ okAll a.Credit l = true ∧ ids l = ids a.Subs ∧ Teller s.H p q a.Credit k d l ∧ Kept [] H s.H ∧ s.t 1 = .fn g caps ∧ s.t 6 = .ref p 0 0 ∧ s.t 12 = entsL a.Entries ∧ s.t 13 = iv a.Entries.length ∧ s.t 14 = iv k := ⟨_, rfl⟩
  refine aloop0 I (a.Entries.length) (by rw [hN]; rfl) ?_ ?_
  · rw [hI]
    exact ⟨0, 0, zeroS a.Subs, by omega, by omega, by rw [hR]; simp [replayW], zeroS_all hc.1 _, zeroS_ids _, by simp -dsimp -implicitDefEqProofs [-getElem?_pos, go_sem]; exact ht, by simp -dsimp -implicitDefEqProofs [-getElem?_pos, go_sem]; exact (kept_app _ _ _).trans hk1, by simp -dsimp -implicitDefEqProofs [-getElem?_pos, go_sem], by simp -dsimp -implicitDefEqProofs [-getElem?_pos, go_sem], by simp -dsimp -implicitDefEqProofs [-getElem?_pos, go_sem], by simp -dsimp -implicitDefEqProofs [-getElem?_pos, go_sem], by simp -dsimp -implicitDefEqProofs [-getElem?_pos, go_sem]⟩
  clear ht hk1 ob lb
  intro m s hs'
  rw [hI] at hs'
  obtain ⟨k, d, l, hk, hm, hRr, hok, hids, ht, hK, t1, t6, t12, t13, t14⟩ := hs'
  have fin : ∀ b : Bool, R.isSome = b → (∀ x, R = some x → Teller s.H p q a.Credit x.1 x.2.1 x.2.2) → C (.tup [.ref p 0 0, bv b]) s.H := fun b hb hx => by
    rw [hC]
    exact ⟨p, q, by rw [hb], by omega, by omega, hx, hK⟩
  simp -dsimp -implicitDefEqProofs [-getElem?_pos, go_sem, hP, t13, t14]
  refine condP (fun h => ?_) (fun h => ?_)
  · have hk : k < a.Entries.length := by simpa using h
    obtain ⟨e, hee⟩ : ∃ e, a.Entries[k]? = some e := ⟨_, List.getElem?_eq_getElem hk⟩
    have wk := wrap_in ((k : Int) + 1) (by omega)
    have hd : a.Entries.drop k = e :: a.Entries.drop (k + 1) := by
      rw [List.getElem?_eq_getElem hk] at hee
      rw [List.drop_eq_getElem_cons hk, Option.some.inj hee]
    rw [hd] at hRr
    have hge := hg e (List.mem_of_getElem? hee) _ (hK.trans (kept_push (some ⟨66, 6, [[iv e.Number, iv e.Day, iv e.From, iv e.To, iv e.Amount, iv e.Ref]]⟩) (kept_refl _ s.H)))
    rw [cE] at hge
    simp -dsimp -implicitDefEqProofs [-getElem?_pos, go_sem, hP, t12, t14, hee, cE, t1]
    refine callB_m (by rw [hr, hs]; exact hge) hP hen ?_
    rintro r H2 ⟨rfl, hk2⟩
    have o2 := hk2 s.H.length ⟨66, 6, [[iv e.Number, iv e.Day, iv e.From, iv e.To, iv e.Amount, iv e.Ref]]⟩ (by simp) (by simp)
    have l2 := (List.getElem?_eq_some_iff.1 o2).1
    have k2 : Kept [] s.H H2 := (kept_app _ _ _).trans hk2
    by_cases hw : w e = true
    rotate_left
    · rw [List.takeWhile_cons_of_neg hw] at hRr
      simp -dsimp -implicitDefEqProofs [-getElem?_pos, go_sem, hP, hw, t6]
      rw [hC]
      have hRr : R = some ((k : Int), d, l) := hRr
      refine ⟨p, q, by rw [hRr]; rfl, by omega, by omega, fun x hx => ?_, hK.trans k2⟩
      rw [hRr] at hx
      simp only [Option.some.injEq] at hx
      subst hx
      exact ht.kept k2 (by simp) (by simp)
    rw [List.takeWhile_cons_of_pos hw, replayS] at hRr
    have tp := tpost_m (row := row) (src := src) (ht.kept k2 (by simp) (by simp)) (by rw [← ids_len, hids, ids_len]; omega) hc (by rw [hids]; exact hn) (by rw [hids]; exact h0) hok (by omega) e
    rw [cE] at tp
    simp -dsimp -implicitDefEqProofs [-getElem?_pos, go_sem, hP, hw, t6, o2, l2]
    refine callB_m (by rw [hr, hs]; exact tp) hP en_82 ?_
    rintro r H3 ⟨rfl, ht3, hk3⟩
    have K3 : Kept [] H H3 := kept_high (hK.trans k2) hk3 (fun i hi => by simp at hi; omega)
    by_cases hp0 : (postS a.Credit k d l e).1 = 0
    · rw [if_pos hp0] at hRr
      obtain ⟨q1, q2, q3, _⟩ := postS_ok hp0
      simp -dsimp -implicitDefEqProofs [-getElem?_pos, go_sem, hP, hp0, t14, wk]
      refine ⟨a.Entries.length - (k + 1), by omega, ?_⟩
      rw [hI]
      rw [q1] at hRr
      refine ⟨k + 1, e.Day, (postS a.Credit k d l e).2, by omega, rfl, hRr, postS_all hp0 hok, (postS_ids _ _ _ _ _).trans hids, ?_, by simp -dsimp -implicitDefEqProofs [-getElem?_pos, go_sem]; exact K3, by simp -dsimp -implicitDefEqProofs [-getElem?_pos, go_sem, t1], by simp -dsimp -implicitDefEqProofs [-getElem?_pos, go_sem, t6], by simp -dsimp -implicitDefEqProofs [-getElem?_pos, go_sem, t12], by simp -dsimp -implicitDefEqProofs [-getElem?_pos, go_sem, t13], by simp -dsimp -implicitDefEqProofs [-getElem?_pos, go_sem]⟩
      simp -dsimp -implicitDefEqProofs [-getElem?_pos, go_sem]
      have := ht3 hp0
      rw [q1] at this
      exact this
    · rw [if_neg hp0] at hRr
      simp -dsimp -implicitDefEqProofs [-getElem?_pos, go_sem, hP, hp0, t6]
      rw [hC]
      exact ⟨p, q, by rw [hRr]; rfl, by omega, by omega, fun x hx => (by rw [hRr] at hx; cases hx), K3⟩
  · have hk : k = a.Entries.length := by simp at h; omega
    subst hk
    rw [List.drop_length] at hRr
    have hRr : R = some ((a.Entries.length : Int), d, l) := hRr
    simp -dsimp -implicitDefEqProofs [-getElem?_pos, go_sem, hP, t6]
    refine fin true (by rw [hRr]; rfl) fun x hx => ?_
    rw [hRr] at hx
    simp only [Option.some.injEq] at hx
    subst hx
    exact ht
theorem all_m {row src : Option Nat} (e : TEntry) (H : Heap) : MFun Tryz.prog row src 52 [.agg e.cells] H (fun r H' => r = bv true ∧ Kept [] H H') := by
  refine mfun_intro Tryz.func52 rfl (by simp [Tryz.f52]) (by kernel_rfl) (⟨_, H, rfl, kept_refl _ _⟩) ?_
  intro E hP hr hs hN
  simp -dsimp -implicitDefEqProofs [-getElem?_pos, go_sem, hP, TEntry.cells]
  exact kept_app _ _ _
theorem takeWhile_true {α : Type} (l : List α) : l.takeWhile (fun _ => true) = l := takeWhile_all _ _ fun _ _ => rfl
theorem check_prog {a : TAccount} (h1 : ¬ (20 < a.Subs.length ∨ 400 < a.Entries.length)) (h2 : (vB a.Credit && numB (ids a.Subs)) = true) :
    checkA a = (replayW a fun _ => true).elim 62 (fun r => if r.2.2 = a.Subs then 0 else 62) := by
  have h3 : ¬ (!vB a.Credit || !numB (ids a.Subs)) = true := by
    simp only [Bool.and_eq_true] at h2
    simp [h2.1, h2.2]
  rw [checkA, if_neg h1, if_neg h3, replayW, takeWhile_true]
  cases replayS a.Credit 0 0 (zeroS a.Subs) a.Entries <;> rfl
set_option maxHeartbeats 1000000 in
theorem check_pf (a : TAccount) (hl : a.Subs.length ≤ 100000) (he : a.Entries.length ≤ 100000) : PFun Tryz.prog none none 19 [.agg a.cells] (· = iv (checkA a)) := by
  refine pfun_intro Tryz.func19 rfl (by simp [Tryz.f19]) (by kernel_rfl) ?_
  intro E hP hr hs hW hN
  by_cases c1 : 20 < a.Subs.length
  · have d1 : decide ((20 : Int) < a.Subs.length) = true := decide_eq_true (by omega)
    have : checkA a = 3 := by rw [checkA, if_pos (.inl c1)]
    simp -dsimp -implicitDefEqProofs [-getElem?_pos, go_sem, hP, cA, d1, this]
  have d1 : decide ((20 : Int) < a.Subs.length) = false := decide_eq_false (by omega)
  by_cases c2 : 400 < a.Entries.length
  · have d2 : decide ((400 : Int) < a.Entries.length) = true := decide_eq_true (by omega)
    have : checkA a = 3 := by rw [checkA, if_pos (.inr c2)]
    simp -dsimp -implicitDefEqProofs [-getElem?_pos, go_sem, hP, cA, d1, d2, this]
  have d2 : decide ((400 : Int) < a.Entries.length) = false := decide_eq_false (by omega)
  simp -dsimp -implicitDefEqProofs [-getElem?_pos, go_sem, hP, cA, d1, d2]
  refine callB_pure (valid_pf a.Credit) hP en_48 (args_same (by simp -dsimp -implicitDefEqProofs [-getElem?_pos, go_sem])) .sc ?_
  by_cases c3 : vB a.Credit = true
  rotate_left
  · have : checkA a = 62 := by rw [checkA, if_neg (by omega), if_pos (by simp [c3])]
    simp -dsimp -implicitDefEqProofs [-getElem?_pos, go_sem, hP, c3, this]
  simp -dsimp -implicitDefEqProofs [-getElem?_pos, go_sem, hP, c3]
  refine callB_is ((numbers_pf a.Subs hl).lift _ _) hP en_50 (by simp [imm_subs]) (imm_nums _) ?_
  simp -dsimp -implicitDefEqProofs [-getElem?_pos, go_sem, hP, c3]
  refine callB_pure (numbered_pf (ids a.Subs) (by rw [ids_len]; omega)) hP en_49 (args_imm (imm_nums _) (args_nil.2 trivial)) .sc ?_
  by_cases c4 : numB (ids a.Subs) = true
  rotate_left
  · have : checkA a = 62 := by rw [checkA, if_neg (by omega), if_pos (by simp [c4])]
    simp -dsimp -implicitDefEqProofs [-getElem?_pos, go_sem, hP, c3, c4, this]
  obtain ⟨hnd, hz0, hhd⟩ := numB_facts c4
  have hcr : 0 ≤ a.Credit ∧ a.Credit ≤ 1000000000000 := by simpa [vB, amongB] using c3
  have hchk := check_prog (a := a) (by omega) (by simp [c3, c4])
  have hne : a.Subs ≠ [] := fun h => by rw [h] at hhd; simp [ids] at hhd
  have rp := fun (H : Heap) => replay_m (row := none) (src := none) a H 52 [] (fun _ => true) hl he hne hcr hnd hz0 en_52 (fun e _ H' _ => all_m e H')
  rw [cA] at rp
  simp -dsimp -implicitDefEqProofs [-getElem?_pos, go_sem, hP, c3, c4]
  refine callB_m (by rw [hr, hs]; exact rp _) hP en_51 ?_
  rintro r H1 ⟨p, q, rfl, hp, hq, ht, hk⟩
  have ob := hk 0 ⟨28, 3, [[iv a.Credit, subsL a.Subs, entsL a.Entries]]⟩ (by simp) (by simp)
  have lb := (List.getElem?_eq_some_iff.1 ob).1
  cases hR : replayW a fun _ => true with
  | none =>
    rw [hR] at hchk
    have hchk : checkA a = 62 := hchk
    simp -dsimp -implicitDefEqProofs [-getElem?_pos, go_sem, hP, hchk]
    refine adrawB (fun _ => true) [] hP (by kernel_rfl) (by kernel_rfl) ?_
    simp -dsimp -implicitDefEqProofs [-getElem?_pos, go_sem, hP]
    exact hchk.symm
  | some x =>
    rw [hR] at hchk
    have hchk : checkA a = if x.2.2 = a.Subs then 0 else 62 := hchk
    have t := ht x hR
    have t1 := t.obj
    have t2 := t.ltp
    have t3 := t.subs
    have il : x.2.2.length = a.Subs.length := by
      have := (replayS_keeps a.Credit _ 0 0 (zeroS a.Subs) x (zeroS_all hcr.1 _) hR).2.1
      rw [← ids_len x.2.2, this, ids_len, zeroS_len]
    simp -dsimp -implicitDefEqProofs [-getElem?_pos, go_sem, hP]
    refine adrawB (fun _ => true) [] hP (by kernel_rfl) (by kernel_rfl) ?_
    simp -dsimp -implicitDefEqProofs [-getElem?_pos, go_sem, hP, t1, t2, ob, lb]
    refine callB_pure (listEq_pf_subs x.2.2 a.Subs (by omega) hl) hP en_53 (args_sref t3 (by rw [encL_len]) (imm_subs _) (args_imm (imm_subs _) (args_nil.2 trivial))) .sc ?_
    by_cases c5 : x.2.2 = a.Subs
    · rw [if_pos c5] at hchk
      have d5 : decide (x.2.2 = a.Subs) = true := decide_eq_true c5
      simp -dsimp -implicitDefEqProofs [-getElem?_pos, go_sem, hP, d5, hchk]
    · rw [if_neg c5] at hchk
      simp -dsimp -implicitDefEqProofs [-getElem?_pos, go_sem, hP, c5, hchk]
open Go.PA
open Go.RowKit
theorem total_pf (a : TAccount) (hl : a.Subs.length ≤ 100000) (he : a.Entries.length ≤ 100000) : PFun Tryz.prog none none 13 [.agg a.cells] (· = iv (totalA a)) := by
  refine pfun_intro Tryz.func13 rfl (by simp [Tryz.f13]) (by kernel_rfl) ?_
  intro E hP hr hs hW hN
  have ck := check_pf a hl he
  rw [cA] at ck
  have ia : Imm (.agg [iv a.Credit, subsL a.Subs, entsL a.Entries]) := imm_acc a
  simp -dsimp -implicitDefEqProofs [-getElem?_pos, go_sem, hP, cA]
  refine callB_is (ck.lift _ _) hP en_19 (by simp [ia]) .sc ?_
  by_cases c1 : checkA a = 0
  rotate_left
  · have : totalA a = 0 := by rw [totalA, if_neg c1]
    simp -dsimp -implicitDefEqProofs [-getElem?_pos, go_sem, hP, c1, this]
  have tA : totalA a = sumB a.Subs := by rw [totalA, if_pos c1]
  obtain ⟨k1, k2, k3, k4, k5⟩ := check_ok c1
  obtain ⟨q1, q2, q3, q4⟩ := check_keeps c1
  simp -dsimp -implicitDefEqProofs [-getElem?_pos, go_sem, hP, c1]
  obtain ⟨I, hI⟩ : ∃ I : Nat → St → Prop, I = fun m s => ∃ k : Nat, k ≤ a.Subs.length ∧ m = a.Subs.length - k ∧ s.t 3 = iv (sumB (a.Subs.take k)) ∧ s.t 10 = subsL a.Subs ∧ s.t 11 = iv a.Subs.length ∧ s.t 12 = iv k := ⟨_, rfl⟩
  refine aloop0 I (a.Subs.length) (by rw [hN]; rfl) ?_ ?_
  · rw [hI]
    exact ⟨0, by omega, by omega, by simp -dsimp -implicitDefEqProofs [-getElem?_pos, go_sem, sumB], by simp -dsimp -implicitDefEqProofs [-getElem?_pos, go_sem], by simp -dsimp -implicitDefEqProofs [-getElem?_pos, go_sem], by simp -dsimp -implicitDefEqProofs [-getElem?_pos, go_sem]⟩
  intro m s hs'
  rw [hI] at hs'
  obtain ⟨k, hk, hm, t3, t10, t11, t12⟩ := hs'
  simp -dsimp -implicitDefEqProofs [-getElem?_pos, go_sem, hP, t11, t12]
  refine condP (fun h => ?_) (fun h => ?_)
  · have hk : k < a.Subs.length := by simpa using h
    obtain ⟨x, hx⟩ : ∃ x, a.Subs[k]? = some x := ⟨_, List.getElem?_eq_getElem hk⟩
    have wk := wrap_in ((k : Int) + 1) (by omega)
    have e1 : a.Subs.take (k + 1) = a.Subs.take k ++ [x] := by rw [List.take_add_one, hx]; rfl
    have b1 := sumB_bound k3 _ (okAll_take q1 (k + 1))
    have b2 : (a.Subs.take (k + 1)).length ≤ 20 := by rw [List.length_take]; omega
    rw [e1, sumB_snoc, ← e1] at b1
    have ws := wrap_in (sumB (a.Subs.take k) + x.Balance) (by omega)
    simp -dsimp -implicitDefEqProofs [-getElem?_pos, go_sem, hP, t10, t12, hx, TSub.cells, t3, ws, wk]
    refine ⟨a.Subs.length - (k + 1), by omega, ?_⟩
    rw [hI]
    exact ⟨k + 1, by omega, rfl, by simp -dsimp -implicitDefEqProofs [-getElem?_pos, go_sem]; rw [e1, sumB_snoc], by simp -dsimp -implicitDefEqProofs [-getElem?_pos, go_sem, t10], by simp -dsimp -implicitDefEqProofs [-getElem?_pos, go_sem, t11], by simp -dsimp -implicitDefEqProofs [-getElem?_pos, go_sem]⟩
  · have hk : k = a.Subs.length := by simp at h; omega
    subst hk
    rw [List.take_length] at t3
    simp -dsimp -implicitDefEqProofs [-getElem?_pos, go_sem, hP, t3, tA]
theorem agree_live {D : Nat → Bool} {X : List Nat} {H H' : Heap} (hk : Kept X H H') (hD : ∀ i, D i = true → i ∉ X ∧ ∃ o, H[i]? = some (some o)) : Agree D H H' := fun i hi => by
  obtain ⟨h1, o, ho⟩ := hD i hi
  rw [ho, hk i o h1 ho]
open Go.PA
def dE (id : Int) (e : TEntry) : Int := (if e.To = id then e.Amount else 0) - (if e.From = id then e.Amount else 0)
def netE (id : Int) (es : List TEntry) : Int := sumE (dE id) es
theorem sumE_cons (f : TEntry → Int) (e : TEntry) (l : List TEntry) : sumE f (e :: l) = f e + sumE f l := by simp [sumE]
theorem postS_net {credit n d : Int} {l : List TSub} {e : TEntry} (h : (postS credit n d l e).1 = 0) : (postS credit n d l e).2 = l.map fun s => ⟨s.ID, s.Balance + dE s.ID e⟩ := by
  obtain ⟨_, _, _, _, _, _, _, hne, _, _, _, _, h2⟩ := postS_ok h
  rw [h2, adj, adj, List.map_map]
  apply List.map_congr_left
  intro s _
  simp only [Function.comp, dE]
  by_cases h1 : s.ID = e.From
  · have h3 : ¬ s.ID = e.To := fun h => hne (h1.symm.trans h)
    have h3' : ¬ e.To = s.ID := fun h => h3 h.symm
    simp [h1, h3, h3', hne, Ne.symm hne]; try omega
  · have h1' : ¬ e.From = s.ID := fun h => h1 h.symm
    by_cases h3 : s.ID = e.To
    · simp [h1, h3, h1', Ne.symm hne, hne]
    · have h3' : ¬ e.To = s.ID := fun h => h3 h.symm
      simp [h1, h3, h1', h3']
theorem replayS_net (credit : Int) : ∀ (es : List TEntry) (n d : Int) (l : List TSub) (r : Int × Int × List TSub), replayS credit n d l es = some r → r.2.2 = l.map fun s => ⟨s.ID, s.Balance + netE s.ID es⟩
  | [], n, d, l, r, h => by
    simp only [replayS, Option.some.injEq] at h
    subst h
    simp [netE, sumE]
  | e :: es, n, d, l, r, h => by
    rw [replayS] at h
    split at h
    · rename_i hp
      rw [replayS_net credit es _ _ _ r h, postS_net hp, List.map_map]
      apply List.map_congr_left
      intro s _
      simp only [Function.comp, netE, sumE_cons]
      congr 1
      omega
    · cases h
theorem zero_net (l : List TSub) (es : List TEntry) : ((zeroS l).map fun s => (⟨s.ID, s.Balance + netE s.ID es⟩ : TSub)) = (ids l).map fun i => ⟨i, netE i es⟩ := by
  simp [zeroS, ids, Function.comp_def]
theorem check_net {a : TAccount} (h : checkA a = 0) : a.Subs = (ids a.Subs).map fun i => ⟨i, netE i a.Entries⟩ := by
  obtain ⟨_, _, _, _, h5⟩ := check_ok h
  have := replayS_net _ _ _ _ _ _ h5
  rw [zero_net] at this
  exact this
def sumI (f : Int → Int) (l : List Int) : Int := (l.map f).sum
theorem sumI_cons (f : Int → Int) (i : Int) (l : List Int) : sumI f (i :: l) = f i + sumI f l := by simp [sumI]
theorem sumI_add (f g : Int → Int) : ∀ l : List Int, sumI (fun i => f i + g i) l = sumI f l + sumI g l
  | [] => by simp [sumI]
  | i :: l => by rw [sumI_cons, sumI_cons, sumI_cons, sumI_add f g l]; omega
theorem sumI_sub (f g : Int → Int) : ∀ l : List Int, sumI (fun i => f i - g i) l = sumI f l - sumI g l
  | [] => by simp [sumI]
  | i :: l => by rw [sumI_cons, sumI_cons, sumI_cons, sumI_sub f g l]; omega
theorem sumI_zero : ∀ l : List Int, sumI (fun _ => 0) l = 0
  | [] => by simp [sumI]
  | i :: l => by rw [sumI_cons, sumI_zero l]; omega
theorem sumI_one (x A : Int) : ∀ l : List Int, l.Nodup → sumI (fun i => if x = i then A else 0) l = if x ∈ l then A else 0
  | [], _ => by simp [sumI]
  | i :: l, h => by
    rw [List.nodup_cons] at h
    rw [sumI_cons, sumI_one x A l h.2]
    by_cases h1 : x = i
    · subst h1
      simp [h.1]
    · simp [h1]
def ioE (e : TEntry) : Int := (if e.From = 0 then e.Amount else 0) - (if e.To = 0 then e.Amount else 0)
theorem sumI_dE {l : List Int} (hn : l.Nodup) (h0 : 0 ∉ l) {e : TEntry} (hf : e.From = 0 ∨ e.From ∈ l) (ht : e.To = 0 ∨ e.To ∈ l) : sumI (fun i => dE i e) l = ioE e := by
  unfold dE
  rw [sumI_sub, sumI_one _ _ _ hn, sumI_one _ _ _ hn, ioE]
  have k : ∀ x : Int, (x = 0 ∨ x ∈ l) → (if x ∈ l then e.Amount else 0) = e.Amount - (if x = 0 then e.Amount else 0) := fun x hx => by
    by_cases h : x = 0
    · subst h; simp [h0]
    · simp [h, hx.resolve_left h]
  rw [k _ hf, k _ ht]
  omega
theorem sumI_netE {l : List Int} (hn : l.Nodup) (h0 : 0 ∉ l) : ∀ es : List TEntry, (∀ e, e ∈ es → (e.From = 0 ∨ e.From ∈ l) ∧ (e.To = 0 ∨ e.To ∈ l)) → sumI (fun i => netE i es) l = sumE ioE es
  | [], _ => by simp [netE, sumE]; exact sumI_zero l
  | e :: es, h => by
    simp only [netE, sumE_cons]
    rw [sumI_add]
    have := sumI_netE hn h0 es fun x hx => h x (List.mem_cons_of_mem _ hx)
    simp only [netE] at this
    rw [this, sumI_dE hn h0 (h e (by simp)).1 (h e (by simp)).2]
theorem sumB_map (g : Int → Int) (l : List Int) : sumB (l.map fun i => ⟨i, g i⟩) = sumI g l := by simp [sumB, sumI, Function.comp_def]
theorem check_sum {a : TAccount} (h : checkA a = 0) : sumB a.Subs = sumE ioE a.Entries := by
  obtain ⟨_, _, _, h4, _⟩ := check_ok h
  obtain ⟨hn, h0, _⟩ := numB_facts h4
  rw [check_net h, sumB_map]
  exact sumI_netE hn h0 _ fun e he => (check_mem h e he).2.2.2.2.2
theorem total_sum {a : TAccount} (h : checkA a = 0) : totalA a = sumE ioE a.Entries := by rw [totalA, if_pos h, check_sum h]
theorem post_ok {a : TAccount} {e : TEntry} (h : (postA a e).2 = 0) : checkA a = 0 ∧ a.Entries.length < 400 ∧ (postS a.Credit (lastE a).Number (lastE a).Day a.Subs e).1 = 0 ∧ (postA a e).1 = ⟨a.Credit, (postS a.Credit (lastE a).Number (lastE a).Day a.Subs e).2, a.Entries ++ [e]⟩ := by
  unfold postA at h ⊢
  by_cases c1 : checkA a = 0
  · rw [if_pos c1] at h ⊢
    by_cases c2 : a.Entries.length = 400
    · rw [if_pos c2] at h; simp at h
    · rw [if_neg c2] at h ⊢
      by_cases c3 : (postS a.Credit (lastE a).Number (lastE a).Day a.Subs e).1 = 0
      · rw [if_pos c3]
        have := (check_ok c1).2.1
        exact ⟨c1, by omega, c3, rfl⟩
      · rw [if_neg c3] at h
        exact absurd h c3
  · rw [if_neg c1] at h
    exact absurd h c1
theorem post_check {a : TAccount} {e : TEntry} (h : (postA a e).2 = 0) : checkA (postA a e).1 = 0 := by
  obtain ⟨c1, c2, c3, c4⟩ := post_ok h
  obtain ⟨k1, k2, k3, k4, k5⟩ := check_ok c1
  rw [c4]
  have hi := postS_ids a.Credit (lastE a).Number (lastE a).Day a.Subs e
  have hl : (postS a.Credit (lastE a).Number (lastE a).Day a.Subs e).2.length = a.Subs.length := by rw [← ids_len, hi, ids_len]
  have hz : zeroS (postS a.Credit (lastE a).Number (lastE a).Day a.Subs e).2 = zeroS a.Subs := by
    have : ∀ l : List TSub, zeroS l = (ids l).map fun i => ⟨i, 0⟩ := fun l => by simp [zeroS, ids, Function.comp_def]
    rw [this, this, hi]
  refine check_mk (n := e.Number) (d := e.Day) (by dsimp only; omega) (by simp; omega) k3 (by dsimp only; rw [hi]; exact k4) ?_
  dsimp only
  rw [hz, replayS_app, k5]
  simp only [Option.bind_some, replayS, c3, if_true]
theorem lastE_post {a : TAccount} {e : TEntry} (h : (postA a e).2 = 0) : lastE (postA a e).1 = e := by
  rw [(post_ok h).2.2.2, lastE]
  simp
theorem post_ids {a : TAccount} {e : TEntry} (h : (postA a e).2 = 0) : ids (postA a e).1.Subs = ids a.Subs := by
  rw [(post_ok h).2.2.2]
  exact postS_ids _ _ _ _ _
theorem post_ents {a : TAccount} {e : TEntry} (h : (postA a e).2 = 0) : (postA a e).1.Entries = a.Entries ++ [e] := by rw [(post_ok h).2.2.2]
theorem post_credit {a : TAccount} {e : TEntry} (h : (postA a e).2 = 0) : (postA a e).1.Credit = a.Credit := by rw [(post_ok h).2.2.2]
structure GenAcc (n : Nat) (a : TAccount) : Prop where
  ok : checkA a = 0
  ids : ids a.Subs = [1, 2, 3, 7]
  len : a.Entries.length ≤ n
  day : (lastE a).Day ≤ 2 * (n : Int)
  small : ∀ e, e ∈ a.Entries → e.Amount ≤ 500
  cred : a.Credit ≤ 100
theorem GenAcc.post {n : Nat} {a : TAccount} {e : TEntry} (h : GenAcc n a) (hp : (postA a e).2 = 0) (hd : e.Day ≤ 2 * ((n : Int) + 1)) (ha : e.Amount ≤ 500) : GenAcc (n + 1) (postA a e).1 := by
  refine ⟨post_check hp, (post_ids hp).trans h.ids, ?_, ?_, ?_, by rw [post_credit hp]; exact h.cred⟩
  · rw [post_ents hp]; have := h.len; simp; omega
  · rw [lastE_post hp]; omega
  · rw [post_ents hp]
    intro x hx
    rcases List.mem_append.1 hx with hx | hx
    · exact h.small x hx
    · simp at hx; subst hx; exact ha
theorem GenAcc.mono {n m : Nat} {a : TAccount} (h : GenAcc n a) (hm : n ≤ m) : GenAcc m a := ⟨h.ok, h.ids, by have := h.len; omega, by have := h.day; omega, h.small, h.cred⟩
theorem GenAcc.slen {n : Nat} {a : TAccount} (h : GenAcc n a) : a.Subs.length = 4 := by rw [← ids_len, h.ids]; rfl
theorem dE_small {id : Int} {e : TEntry} (h : 0 < e.Amount ∧ e.Amount ≤ 500) : -500 ≤ dE id e ∧ dE id e ≤ 500 := by
  unfold dE
  split <;> split <;> omega
theorem netE_small (id : Int) : ∀ es : List TEntry, (∀ e, e ∈ es → 0 < e.Amount ∧ e.Amount ≤ 500) → -(500 * (es.length : Int)) ≤ netE id es ∧ netE id es ≤ 500 * (es.length : Int)
  | [], _ => by simp [netE, sumE]
  | e :: es, h => by
    have h1 := netE_small id es fun x hx => h x (List.mem_cons_of_mem _ hx)
    have h2 := dE_small (id := id) (h e (by simp))
    simp only [netE, sumE_cons, List.length_cons] at h1 ⊢
    omega
theorem GenAcc.bal {n : Nat} {a : TAccount} (h : GenAcc n a) : ∀ s, s ∈ a.Subs → -(500 * (n : Int)) ≤ s.Balance ∧ s.Balance ≤ 500 * (n : Int) := fun s hs => by
  rw [check_net h.ok] at hs
  obtain ⟨i, _, rfl⟩ := List.mem_map.1 hs
  have := netE_small i a.Entries fun e he => ⟨(check_mem h.ok e he).1, h.small e he⟩
  have := h.len
  dsimp only
  omega
theorem GenAcc.open {c : Int} (hc : 0 ≤ c ∧ c ≤ 100) : GenAcc 0 (newA [1, 2, 3, 7] c) ∧ openA [1, 2, 3, 7] c = (newA [1, 2, 3, 7] c, 0) := by
  have hv : vB c = true := by simp [vB, amongB]; omega
  have hb : numB [1, 2, 3, 7] = true := by decide
  refine ⟨⟨check_mk (n := 0) (d := 0) (by simp [newA, newS]) (by simp [newA]) (by simp [newA]; omega) (by simp only [newA, newS_ids]; exact hb) (by simp [newA, newS, zeroS, replayS]), by simp [newA, newS_ids], by simp [newA], by simp [newA, lastE], by simp [newA], by simp [newA]; omega⟩, ?_⟩
  unfold openA
  rw [if_pos hv, if_neg (by simp), if_pos hb]
open Go.PA
open Go.RowKit
def ioB (e : TEntry) : Bool := decide (e.To = 0) || decide (e.From = 0)
def entP (number first : Int) (k : Nat) (e : TEntry) : TPosting := ⟨first + (k : Int), e.Day, number, if e.To = 0 then 510 else 110, if e.To = 0 then 110 else 410, e.Amount, 0, e.Ref⟩
def entGo (number first : Int) : List TPosting → List TEntry → List TPosting
  | out, [] => out
  | out, e :: l => entGo number first (if ioB e = true then out ++ [entP number first out.length e] else out) l
def entriesL (a : TAccount) (number first : Int) : List TPosting := if checkA a = 0 ∧ (1 ≤ number ∧ number ≤ 10) ∧ (1 ≤ first ∧ first ≤ 999600) then entGo number first [] a.Entries else []
theorem entGo_len (number first : Int) : ∀ (l : List TEntry) (out : List TPosting), (entGo number first out l).length ≤ out.length + l.length
  | [], out => by simp [entGo]
  | e :: l, out => by
    rw [entGo]
    refine Nat.le_trans (entGo_len number first l _) ?_
    split <;> simp <;> omega
theorem entGo_check (credit number : Int) (hnum : 1 ≤ number ∧ number ≤ 10) : ∀ (es : List TEntry) (n d : Int) (l : List TSub) (r : Int × Int × List TSub) (out : List TPosting), 0 ≤ d → replayS credit n d l es = some r → checkL out = 0 → lastP out ≤ d → out.length + es.length ≤ 400 → checkL (entGo number 1 out es) = 0
  | [], n, d, l, r, out, hd, h, hc, hl, hn => hc
  | e :: es, n, d, l, r, out, hd, h, hc, hl, hn => by
    rw [replayS] at h
    split at h
    · rename_i hp
      obtain ⟨k1, k2, k3, k4, k5, k6, k7, k8, _⟩ := postS_ok hp
      rw [List.length_cons] at hn
      rw [entGo]
      by_cases hi : ioB e = true
      · rw [if_pos hi]
        have hq : PostOk (entP number 1 out.length e) := by
          refine ⟨?_, ⟨?_, k3⟩, hnum, ?_, ?_, ?_, ⟨?_, k5⟩, ⟨?_, ?_⟩, ?_, ⟨k6, k7⟩⟩
          all_goals dsimp only [entP]
          all_goals first | omega | (split <;> omega)
        have pg := postL_good hc hq (by dsimp only [entP]; omega) (show lastP out ≤ e.Day by omega) (by omega)
        have hc' := (postL_ok (show (postL out (entP number 1 out.length e)).2 = 0 by rw [pg])).2.2.2.2.2.2
        refine entGo_check credit number hnum es _ _ _ r _ (by omega) h hc' ?_ (by simp; omega)
        simp [lastP, entP]
      · rw [if_neg hi]
        exact entGo_check credit number hnum es _ _ _ r _ (by omega) h hc (by omega) (by omega)
    · cases h
theorem entriesL_check {a : TAccount} (h : checkA a = 0) : checkL (entriesL a 1 1) = 0 := by
  obtain ⟨_, h2, _, _, h5⟩ := check_ok h
  rw [entriesL, if_pos ⟨h, by omega, by omega⟩]
  exact entGo_check a.Credit 1 (by omega) a.Entries 0 0 _ _ [] (by omega) h5 rfl (by simp [lastP]) (by simpa using h2)
theorem entGo_net (q : Int → Bool) (f : TPosting → Bool) (g : TEntry → Int) (number first : Int) : ∀ (es : List TEntry) (out : List TPosting), (∀ e, e ∈ es → ∀ k : Nat, (if ioB e = true then (if f (entP number first k e) = true then addP q (entP number first k e) else 0) else 0) = g e) → netP q f (entGo number first out es) = netP q f out + sumE g es
  | [], out, h => by simp [entGo, sumE]
  | e :: es, out, h => by
    have he := h e (by simp) out.length
    rw [entGo, entGo_net q f g number first es _ fun x hx => h x (List.mem_cons_of_mem _ hx), sumE_cons, ← he]
    split
    · rw [netP_snoc]; omega
    · omega
open Go.PA
open Go.RowKit
theorem lastP_snoc (l : List TPosting) (p : TPosting) : lastP (l ++ [p]) = p.Day := by simp [lastP]
theorem check_snoc {l : List TPosting} {p : TPosting} (h : checkL l = 0) (hp : PostOk p) (hn : p.Number = (l.length : Int) + 1) (hd : lastP l ≤ p.Day) (hl : l.length < 400) : checkL (l ++ [p]) = 0 := by
  have pg := postL_good h hp hn hd hl
  exact (postL_ok (show (postL l p).2 = 0 by rw [pg])).2.2.2.2.2.2
structure ClP (day : Int) (p : TPosting) : Prop where
  ent : p.Entity = 1
  day : p.Day = day
  par : p.Partner = 0
  deb : (100 ≤ p.Debit ∧ p.Debit ≤ 599) ∧ p.Debit ≠ 110
  cre : (100 ≤ p.Credit ∧ p.Credit ≤ 599) ∧ p.Credit ≠ 110
  ne : p.Debit ≠ p.Credit
  amt : 1 ≤ p.Amount ∧ p.Amount ≤ 1000000000000
  ref : 0 ≤ p.Ref ∧ p.Ref ≤ 1000000
structure ClO (len : Nat) (day : Int) (out : List TPosting) : Prop where
  num : ∀ (k : Nat) (p : TPosting), out[k]? = some p → p.Number = ((len + k : Nat) : Int) + 1
  all : ∀ p, p ∈ out → ClP day p
theorem ClO.nil (len : Nat) (day : Int) : ClO len day [] := ⟨by simp, by simp⟩
theorem ClO.snoc {len : Nat} {day : Int} {out : List TPosting} {p : TPosting} (h : ClO len day out) (hn : p.Number = ((len + out.length : Nat) : Int) + 1) (hp : ClP day p) : ClO len day (out ++ [p]) := by
  refine ⟨fun k x hx => ?_, fun x hx => ?_⟩
  · by_cases hk : k < out.length
    · rw [List.getElem?_append_left hk] at hx
      exact h.num k x hx
    · rw [List.getElem?_append_right (by omega)] at hx
      have hk0 : k - out.length = 0 := by
        have := (List.getElem?_eq_some_iff.1 hx).1
        simp at this
        omega
      rw [hk0] at hx
      simp at hx
      subst hx
      rw [hn]
      omega
  · rcases List.mem_append.1 hx with hx | hx
    · exact h.all x hx
    · simp at hx
      subst hx
      exact hp
theorem ClO.init {len : Nat} {day : Int} {out : List TPosting} {p : TPosting} (h : ClO len day (out ++ [p])) : ClO len day out ∧ p.Number = ((len + out.length : Nat) : Int) + 1 ∧ ClP day p := by
  refine ⟨⟨fun k x hx => ?_, fun x hx => h.all x (by simp [hx])⟩, h.num out.length p (by simp), h.all p (by simp)⟩
  have hk := (List.getElem?_eq_some_iff.1 hx).1
  exact h.num k x (by rw [List.getElem?_append_left hk]; exact hx)
theorem ClP.post {day : Int} {p : TPosting} (h : ClP day p) (hd : 0 ≤ day ∧ day ≤ 36000) (hn : 1 ≤ p.Number ∧ p.Number ≤ 1000000) : PostOk p := by
  obtain ⟨h1, h2, h3, h4, h5, h6, h7, h8⟩ := h
  exact ⟨hn, by omega, by omega, h4.1, h5.1, h6, h7, by omega, by omega, h8⟩
theorem check_app {l : List TPosting} {day : Int} (h : checkL l = 0) (hd : lastP l ≤ day) (hd2 : 0 ≤ day ∧ day ≤ 36000) (out : List TPosting) : ClO l.length day out → l.length + out.length ≤ 400 → checkL (l ++ out) = 0 ∧ lastP (l ++ out) ≤ day := by
  induction out using snoc_ind with
  | h0 => intro _ _; rw [List.append_nil]; exact ⟨h, hd⟩
  | h1 out p ih =>
    intro ho hl
    rw [List.length_append, List.length_singleton] at hl
    obtain ⟨h1, h2, h3⟩ := ho.init
    obtain ⟨i1, i2⟩ := ih h1 (by omega)
    rw [← List.append_assoc, lastP_snoc]
    refine ⟨check_snoc i1 (h3.post hd2 (by omega)) (by rw [h2, List.length_append]) (by rw [h3.day]; exact i2) (by rw [List.length_append]; omega), by rw [h3.day]; omega⟩
def clP (len : Nat) (day : Int) (out : List TPosting) (d c x r : Int) : List TPosting :=
  if x = 0 then out else out ++ [⟨((len + out.length : Nat) : Int) + 1, day, 1, if x < 0 then c else d, if x < 0 then d else c, if x < 0 then -x else x, 0, r⟩]
theorem clP_ok {len : Nat} {day : Int} {out : List TPosting} {d c x r : Int} (h : ClO len day out) (hd : (100 ≤ d ∧ d ≤ 599) ∧ d ≠ 110) (hc : (100 ≤ c ∧ c ≤ 599) ∧ c ≠ 110) (hn : d ≠ c) (hx : -1000000000000 ≤ x ∧ x ≤ 1000000000000) (hr : 0 ≤ r ∧ r ≤ 1000000) : ClO len day (clP len day out d c x r) ∧ (clP len day out d c x r).length ≤ out.length + 1 := by
  unfold clP
  by_cases h0 : x = 0
  · rw [if_pos h0]
    exact ⟨h, by omega⟩
  · rw [if_neg h0]
    refine ⟨h.snoc rfl ?_, by simp⟩
    by_cases hl : x < 0
    · simp only [hl, if_true]
      exact ⟨rfl, rfl, rfl, hc, hd, fun e => hn e.symm, by dsimp only; omega, hr⟩
    · simp only [hl, if_false]
      exact ⟨rfl, rfl, rfl, hd, hc, hn, by dsimp only; omega, hr⟩
def adjL (len : Nat) (day i u q o v : Int) : List TPosting :=
  clP len day (clP len day (clP len day (clP len day (clP len day [] 520 220 i 1000000) 510 210 u 1000000) 130 510 q 1000000) 120 420 o 0) 119 530 v 0
theorem adjL_ok (len : Nat) (day : Int) {i u q o v : Int} (hi : -1000000000000 ≤ i ∧ i ≤ 1000000000000) (hu : -1000000000000 ≤ u ∧ u ≤ 1000000000000) (hq : -1000000000000 ≤ q ∧ q ≤ 1000000000000) (ho : -1000000000000 ≤ o ∧ o ≤ 1000000000000) (hv : -1000000000000 ≤ v ∧ v ≤ 1000000000000) : ClO len day (adjL len day i u q o v) ∧ (adjL len day i u q o v).length ≤ 5 := by
  unfold adjL
  obtain ⟨a1, b1⟩ := clP_ok (ClO.nil len day) (d := 520) (c := 220) (r := 1000000) (by omega) (by omega) (by omega) hi (by omega)
  obtain ⟨a2, b2⟩ := clP_ok a1 (d := 510) (c := 210) (r := 1000000) (by omega) (by omega) (by omega) hu (by omega)
  obtain ⟨a3, b3⟩ := clP_ok a2 (d := 130) (c := 510) (r := 1000000) (by omega) (by omega) (by omega) hq (by omega)
  obtain ⟨a4, b4⟩ := clP_ok a3 (d := 120) (c := 420) (r := 0) (by omega) (by omega) (by omega) ho (by omega)
  obtain ⟨a5, b5⟩ := clP_ok a4 (d := 119) (c := 530) (r := 0) (by omega) (by omega) (by omega) hv (by omega)
  rw [List.length_nil] at b1
  exact ⟨a5, by omega⟩
def turnB (e day : Int) (p : TPosting) : Bool := decide (p.Entity = e) && (decide (p.Day = day) && decide (p.Ref = 1000000))
def reopGo (e day : Int) : List TPosting → List TPosting → List TPosting
  | out, [] => out
  | out, p :: l => reopGo e day (if turnB e day p = true then out ++ [turnP p ((out.length : Int) + 1) (day + 1)] else out) l
theorem reopGo_ok (day : Int) : ∀ (l out : List TPosting) (n : Nat), (∀ p, p ∈ l → turnB 1 day p = true → ClP day p) → ∃ T, reopGo 1 day out l = out ++ T ∧ T.length ≤ (l.filter (turnB 1 day)).length ∧ ClO out.length (day + 1) T
  | [], out, n, h => ⟨[], by simp [reopGo], by simp, ClO.nil _ _⟩
  | p :: l, out, n, h => by
    rw [reopGo, List.filter_cons]
    by_cases ht : turnB 1 day p = true
    · rw [if_pos ht, if_pos ht]
      obtain ⟨T, h1, h2, h3⟩ := reopGo_ok day l (out ++ [turnP p ((out.length : Int) + 1) (day + 1)]) n fun x hx => h x (by simp [hx])
      have hp := h p (by simp) ht
      refine ⟨turnP p ((out.length : Int) + 1) (day + 1) :: T, by rw [h1]; simp, by simp; exact h2, ⟨fun k x hx => ?_, fun x hx => ?_⟩⟩
      · cases k with
        | zero => simp at hx; subst hx; simp [turnP]
        | succ k =>
          simp at hx
          have := h3.num k x hx
          rw [this, List.length_append, List.length_singleton]
          omega
      · rcases List.mem_cons.1 hx with rfl | hx
        · exact ⟨hp.ent, rfl, hp.par, hp.cre, hp.deb, fun e => hp.ne e.symm, hp.amt, hp.ref⟩
        · exact h3.all x hx
    · rw [if_neg ht, if_neg ht]
      exact reopGo_ok day l out n fun x hx => h x (by simp [hx])
def pA (n : Nat) (x : Int) : TPosting := ⟨(n : Int) + 1, 300, 1, 140, 440, x, 2, 3⟩
def pB (n : Nat) (x : Int) : TPosting := ⟨(n : Int) + 1 + 1, 300, 2, 540, 240, x, 1, 3⟩
theorem pA_ok {n : Nat} {x : Int} (hn : n ≤ 300) (hx : 1 ≤ x ∧ x ≤ 1000) : PostOk (pA n x) := by
  unfold pA
  constructor <;> dsimp only <;> omega
theorem pB_ok {n : Nat} {x : Int} (hn : n ≤ 300) (hx : 1 ≤ x ∧ x ≤ 1000) : PostOk (pB n x) := by
  unfold pB
  constructor <;> dsimp only <;> omega
structure EnP (p : TPosting) : Prop where
  ok : PostOk p
  ent : p.Entity = 1
  par : p.Partner = 0
  day : p.Day ≤ 300
theorem entGo_mem {P : TPosting → Prop} (number first : Int) : ∀ (es : List TEntry) (out : List TPosting), (∀ p, p ∈ out → P p) → (∀ (k : Nat) e, e ∈ es → P (entP number first k e)) → ∀ p, p ∈ entGo number first out es → P p
  | [], out, h1, h2 => by simpa [entGo] using h1
  | e :: es, out, h1, h2 => by
    rw [entGo]
    refine entGo_mem number first es _ ?_ fun k x hx => h2 k x (by simp [hx])
    split
    · intro p hp
      rcases List.mem_append.1 hp with hp | hp
      · exact h1 p hp
      · simp at hp
        subst hp
        exact h2 _ e (by simp)
    · exact h1
theorem entriesL_mem {a : TAccount} (h : checkA a = 0) (hd : ∀ e, e ∈ a.Entries → e.Day ≤ 300) : ∀ p, p ∈ entriesL a 1 1 → EnP p := by
  have ec := entriesL_check h
  have all : ∀ p, p ∈ entriesL a 1 1 → p.Entity = 1 ∧ p.Partner = 0 ∧ p.Day ≤ 300 := by
    rw [entriesL, if_pos ⟨h, by omega, by omega⟩]
    exact entGo_mem 1 1 a.Entries [] (by simp) fun k e he => ⟨rfl, rfl, hd e he⟩
  intro p hp
  obtain ⟨h1, h2, h3⟩ := all p hp
  exact ⟨(checkL_ok ec).2.1 p hp, h1, h2, h3⟩
theorem bal_entries {a : TAccount} (h : checkA a = 0) {f : TPosting → Bool} (hf : ∀ p, p ∈ entriesL a 1 1 → f p = true) : bal f (entriesL a 1 1) 110 = totalA a := by
  have hne : ∀ e, e ∈ a.Entries → e.From ≠ e.To := fun e he => (check_mem h e he).2.2.2.2.1
  rw [bal, netP_congr (g := fun _ => true) hf, total_sum h, entriesL, if_pos ⟨h, by omega, by omega⟩, entGo_net _ _ ioE]
  · simp [netP]
  · intro e he j
    have := hne e he
    simp only [ioB, addP, entP, ioE]
    by_cases t : e.To = 0 <;> by_cases s : e.From = 0 <;> simp [t, s]
    omega
def spotF (day e q r : Int) (p : TPosting) : Bool := decide (p.Day ≤ day) && (decide (p.Entity = e) && (decide (p.Partner = q) && decide (p.Ref = r)))
def spotV (l : List TPosting) (day c e q r : Int) : Int := bal (spotF day e q r) l c
def grpB (day : Int) (p : TPosting) : Bool := (decide (p.Entity = 1) || decide (p.Entity = 2)) && decide (p.Day ≤ day)
structure BkOk (a : TAccount) (x : Int) (y : List TPosting) : Prop where
  ok : checkL y = 0
  len : y.length ≤ 60
  is : ∃ C, y = entriesL a 1 1 ++ [pA (entriesL a 1 1).length x, pB (entriesL a 1 1).length x] ++ C ∧ ∀ p, p ∈ C → ClP 359 p ∨ ClP 360 p
theorem bal_app (f : TPosting → Bool) (l m : List TPosting) (c : Int) : bal f (l ++ m) c = bal f l c + bal f m c := netP_app _ f l m
theorem bal_off {f : TPosting → Bool} {c : Int} : ∀ {l : List TPosting}, (∀ p, p ∈ l → f p = true → p.Debit ≠ c ∧ p.Credit ≠ c) → bal f l c = 0
  | [], _ => rfl
  | p :: l, h => by
    have ih := bal_off (f := f) (c := c) (l := l) fun x hx => h x (by simp [hx])
    have hp := h p (by simp)
    unfold bal at *
    rw [netP, ih]
    by_cases hf : f p = true
    · obtain ⟨h1, h2⟩ := hp hf
      simp [hf, addP, h1, h2]
    · simp [hf]
theorem books_cash {a : TAccount} {x : Int} {y : List TPosting} (h : BkOk a x y) (ha : checkA a = 0) (hd : ∀ e, e ∈ a.Entries → e.Day ≤ 300) {day : Int} (hk : 300 ≤ day) : bal (grpB day) y 110 = totalA a := by
  obtain ⟨C, rfl, hC⟩ := h.is
  rw [bal_app, bal_app, bal_entries ha, bal_off (l := C), bal_off (l := [_, _])]
  · omega
  · intro p hp _
    simp at hp
    rcases hp with rfl | rfl <;> simp [pA, pB]
  · intro p hp _
    rcases hC p hp with h | h
    · exact ⟨h.deb.2, h.cre.2⟩
    · exact ⟨h.deb.2, h.cre.2⟩
  · intro p hp
    have := entriesL_mem ha hd p hp
    have h2 := this.day
    simp [grpB, this.ent]
    omega
theorem books_spot {a : TAccount} {x : Int} {y : List TPosting} (h : BkOk a x y) (ha : checkA a = 0) (hd : ∀ e, e ∈ a.Entries → e.Day ≤ 300) {day : Int} (hk : 300 ≤ day) {c e q r : Int} (hq : q ≠ 0) : spotV y day c e q r = (if 1 = e ∧ 2 = q ∧ 3 = r then (if 140 = c then x else 0) - (if 440 = c then x else 0) else 0) + (if 2 = e ∧ 1 = q ∧ 3 = r then (if 540 = c then x else 0) - (if 240 = c then x else 0) else 0) := by
  obtain ⟨C, rfl, hC⟩ := h.is
  unfold spotV
  rw [bal_app, bal_app, bal_off (l := C), bal_off (l := entriesL a 1 1)]
  · have hk2 : decide ((300 : Int) ≤ day) = true := decide_eq_true hk
    obtain ⟨n, hn⟩ : ∃ n, n = (entriesL a 1 1).length := ⟨_, rfl⟩
    have fA : spotF day e q r (pA n x) = (decide (1 = e) && (decide (2 = q) && decide (3 = r))) := by
      show (decide ((300 : Int) ≤ day) && _) = _
      rw [hk2]
      rfl
    have fB : spotF day e q r (pB n x) = (decide (2 = e) && (decide (1 = q) && decide (3 = r))) := by
      show (decide ((300 : Int) ≤ day) && _) = _
      rw [hk2]
      rfl
    have gA : addP (fun b => decide (b = c)) (pA n x) = (if 140 = c then x else 0) - (if 440 = c then x else 0) := by
      show (if decide ((140 : Int) = c) = true then x else 0) - (if decide ((440 : Int) = c) = true then x else 0) = _
      simp only [decide_eq_true_eq]
    have gB : addP (fun b => decide (b = c)) (pB n x) = (if 540 = c then x else 0) - (if 240 = c then x else 0) := by
      show (if decide ((540 : Int) = c) = true then x else 0) - (if decide ((240 : Int) = c) = true then x else 0) = _
      simp only [decide_eq_true_eq]
    rw [← hn, bal, netP, netP, netP, fA, fB, gA, gB]
    simp only [Bool.and_eq_true, decide_eq_true_eq]
    omega
  · intro p hp hf
    have := (entriesL_mem ha hd p hp).par
    simp [spotF, this] at hf
    omega
  · intro p hp hf
    have : p.Partner = 0 := by rcases hC p hp with h | h <;> exact h.par
    simp [spotF, this] at hf
    omega
theorem books_claim {a : TAccount} {x : Int} {y : List TPosting} (h : BkOk a x y) (ha : checkA a = 0) (hd : ∀ e, e ∈ a.Entries → e.Day ≤ 300) {day : Int} (hk : 300 ≤ day) {u v r : Int} (hu : (u = 1 ∧ v = 2) ∨ (u = 2 ∧ v = 1)) :
    spotV y day 140 u v r = (if u = 1 ∧ r = 3 then x else 0) ∧ spotV y day 240 v u r = -(if u = 1 ∧ r = 3 then x else 0) ∧ spotV y day 440 u v r = -(if u = 1 ∧ r = 3 then x else 0) ∧ spotV y day 540 v u r = (if u = 1 ∧ r = 3 then x else 0) := by
  rcases hu with ⟨rfl, rfl⟩ | ⟨rfl, rfl⟩ <;> refine ⟨?_, ?_, ?_, ?_⟩ <;> rw [books_spot h ha hd hk (by omega)] <;> by_cases hr : 3 = r <;> simp [hr, eq_comm (a := r)]
def sumG (g : Int → Int) : Nat → Int
  | 0 => 0
  | n + 1 => sumG g n + g (n : Int)
theorem sumG_add (g h : Int → Int) : ∀ n, sumG (fun a => g a + h a) n = sumG g n + sumG h n
  | 0 => rfl
  | n + 1 => by rw [sumG, sumG, sumG, sumG_add g h n]; omega
theorem sumG_one (c x : Int) (hc : 0 ≤ c) : ∀ n : Nat, sumG (fun a => if c = a then x else 0) n = if c < (n : Int) then x else 0
  | 0 => by rw [sumG, if_neg (by omega)]
  | n + 1 => by
    rw [sumG, sumG_one c x hc n]
    by_cases h1 : c < (n : Int)
    · rw [if_pos h1, if_neg (by omega), if_pos (by omega)]; omega
    · by_cases h2 : c = (n : Int)
      · rw [if_neg h1, if_pos h2, if_pos (by omega)]; omega
      · rw [if_neg h1, if_neg h2, if_neg (by omega)]; omega
theorem sumG_bal (f : TPosting → Bool) : ∀ l : List TPosting, (∀ p, p ∈ l → Fine p) → sumG (bal f l) 600 = 0
  | [], _ => by
    have z : ∀ n : Nat, sumG (bal f []) n = 0 := fun n => by
      induction n with
      | zero => rfl
      | succ n ih => rw [sumG, ih]; rfl
    exact z 600
  | p :: l, h => by
    have ih := sumG_bal f l fun x hx => h x (by simp [hx])
    have hp := h p (by simp)
    have hd := hp.deb
    have hc := hp.cre
    have e : bal f (p :: l) = fun a => (if f p = true then addP (fun b => decide (b = a)) p else 0) + bal f l a := by
      funext a
      rfl
    rw [e, sumG_add, ih]
    by_cases hf : f p = true
    · simp only [hf, if_true]
      have e2 : (fun a => addP (fun b => decide (b = a)) p) = fun a => (if p.Debit = a then p.Amount else 0) + (if p.Credit = a then -p.Amount else 0) := by
        funext a
        unfold addP
        simp only [decide_eq_true_eq]
        split <;> split <;> omega
      rw [e2, sumG_add, sumG_one _ _ (by omega), sumG_one _ _ (by omega), if_pos (by omega), if_pos (by omega)]
      omega
    · simp only [hf]
      have z : ∀ n : Nat, sumG (fun _ => (0 : Int)) n = 0 := fun n => by
        induction n with
        | zero => rfl
        | succ n ih => rw [sumG, ih]; rfl
      simpa using z 600
def elimG (u v : Int) (a : Int) : Int := (if 140 = a then -u else 0) + ((if 240 = a then u else 0) + ((if 440 = a then v else 0) + (if 540 = a then -v else 0)))
theorem sumG_elim (u v : Int) : sumG (elimG u v) 600 = 0 := by
  unfold elimG
  rw [sumG_add, sumG_add, sumG_add, sumG_one _ _ (by omega), sumG_one _ _ (by omega), sumG_one _ _ (by omega), sumG_one _ _ (by omega), if_pos (by omega), if_pos (by omega), if_pos (by omega), if_pos (by omega)]
  omega
end Go.Proofs.YtpllcolbcahicaaGreatDoor
namespace Go.PA
open Go.RowKit
section
variable {κ β : Type} [DecidableEq κ]
def getG : List (κ × β) → κ → Option β
  | [], _ => none
  | e :: l, k => if e.1 = k then some e.2 else getG l k
def putG : List (κ × β) → κ → β → List (κ × β)
  | [], k, v => [(k, v)]
  | e :: l, k, v => if e.1 = k then (k, v) :: l else e :: putG l k v
theorem get_putG (l : List (κ × β)) (k k' : κ) (v : β) : getG (putG l k v) k' = if k = k' then some v else getG l k' := by
  induction l with
  | nil => simp [getG, putG]
  | cons e l ih =>
    simp only [putG, getG]
    by_cases h : e.1 = k
    · subst h
      rw [if_pos rfl]
      simp only [getG]
      by_cases h' : e.1 = k'
      · simp [h']
      · simp [h']
    · rw [if_neg h]
      simp only [getG]
      rw [ih]
      by_cases h' : e.1 = k'
      · subst h'
        rw [if_pos rfl, if_pos rfl, if_neg (fun q => h q.symm)]
      · rw [if_neg h', if_neg h']
theorem putG_mem {l : List (κ × β)} {k : κ} {v : β} {e : κ × β} (h : e ∈ putG l k v) : e = (k, v) ∨ e ∈ l := by
  induction l with
  | nil => simp [putG] at h; exact .inl h
  | cons a l ih =>
    simp only [putG] at h
    split at h
    · rcases List.mem_cons.1 h with h | h
      · exact .inl h
      · exact .inr (by simp [h])
    · rcases List.mem_cons.1 h with h | h
      · exact .inr (by simp [h])
      · exact (ih h).imp id fun h => by simp [h]
end
section
variable {κ β : Type}
def encG (kv : κ → Value) (f : β → Value) (l : List (κ × β)) : List (List AV) := l.map fun e => [.sc (kv e.1), .sc (f e.2)]
def imG (kv : κ → Value) (f : β → Value) (l : List (κ × β)) : List (Value × Value) := l.map fun e => (kv e.1, f e.2)
theorem entsOf_encG (kv : κ → Value) (f : β → Value) (l : List (κ × β)) : entsOf (encG kv f l) = some (l.map fun e => (kv e.1, .sc (f e.2))) := by
  induction l with
  | nil => rfl
  | cons e l ih =>
    simp only [encG, List.map_cons, entsOf] at ih ⊢
    rw [ih]
    rfl
theorem ents1_encG (kv : κ → Value) (f : β → Value) (l : List (κ × β)) : ents1 (encG kv f l) = some (imG kv f l) := by
  induction l with
  | nil => rfl
  | cons e l ih =>
    simp only [encG, List.map_cons, ents1] at ih ⊢
    rw [ih]
    rfl
end
section
variable {β : Type} {f : β → Value} {P : Program} {H : Heap}
end
section
variable {β : Type} {f : β → Value} {P : Program} {H : Heap}
abbrev kJ (ns : List Int) : Value := .agg (ns.map (Value.int .i64)).toArray
theorem alikeT_J : ∀ (m : Nat) (ns ms : List Int), ns.length = m → ms.length = m → alikeT (List.replicate m .int) (ns.map (Value.int .i64)) (ms.map (Value.int .i64)) = some (decide (ns = ms))
  | 0, [], [], _, _ => rfl
  | m + 1, a :: ns, b :: ms, h1, h2 => by
    simp only [List.replicate_succ, List.map_cons, alikeT, alike1, if_true, alikeT_J m ns ms (by simpa using h1) (by simpa using h2)]
    rw [← Bool.decide_and]
    simp
theorem afind_J {m : Nat} (l : List (List Int × β)) (hl : ∀ e ∈ l, e.1.length = m) (ns : List Int) (hn : ns.length = m) : afindA (List.replicate m .int) (ns.map (Value.int .i64)) (l.map fun e => (kJ e.1, .sc (f e.2))) = some ((getG l ns).map fun b => .sc (f b)) := by
  induction l with
  | nil => rfl
  | cons e l ih =>
    have ih := ih fun x hx => hl x (by simp [hx])
    simp only [List.map_cons, afindA, getG, kJ, alikeT_J m ns e.1 hn (hl e (by simp))]
    by_cases h : ns = e.1
    · subst h; simp
    · rw [if_neg (fun q => h q.symm), decide_eq_false h]
      exact ih
theorem aput_J {m : Nat} (l : List (List Int × β)) (hl : ∀ e ∈ l, e.1.length = m) (ns : List Int) (hn : ns.length = m) (b : β) : aputA (List.replicate m .int) (ns.map (Value.int .i64)) (.sc (f b)) (encG kJ f l) = some (encG kJ f (putG l ns b)) := by
  induction l with
  | nil => rfl
  | cons e l ih =>
    have ih := ih fun x hx => hl x (by simp [hx])
    simp only [encG, List.map_cons, aputA, putG, kJ, alikeT_J m ns e.1 hn (hl e (by simp))] at ih ⊢
    by_cases h : ns = e.1
    · subst h; simp
    · rw [if_neg (fun q => h q.symm), decide_eq_false h]
      simp only [ih, Option.map_some, List.map_cons]
theorem scs_ints (ns : List Int) : scs (ns.map fun n => AV.sc (Value.int .i64 n)) = some (ns.map (Value.int .i64)) := by
  induction ns with
  | nil => rfl
  | cons a l ih => simp only [List.map_cons, scs, ih]
theorem keyVs_J {m : Nat} (ns : List Int) (hn : ns.length = m) : keyVs (List.replicate m .int) (ns.map fun n => AV.sc (Value.int .i64 n)) = some (ns.map (Value.int .i64)) := by
  unfold keyVs
  rw [scs_ints]
  dsimp only
  rw [if_pos ⟨by simp [hn], by simp⟩]
def JMap (P : Program) (t : TypeId) (m : Nat) (z : AV) : Prop := ∃ kt d et, mapOf P t = some (kt, d, et) ∧ azero1 P et = some z ∧ keySig P kt = some (List.replicate m .int)
theorem jmap_mk {t kt et : TypeId} {m : Nat} {z : AV} (h1 : (mapOf P t).map (fun x => (x.1, x.2.2)) = some (kt, et)) (h2 : azero1 P et = some z) (h3 : keySig P kt = some (List.replicate m .int)) : JMap P t m z := by
  rw [Option.map_eq_some_iff] at h1
  obtain ⟨⟨kt', d, et'⟩, h, e⟩ := h1
  simp only [Prod.mk.injEq] at e
  obtain ⟨rfl, rfl⟩ := e
  exact ⟨_, d, _, h, h2, h3⟩
theorem alookO_J {t : TypeId} {d : β} {m : Nat} (h : JMap P t m (.sc (f d))) {ty k : Nat} {l : List (List Int × β)} (hl : ∀ e ∈ l, e.1.length = m) (ns : List Int) (hn : ns.length = m) :
    alookO P t (some (some ⟨ty, k, encG kJ f l⟩)) (.agg (ns.map fun n => .sc (.int .i64 n))) false = some (.sc (f ((getG l ns).getD d))) := by
  obtain ⟨kt, dd, et, hm, hz, hk⟩ := h
  simp only [alookO, hm, entsOf_encG, hk, keyVs_J ns hn, afind_J l hl ns hn, lkR]
  cases getG l ns with
  | none => simp [hz]
  | some b => simp
theorem alook_imJ {t : TypeId} {d : β} {m : Nat} (h : JMap P t m (.sc (f d))) {l : List (List Int × β)} (hl : ∀ e ∈ l, e.1.length = m) (ns : List Int) (hn : ns.length = m) :
    alookup P t H (.imap (imG kJ f l)) (.agg (ns.map fun n => .sc (.int .i64 n))) false = some (.sc (f ((getG l ns).getD d))) := by
  obtain ⟨kt, dd, et, hm, hz, hk⟩ := h
  have e : ents H (.imap (imG kJ f l)) = some (l.map fun e => (kJ e.1, .sc (f e.2))) := by simp [ents, imG]
  simp only [alookup, hm, e, hk, keyVs_J ns hn, afind_J l hl ns hn, lkR]
  cases getG l ns with
  | none => simp [hz]
  | some b => simp
theorem aupdO_J {t : TypeId} {d : β} {m : Nat} (h : JMap P t m (.sc (f d))) {id ty k : Nat} {l : List (List Int × β)} (hl : ∀ e ∈ l, e.1.length = m) (ns : List Int) (hn : ns.length = m) (b : β) :
    aupdO P t id H (some (some ⟨ty, k, encG kJ f l⟩)) (.agg (ns.map fun n => .sc (.int .i64 n))) (.sc (f b)) = some (H.set id (some ⟨ty, k, encG kJ f (putG l ns b)⟩)) := by
  obtain ⟨kt, dd, et, hm, hz, hk⟩ := h
  simp only [aupdO, hm, hk, keyVs_J ns hn, aput_J l hl ns hn b, Option.map_some]
end
open Go.RowKit
section
variable {E : Env} {H : Heap}
theorem aeff_mapEntry {t : TypeId} {x k : Operand} {ev : Operand → AV} {C : AV → Heap → Prop} : AEff E (.mapEntry t x k) ev H C = AEntry E t (ev x) (ev k) H C := rfl
theorem aeff_entryStore {t : TypeId} {x st v : Operand} {ev : Operand → AV} {C : AV → Heap → Prop} : AEff E (.entryStore t x st v) ev H C = AEStore (ev x) (ev st) (ev v) H C := rfl
attribute [go_sem ↓] aeff_mapEntry aeff_entryStore
theorem viewM_encG {κ β : Type} {kv : κ → Value} {f : β → Value} {ty k : Nat} {l : List (κ × β)} : viewM (some (some ⟨ty, k, encG kv f l⟩)) = .imap (imG kv f l) := by simp only [viewM, ents1_encG]
attribute [go_sem] viewM_encG
abbrev getS (m : List (List Int × Int)) (k : List Int) : Int := (getG m k).getD 0
theorem putG_nodup {κ β : Type} [DecidableEq κ] {k : κ} {v : β} : ∀ {l : List (κ × β)}, (l.map (·.1)).Nodup → ((putG l k v).map (·.1)).Nodup
  | [], _ => by simp [putG]
  | e :: l, h => by
    simp only [List.map_cons, List.nodup_cons] at h
    simp only [putG]
    split
    · rename_i he
      simp only [List.map_cons, List.nodup_cons]
      exact ⟨he ▸ h.1, h.2⟩
    · rename_i he
      simp only [List.map_cons, List.nodup_cons]
      refine ⟨fun hm => ?_, putG_nodup h.2⟩
      obtain ⟨x, hx, hxe⟩ := List.mem_map.1 hm
      rcases putG_mem hx with rfl | hx
      · exact he hxe.symm
      · exact h.1 (List.mem_map.2 ⟨x, hx, hxe⟩)
theorem putG_has {κ β : Type} [DecidableEq κ] (k : κ) (v : β) : ∀ l : List (κ × β), ∃ j : Nat, (putG l k v)[j]? = some (k, v)
  | [] => ⟨0, rfl⟩
  | e :: l => by
    simp only [putG]
    split
    · exact ⟨0, rfl⟩
    · obtain ⟨j, hj⟩ := putG_has k v l
      exact ⟨j + 1, by simpa using hj⟩
theorem putG_set {κ β : Type} [DecidableEq κ] {k : κ} {v u : β} : ∀ {l : List (κ × β)} {j : Nat}, (l.map (·.1)).Nodup → (putG l k v)[j]? = some (k, v) → (putG l k v).set j (k, u) = putG l k u
  | [], j, _, hj => by
    cases j with
    | zero => rfl
    | succ j => simp [putG] at hj
  | e :: l, j, h, hj => by
    simp only [List.map_cons, List.nodup_cons] at h
    simp only [putG] at hj ⊢
    by_cases he : e.1 = k
    · rw [if_pos he] at hj
      rw [if_pos he, if_pos he]
      cases j with
      | zero => rfl
      | succ j =>
        simp only [List.getElem?_cons_succ] at hj
        exact absurd (List.mem_map.2 ⟨_, List.mem_of_getElem? hj, he.symm⟩) h.1
    · rw [if_neg he] at hj
      rw [if_neg he, if_neg he]
      cases j with
      | zero =>
        simp only [List.getElem?_cons_zero, Option.some.injEq] at hj
        exact absurd (by rw [hj]) he
      | succ j =>
        simp only [List.getElem?_cons_succ] at hj
        rw [List.set_cons_succ, putG_set h.2 hj]
theorem hasAt_J {id ty k j : Nat} {M : List (List Int × Int)} {ns : List Int} {v : Int} {X : Heap} (hl : id < X.length) : HasAt (X.set id (some ⟨ty, k, encG kJ valI M⟩)) id j (kJ ns) (.sc (valI v)) → ∃ ms, M[j]? = some (ms, v) ∧ kJ ms = kJ ns := by
  rintro ⟨o, ho, he⟩
  rw [List.getElem?_set_self hl] at ho
  simp only [Option.some.injEq] at ho
  subst ho
  simp only [encG, List.getElem?_map, Option.map_eq_some_iff] at he
  obtain ⟨⟨ms, u⟩, h1, h2⟩ := he
  simp only [List.cons.injEq, AV.sc.injEq, and_true, valI, Value.int.injEq, true_and] at h2
  exact ⟨ms, by rw [h1, h2.2], h2.1⟩
theorem kJ_inj {ns ms : List Int} (h : kJ ns = kJ ms) : ns = ms := by
  simp only [kJ, Value.agg.injEq] at h
  have h := congrArg Array.toList h
  simp only at h
  exact List.map_inj_right (fun a b e => by simpa using e) |>.1 h
theorem keyV_J (ns : List Int) : keyV (.agg (ns.map fun n => .sc (.int .i64 n))) = some (kJ ns) := by simp only [keyV, scs_ints, Option.map_some]
theorem aentry_J {t : TypeId} {m : Nat} (h : JMap E.P t m (.sc (valI 0))) {id ty k : Nat} {M : List (List Int × Int)} (hH : H[id]? = some (some ⟨ty, k, encG kJ valI M⟩)) (hl : ∀ e ∈ M, e.1.length = m) (ns : List Int) (hn : ns.length = m) {C : AV → Heap → Prop}
    (hC : ∀ j : Nat, (putG M ns (getS M ns))[j]? = some (ns, getS M ns) → C (.tup [.sc (valI (getS M ns)), .sc (.int .i64 (j : Int))]) (H.set id (some ⟨ty, k, encG kJ valI (putG M ns (getS M ns))⟩))) :
    AEntry E t (.mref id) (.agg (ns.map fun n => .sc (.int .i64 n))) H C := by
  have hid := (List.getElem?_eq_some_iff.1 hH).1
  refine ⟨id, .sc (valI (getS M ns)), H.set id (some ⟨ty, k, encG kJ valI (putG M ns (getS M ns))⟩), kJ ns, rfl, ?_, ?_, keyV_J ns, ?_, fun j hj => ?_⟩
  · rw [alook_mref, hH]
    exact alookO_J (f := valI) h hl ns hn
  · rw [aupd_mref, hH]
    exact aupdO_J (f := valI) h hl ns hn _
  · obtain ⟨j, hj⟩ := putG_has ns (getS M ns) M
    exact ⟨j, _, List.getElem?_set_self hid, by simp only [encG, List.getElem?_map, hj, Option.map_some]⟩
  · obtain ⟨ms, h1, h2⟩ := hasAt_J hid hj
    rw [kJ_inj h2] at h1
    exact hC j h1
theorem aestore_J {id ty k j : Nat} {M : List (List Int × Int)} {ns : List Int} {v0 v : Int} (hH : H[id]? = some (some ⟨ty, k, encG kJ valI (putG M ns v0)⟩)) (hM : (M.map (·.1)).Nodup) (hj : (putG M ns v0)[j]? = some (ns, v0)) {C : AV → Heap → Prop}
    (hC : C (.sc undef) (H.set id (some ⟨ty, k, encG kJ valI (putG M ns v)⟩))) : AEStore (.mref id) (.sc (.int .i64 (j : Int))) (.sc (.int .i64 v)) H C := by
  refine ⟨id, j, _, kJ ns, .sc (valI v0), rfl, rfl, hH, by simp only [encG, List.getElem?_map, hj, Option.map_some], ?_⟩
  have e : (encG kJ valI (putG M ns v0)).set j [.sc (kJ ns), .sc (.int .i64 v)] = encG kJ valI (putG M ns v) := by
    rw [← putG_set (u := v) hM hj]
    simp only [encG, List.map_set, valI]
  simp only [e]
  exact hC
end
end Go.PA
namespace Go.Proofs.YtpllcolbcahicaaGreatDoor
open Go.PA
open Go.RowKit
def sKey (c : Int) (p : TPosting) : List Int := [c, p.Entity, p.Partner, p.Ref]
theorem getS_put (m : List (List Int × Int)) (k k' : List Int) (v : Int) : getS (putG m k v) k' = if k = k' then v else getS m k' := by
  unfold getS
  rw [get_putG]
  split <;> rfl
def spotP1 (m : List (List Int × Int)) (p : TPosting) : List (List Int × Int) := putG m (sKey p.Debit p) (getS m (sKey p.Debit p) + p.Amount)
def spotP (m : List (List Int × Int)) (p : TPosting) : List (List Int × Int) := putG (spotP1 m p) (sKey p.Credit p) (getS (spotP1 m p) (sKey p.Credit p) + -p.Amount)
def spotsM (day : Int) (l : List TPosting) : List (List Int × Int) := l.foldl (fun m p => if p.Day ≤ day then spotP m p else m) []
theorem spotsM_snoc (day : Int) (l : List TPosting) (p : TPosting) : spotsM day (l ++ [p]) = if p.Day ≤ day then spotP (spotsM day l) p else spotsM day l := by simp [spotsM]
theorem getS_spot1 {p : TPosting} (h : p.Debit ≠ p.Credit) (m : List (List Int × Int)) : getS (spotP1 m p) (sKey p.Credit p) = getS m (sKey p.Credit p) := by
  unfold spotP1
  rw [getS_put, if_neg]
  intro e
  simp [sKey] at e
  exact h e
theorem getS_spot {p : TPosting} (h : p.Debit ≠ p.Credit) (m : List (List Int × Int)) (c e q r : Int) : getS (spotP m p) [c, e, q, r] = getS m [c, e, q, r] + (if p.Entity = e ∧ p.Partner = q ∧ p.Ref = r then addP (fun b => decide (b = c)) p else 0) := by
  unfold spotP
  rw [getS_put, getS_spot1 h]
  unfold spotP1
  rw [getS_put]
  unfold addP
  simp only [sKey, List.cons.injEq, and_true, decide_eq_true_eq]
  by_cases h1 : p.Entity = e ∧ p.Partner = q ∧ p.Ref = r
  · obtain ⟨rfl, rfl, rfl⟩ := h1
    by_cases h2 : p.Debit = c
    · subst h2
      have h3 : ¬ p.Credit = p.Debit := fun e => h e.symm
      simp [h3]
    · by_cases h3 : p.Credit = c
      · subst h3
        simp [h2]
      · simp [h2, h3]
  · have n1 : ∀ x : Int, ¬ (x = c ∧ p.Entity = e ∧ p.Partner = q ∧ p.Ref = r) := fun x hx => h1 hx.2
    rw [if_neg (n1 _), if_neg (n1 _), if_neg h1]
    omega
theorem spots_get (day : Int) (l : List TPosting) (c e q r : Int) : (∀ p, p ∈ l → p.Debit ≠ p.Credit) → getS (spotsM day l) [c, e, q, r] = spotV l day c e q r := by
  induction l using snoc_ind with
  | h0 => intro _; rfl
  | h1 l p ih =>
    intro h
    have ih := ih fun x hx => h x (by simp [hx])
    have hp := h p (by simp)
    unfold spotV at *
    rw [spotsM_snoc, bal, netP_snoc]
    by_cases hd : p.Day ≤ day
    · rw [if_pos hd, getS_spot hp, ih]
      have : spotF day e q r p = decide (p.Entity = e ∧ p.Partner = q ∧ p.Ref = r) := by
        unfold spotF
        simp [hd, Bool.decide_and]
      rw [this]
      simp only [decide_eq_true_eq]
    · rw [if_neg hd, ih]
      have : spotF day e q r p = false := by
        unfold spotF
        simp [hd]
      rw [this]
      simp
theorem spots_len (day : Int) (l : List TPosting) : ∀ x, x ∈ spotsM day l → x.1.length = 4 := by
  induction l using snoc_ind with
  | h0 => intro x hx; simp [spotsM] at hx
  | h1 l p ih =>
    intro x hx
    rw [spotsM_snoc] at hx
    split at hx
    · rcases putG_mem hx with rfl | hx
      · rfl
      · rcases putG_mem hx with rfl | hx
        · rfl
        · exact ih x hx
    · exact ih x hx
theorem spots_nodup (day : Int) (l : List TPosting) : ((spotsM day l).map (·.1)).Nodup := by
  induction l using snoc_ind with
  | h0 => simp [spotsM]
  | h1 l p ih =>
    rw [spotsM_snoc]
    split
    · exact putG_nodup (putG_nodup ih)
    · exact ih
theorem spots_bound_take {l : List TPosting} (h : checkL l = 0) (day : Int) (k : Nat) (c e q r : Int) : -400000000000000 ≤ getS (spotsM day (l.take k)) [c, e, q, r] ∧ getS (spotsM day (l.take k)) [c, e, q, r] ≤ 400000000000000 := by
  obtain ⟨h1, h2, _⟩ := checkL_ok h
  have hm : ∀ p, p ∈ l.take k → PostOk p := fun p hp => h2 p (List.mem_of_mem_take hp)
  rw [spots_get day _ c e q r fun p hp => (hm p hp).ne]
  have := netP_bound (fun b => decide (b = c)) (spotF day e q r) (l.take k) fun p hp => (hm p hp).fine
  have hl : (l.take k).length ≤ 400 := by simp; omega
  show _ ≤ netP _ _ _ ∧ netP _ _ _ ≤ _
  omega
open Go.PA
open Go.RowKit
end Go.Proofs.YtpllcolbcahicaaGreatDoor
namespace Go.PA
open Go.RowKit
section
variable {E : Env} {w : World} {ρ : Places} {H : Heap} {ok : Nat → Prop}
theorem patch_get {α : Type} (es news : List α) (p i : Nat) (hp : p ≤ es.length) :
    (es.take p ++ news ++ es.drop (p + news.length))[i]? = if i < p then es[i]? else if i < p + news.length then news[i - p]? else es[i]? := by
  have h1 : (es.take p).length = p := by simp; omega
  split
  · rw [List.append_assoc, List.getElem?_append_left (by omega), List.getElem?_take, if_pos (by assumption)]
  · split
    · rw [List.append_assoc, List.getElem?_append_right (by omega), List.getElem?_append_left (by omega), h1]
    · rw [List.getElem?_append_right (by simp; omega), List.getElem?_drop]
      congr 1
      simp
      omega
theorem patch_sound (g : Good E w ρ H ok) {id b cap p : Nat} {o : AObj} (ho : H[id]? = some (some o)) (hρ : ρ id = some (b, cap)) (hcap : cap ≤ maxLen) (hp : p ≤ o.es.length) (news : List (List AV)) (hm : p + news.length ≤ cap)
    (hk : ∀ e, e ∈ news → e.length = o.k) (xs : List Value) (hxl : xs.length = news.length * o.k) (h1 : ∀ v ∈ xs, v.oneCell' = true)
    (hx : ∀ (i : Nat) (e : List AV) (j : Nat) (a : AV), news[i]? = some e → e[j]? = some a → ∃ c, xs[i * o.k + j]? = some c ∧ Rep w ρ H ok c a) :
    ∃ w', (storeCells ⟨b, p * o.k, none⟩ xs).run E.P w = .ok () w' ∧ Good E w' ρ (H.set id (some { o with es := o.es.take p ++ news ++ o.es.drop (p + news.length) })) ok ∧ Ext w ρ H ok w' ρ (H.set id (some { o with es := o.es.take p ++ news ++ o.es.drop (p + news.length) })) ok := by
  have hobj := g.obj id o ho
  rw [hρ] at hobj
  obtain ⟨cur, hb, hs, hl, hmx, hcell⟩ := hobj.cells hcap
  have hle : p * o.k + news.length * o.k ≤ cur.size := by
    rw [hs, ← Nat.add_mul]
    exact Nat.mul_le_mul_right _ hm
  have hst := run_storeCells_at E.P b (p * o.k) o.ty xs 0 cur w hb (by rw [hxl]; omega) h1
  simp only [Nat.add_zero] at hst
  generalize hnew : (cur.toList.take (p * o.k) ++ xs ++ cur.toList.drop (p * o.k + xs.length)).toArray = new at hst
  have hnewget : ∀ q, new[q]? = if q < p * o.k then cur[q]? else if q < p * o.k + news.length * o.k then xs[q - p * o.k]? else cur[q]? := fun q => by
    subst hnew
    have := splice_get cur.toList xs (p * o.k) q (by simp [hxl]; omega)
    rw [hxl] at this
    simpa [hxl] using this
  have hnewsize : new.size = cur.size := by
    subst hnew
    simp only [List.size_toArray, List.length_append, List.length_take, List.length_drop, Array.length_toList]
    rw [hxl]
    omega
  have hlen' : ∀ e ∈ o.es.take p ++ news ++ o.es.drop (p + news.length), e.length = o.k := fun e he => by
    rcases List.mem_append.1 he with he | he
    · rcases List.mem_append.1 he with he | he
      · exact g.len id o ho e (List.mem_of_mem_take he)
      · exact hk e he
    · exact g.len id o ho e (List.mem_of_mem_drop he)
  obtain ⟨g', x'⟩ := g.change (w' := w.setRow b new) ho hρ { o with es := o.es.take p ++ news ++ o.es.drop (p + news.length) } rfl (by simp; omega) hlen' rfl rfl rfl setRow_size (fun b' hb' => setRow_other hb') fun hxx => .inl ⟨new, setRow_block hb, hnewsize.trans hs, by simp; omega, hmx, fun i e j a hi hj => by
    simp only at hi
    have hjk : j < o.k := by
      have := hlen' e (List.mem_of_getElem? hi)
      have := (List.getElem?_eq_some_iff.1 hj).1
      omega
    rw [patch_get _ _ _ _ hp] at hi
    simp only
    rw [hnewget]
    split at hi
    · rename_i hip
      have : i * o.k + o.k ≤ p * o.k := by rw [← Nat.succ_mul]; exact Nat.mul_le_mul_right _ hip
      rw [if_pos (by omega)]
      obtain ⟨c, c1, c2, c3⟩ := hcell i e j a hi hj
      exact ⟨c, c1, c2, c3.ext hxx⟩
    · split at hi
      · rename_i hge hlt
        have h3 : p * o.k ≤ i * o.k := Nat.mul_le_mul_right _ (by omega)
        have h4 : i * o.k + o.k ≤ p * o.k + news.length * o.k := by rw [← Nat.succ_mul, ← Nat.add_mul]; exact Nat.mul_le_mul_right _ hlt
        rw [if_neg (by omega), if_pos (by omega)]
        obtain ⟨c, c1, c3⟩ := hx (i - p) e j a hi hj
        have e5 : i * o.k + j - p * o.k = (i - p) * o.k + j := by rw [Nat.sub_mul]; omega
        rw [e5]
        exact ⟨c, c1, h1 c (List.mem_of_getElem? c1), c3.ext hxx⟩
      · rename_i hge hge2
        have h4 : p * o.k + news.length * o.k ≤ i * o.k := by rw [← Nat.add_mul]; exact Nat.mul_le_mul_right _ (by omega)
        rw [if_neg (by omega), if_neg (by omega)]
        obtain ⟨c, c1, c2, c3⟩ := hcell i e j a hi hj
        exact ⟨c, c1, c2, c3.ext hxx⟩⟩
  exact ⟨_, hst, g', x'⟩
theorem dst_rep (g : Good E w ρ H ok) {v : Value} {x : AV} {id lo dn : Nat} {o : AObj} (hx : x = .sref id lo dn ∨ ∃ N, x = .full id lo dn N) (ho : H[id]? = some (some o)) (hpos : 0 < dn) (r : Rep w ρ H ok v x) :
    ∃ b cap c, v = .slice (some ⟨b, lo * o.k, none⟩) dn c ∧ ρ id = some (b, cap) ∧ lo + dn ≤ cap ∧ cap ≤ maxLen := by
  rcases hx with rfl | ⟨N, rfl⟩
  · cases r with
    | srefDead hd _ => rw [ho] at hd; cases hd
    | srefNil ho' hρ => omega
    | @sref _ _ _ c o' b cap ho' hρ hn hc hnc hcap =>
      rw [ho] at ho'
      simp only [Option.some.injEq] at ho'
      subst ho'
      have hobj := g.obj id o ho
      rw [hρ] at hobj
      obtain ⟨_, _, _, hl, _, _⟩ := hobj.cells hcap
      exact ⟨b, cap, c, rfl, hρ, by omega, hcap⟩
  · cases r with
    | fullDead hd _ => rw [ho] at hd; cases hd
    | @full _ _ _ _ o' b ho' hρ hn hN =>
      rw [ho] at ho'
      simp only [Option.some.injEq] at ho'
      subst ho'
      exact ⟨b, N, _, rfl, hρ, hn, hN⟩
theorem size1 {α : Type} {vs : Array α} (h : vs.size = 1) : ∃ a, vs = #[a] := by
  obtain ⟨l⟩ := vs
  match l, h with
  | [a], _ => exact ⟨a, rfl⟩
theorem zeroCells_get {z : Value} {k n i j : Nat} (hz : z.cells.size = k) (hi : i < n) (hj : j < k) : (Builtin.zeroCells z.cells n)[i * k + j]? = z.cells[j]? := by
  have hlt : i * k + j < n * k := by
    have : i * k + k ≤ n * k := by rw [← Nat.succ_mul]; exact Nat.mul_le_mul_right _ hi
    omega
  unfold Builtin.zeroCells
  rw [hz, Array.getElem?_map, Array.getElem?_range, if_pos hlt]
  simp only [Option.map_some, (divmod (i := i) hj).2]
  rw [getElem!_pos z.cells j (by omega), Array.getElem?_eq_getElem (by omega)]
theorem zeroCells_size {z : Value} {k n : Nat} (hz : z.cells.size = k) : (Builtin.zeroCells z.cells n).size = n * k := by simp [Builtin.zeroCells, hz]
theorem zeroCells_mem {z : Value} {k n : Nat} (hz : z.cells.size = k) (hk : 0 < k) {v : Value} (hv : v ∈ (Builtin.zeroCells z.cells n).toList) : v ∈ z.cells.toList := by
  obtain ⟨q, hq⟩ := List.getElem?_of_mem hv
  have hql : q < n * k := by have := (List.getElem?_eq_some_iff.1 hq).1; simpa [zeroCells_size (n := n) hz] using this
  have e := Nat.div_add_mod' q k
  have h1 : q / k < n := Nat.div_lt_of_lt_mul (by rw [Nat.mul_comm]; exact hql)
  have h2 : q % k < k := Nat.mod_lt _ hk
  have := zeroCells_get (n := n) hz h1 h2
  rw [e] at this
  rw [Array.getElem?_toList, this] at hq
  exact List.mem_of_getElem? (by simpa using hq)
theorem buiB_clear {t e : TypeId} {x : AV} {id lo dn : Nat} {o : AObj} {zs : List AV} {C : AV → Heap → Prop} {b : Bx C} (hx : x = .sref id lo dn ∨ ∃ N, x = .full id lo dn N) (ho : H[id]? = some (some o)) (he : elemOf E.P t = some e)
    (hk : o.k = szOf E.P e) (hk0 : 0 < o.k) (hz : zeros E.P e = some zs) (hpos : 0 < dn) (hp : lo ≤ o.es.length)
    (hC : C (.tup []) (H.set id (some { o with es := o.es.take lo ++ List.replicate dn zs ++ o.es.drop (lo + dn) }))) : BuiB E .clear #[t] [x] H C b := by
  refine ⟨⟨_, _, hC⟩, fun w ρ ok ty vs g hsz hr => ?_⟩
  obtain ⟨vx, rfl⟩ := size1 hsz
  have rx := hr 0 vx x rfl rfl
  obtain ⟨b', cap, c, rfl, hρ, hcap, hmx⟩ := dst_rep g hx ho hpos rx
  obtain ⟨i, z, hi, hzz, hzs, _, hzeq, h1⟩ := zeros_sound hz
  have hzl : zs.length = szOf E.P e := by rw [hzeq]; simpa using hzs
  obtain ⟨w', hst, g', x'⟩ := patch_sound g ho hρ hmx hp (List.replicate dn zs) (by simp; omega) (fun e' he' => by rw [List.eq_of_mem_replicate he', hk, hzl]) (Builtin.zeroCells z.cells dn).toList (by simp [zeroCells_size hzs, hk]) (fun v hv => h1 v (zeroCells_mem hzs (by omega) hv)) (fun i' e' j a hi' hj => by
    have hil : i' < dn := by have := (List.getElem?_eq_some_iff.1 hi').1; simpa using this
    rw [List.eq_of_mem_replicate (List.mem_of_getElem? hi')] at hj
    have hjl := (List.getElem?_eq_some_iff.1 hj).1
    rw [hzeq, List.getElem?_map, Option.map_eq_some_iff] at hj
    obtain ⟨c0, hc0, rfl⟩ := hj
    refine ⟨c0, ?_, ofCell_rep c0⟩
    rw [Array.getElem?_toList, hk, zeroCells_get hzs hil (by omega)]
    simpa using hc0)
  rw [List.length_replicate] at g' x'
  refine ⟨.tuple #[], w', _, _, ρ, ok, ?_, hC, g', x', .tup rfl (by simp)⟩
  obtain ⟨dn, rfl⟩ : ∃ m, dn = m + 1 := ⟨dn - 1, by omega⟩
  simp [buiRun, Builtin.clear_, run_underlying (elemOf_sound he), run_zeroValue' hi hzz, hst]
theorem buiB_clear_nil {t e : TypeId} {k : Nat} {C : AV → Heap → Prop} {b : Bx C} (he : elemOf E.P t = some e) (hC : C (.tup []) H) : BuiB E .clear #[t] [.list k []] H C b := by
  refine ⟨⟨_, _, hC⟩, fun w ρ ok ty vs g hsz hr => ?_⟩
  obtain ⟨vx, rfl⟩ := size1 hsz
  have rx := hr 0 vx _ rfl rfl
  have : ∃ A c, vx = .slice A 0 c := by
    cases rx with
    | listNil => exact ⟨_, _, rfl⟩
    | list f hn _ _ _ _ _ _ => subst hn; exact ⟨_, _, rfl⟩
  obtain ⟨A, c, rfl⟩ := this
  refine ⟨.tuple #[], w, _, _, ρ, ok, ?_, hC, g, Ext.refl _ _ _ _, .tup rfl (by simp)⟩
  cases A <;> simp [buiRun, Builtin.clear_, run_underlying (elemOf_sound he)]
end
def pickOk (ops : Array Oper) (S T : List Nat) (listed : Array Bool) (i : Nat) : Bool :=
  let A := ancs ops.toList []
  ((List.range ops.size).all fun j => match ops[j]? with
    | none => true
    | some o => !listed.getD j false || o.after.toList.all fun e => !Region.binds .any e || listed.getD e.on false) &&
  (decide (i ∈ Region.ready .any ops listed) && match ops[i]? with
    | none => false
    | some oi => (List.range ops.size).all fun j => match ops[j]? with
      | none => true
      | some oj => decide (j = i) || (listed.getD j true || ((A.getD j 0).testBit i || (oi.apart ops oj && swapOk S T i j oi oj))))
theorem xany_pick {E : Env} {ops : Array Oper} {D : Nat → Bool} {S T : List Nat} {K : St → Prop} {n : Nat} (i : Nat) {oi : Oper} {listed : Array Bool} {s : St} (hi : ops[i]? = some oi) (hc : pickOk ops S T listed i = true)
    (h : AXOps D E ops S T [oi] i s (fun s' => XAny D E ops S T K n (listed.setIfInBounds i true) s')) : XAny D E ops S T K (n + 1) listed s := by
  unfold pickOk at hc
  simp only [Bool.and_eq_true, decide_eq_true_eq] at hc
  obtain ⟨h1, h2, h3⟩ := hc
  rw [hi] at h3
  refine xany_first hi n listed s (fun j o ho hj e he hb => ?_) (fun j oj hoj hji hun hanc => ?_) h2 h
  · have := List.all_eq_true.1 h1 j (List.mem_range.2 (Array.getElem?_eq_some_iff.1 ho).1)
    simp only [ho, hj, Bool.not_true, Bool.false_or] at this
    have := List.all_eq_true.1 this e (by simpa using he)
    simpa [hb] using this
  · have := List.all_eq_true.1 h3 j (List.mem_range.2 (Array.getElem?_eq_some_iff.1 hoj).1)
    simp only [hoj, hji, hun, hanc, decide_false, Bool.false_or, Bool.and_eq_true] at this
    exact this
def SlIsT (H : Heap) (x : AV) (k : Nat) (es : List (List AV)) : Prop := x = .list k es ∨ (x = .nil ∧ es = []) ∨ ∃ id ty tl, x = .sref id 0 es.length ∧ H[id]? = some (some ⟨ty, k, es ++ tl⟩)
theorem SlIsT.kept {H H' : Heap} {x : AV} {k : Nat} {es : List (List AV)} (h : SlIsT H x k es) (hk : Kept [] H H') : SlIsT H' x k es := by
  rcases h with h | h | ⟨id, ty, tl, h1, h2⟩
  · exact .inl h
  · exact .inr (.inl h)
  · exact .inr (.inr ⟨id, ty, tl, h1, hk id _ (by simp) h2⟩)
theorem SlIsT.len {H : Heap} {x : AV} {k : Nat} {es : List (List AV)} (h : SlIsT H x k es) : alen H x = some (es.length : Int) := by
  rcases h with h | ⟨rfl, rfl⟩ | ⟨id, ty, tl, rfl, h2⟩
  · subst h; rfl
  · rfl
  · simp only [alen, h2]
theorem SlIsT.idx {P : Program} {t e : TypeId} {H : Heap} {x : AV} {k : Nat} {es : List (List AV)} (h : SlIsT H x k es) (ht : Go.PA.elemOf P t = some e) (hk : k = szOf P e) (hn : knownT P e = true) (i : Nat) (hi : i < es.length) :
    ∃ a, aindexAddr P t H x i = some a ∧ addrCells H a = some es[i] := by
  rcases h with h | ⟨rfl, rfl⟩ | ⟨id, ty, tl, rfl, h2⟩
  · subst h
    refine ⟨.iref es[i], ?_, rfl⟩
    rw [aix_list ht]
    simp [hk, hn, hi]
  · simp at hi
  · have hi' : i < es.length + tl.length := by omega
    refine ⟨.ref id i 0, ?_, ?_⟩
    · rw [aix_sref ht]
      simp [h2, hk, hn, hi, hi']
    · rw [addr_ref]
      simp [h2, List.getElem?_append_left hi, hi]
end Go.PA
namespace Go.Proofs.YtpllcolbcahicaaGreatDoor
open Go.PA
open Go.RowKit
theorem idxInt_pf (l : List Int) (v : Int) (hl : l.length ≤ 1000000) : PFun Tryz.prog none none 67 [intsL l, iv v] (· = iv (idxI (fun x => decide (v = x)) l)) := by
  refine pfun_intro Tryz.func67 rfl (by simp [Tryz.f67]) (by kernel_rfl) ?_
  intro E hP hr hs hW hN
  simp -dsimp -implicitDefEqProofs [-getElem?_pos, go_sem, hP, intsL]
  obtain ⟨I, hI⟩ : ∃ I : Nat → St → Prop, I = fun m s => ∃ k : Nat, k ≤ l.length ∧ m = l.length - k ∧ idxI (fun x => decide (v = x)) l = idxFrom (fun x => decide (v = x)) k (l.drop k) ∧ s.t 0 = intsL l ∧ s.t 1 = iv v ∧ s.t 7 = iv l.length ∧ s.t 8 = iv k := ⟨_, rfl⟩
  refine aloop0 I (l.length) (by rw [hN]; rfl) ?_ ?_
  · rw [hI]
    exact ⟨0, by omega, by omega, by simp [idxI], by simp -dsimp -implicitDefEqProofs [-getElem?_pos, go_sem, intsL], by simp -dsimp -implicitDefEqProofs [-getElem?_pos, go_sem], by simp -dsimp -implicitDefEqProofs [-getElem?_pos, go_sem], by simp -dsimp -implicitDefEqProofs [-getElem?_pos, go_sem]⟩
  intro m s hs'
  rw [hI] at hs'
  obtain ⟨k, hk, hm, hi, t0, t1, t7, t8⟩ := hs'
  simp -dsimp -implicitDefEqProofs [-getElem?_pos, go_sem, hP, t7, t8]
  refine condP (fun h => ?_) (fun h => ?_)
  · have hk : k < l.length := by simpa using h
    obtain ⟨a, ha⟩ : ∃ a, l[k]? = some a := ⟨_, List.getElem?_eq_getElem hk⟩
    have wk := wrap_in ((k : Int) + 1) (by omega)
    have hd : l.drop k = a :: l.drop (k + 1) := by
      rw [List.getElem?_eq_getElem hk] at ha
      rw [List.drop_eq_getElem_cons hk, Option.some.inj ha]
    rw [hd] at hi
    simp only [idxFrom] at hi
    simp -dsimp -implicitDefEqProofs [-getElem?_pos, go_sem, hP, t8, t1, t0, ha, intsL]
    by_cases hp : v = a
    · rw [if_pos (by simpa using hp)] at hi
      simp -dsimp -implicitDefEqProofs [-getElem?_pos, go_sem, hP, hp]
      rw [hp] at hi
      exact hi.symm
    · rw [if_neg (by simpa using hp)] at hi
      simp -dsimp -implicitDefEqProofs [-getElem?_pos, go_sem, hP, t8, wk, hp]
      refine ⟨l.length - (k + 1), by omega, ?_⟩
      rw [hI]
      exact ⟨k + 1, by omega, rfl, hi, by simp -dsimp -implicitDefEqProofs [-getElem?_pos, go_sem, t0], by simp -dsimp -implicitDefEqProofs [-getElem?_pos, go_sem, t1], by simp -dsimp -implicitDefEqProofs [-getElem?_pos, go_sem, t7], by simp -dsimp -implicitDefEqProofs [-getElem?_pos, go_sem]⟩
  · have hk : k = l.length := by simp at h; omega
    subst hk
    rw [List.drop_length] at hi
    simp -dsimp -implicitDefEqProofs [-getElem?_pos, go_sem, hP]
    exact hi.symm
theorem imm_intsX (l : List Int) : Imm (intsL l) := by simp [go_sem, intsL]
theorem hasInt_pf (l : List Int) (v : Int) (hl : l.length ≤ 1000000) : PFun Tryz.prog none none 35 [intsL l, iv v] (· = bv (decide (v ∈ l))) := by
  refine pfun_intro Tryz.func35 rfl (by simp [Tryz.f35]) (by kernel_rfl) ?_
  intro E hP hr hs hW hN
  simp -dsimp -implicitDefEqProofs [-getElem?_pos, go_sem, hP]
  refine callB_is ((idxInt_pf l v hl).lift _ _) hP en_67 (by simp [imm_intsX, imm_sc]) .sc ?_
  rcases idxI_spec (fun x => decide (v = x)) l with ⟨h1, h2⟩ | ⟨i, a, h1, h2, h3, _⟩
  · have : decide (v ∈ l) = false := decide_eq_false fun hv => by simpa using h2 v hv
    simp -dsimp -implicitDefEqProofs [-getElem?_pos, go_sem, hP, h1, this]
  · have d : decide ((0 : Int) ≤ (i : Int)) = true := decide_eq_true (by omega)
    have hva : v = a := by simpa using h2
    have : decide (v ∈ l) = true := decide_eq_true (hva ▸ List.mem_of_getElem? h1)
    simp -dsimp -implicitDefEqProofs [-getElem?_pos, go_sem, hP, h3, d, this]
open Go.PA
open Go.RowKit
theorem concheck_pf {l : List TPosting} (hck : checkL l = 0) (hll : l.length ≤ 400) : PFun Tryz.prog none none 90 [.agg [postsL l], intsL [1, 2]] (· = iv 0) := by
  refine pfun_intro Tryz.func90 rfl (by simp [Tryz.f90]) (by kernel_rfl) ?_
  intro E hP hr hs hW hN
  have ck := lcheck_pf ⟨l⟩ (by show l.length ≤ _; omega)
  rw [cL] at ck
  have ck : PFun Tryz.prog none none 22 [.agg [postsL l]] (· = iv 0) := by simpa [hck] using ck
  have ip := imm_posts l
  obtain ⟨G, hG⟩ : ∃ G : List Int, G = [1, 2] := ⟨_, rfl⟩
  have gl : G.length = 2 := by rw [hG]; rfl
  have g0 : G[0]? = some 1 := by rw [hG]; rfl
  have g1 : G[1]? = some 2 := by rw [hG]; rfl
  rw [← hG]
  simp -dsimp -implicitDefEqProofs [-getElem?_pos, go_sem, hP]
  refine callB_is (ck.lift _ _) hP en_22 (by simp [ip, imm_agg]) .sc ?_
  simp -dsimp -implicitDefEqProofs [-getElem?_pos, go_sem, hP, intsL]
  obtain ⟨I, hI⟩ : ∃ I : Nat → St → Prop, I = fun m s => ∃ k : Nat, k ≤ 2 ∧ m = 2 - k ∧ s.t 1 = intsL G ∧ s.t 13 = intsL G ∧ s.t 14 = iv G.length ∧ s.t 15 = iv k := ⟨_, rfl⟩
  refine aloop0 I (2) (by rw [hN]; rfl) ?_ ?_
  · rw [hI]
    exact ⟨0, by omega, by omega, by simp -dsimp -implicitDefEqProofs [-getElem?_pos, go_sem, intsL], by simp -dsimp -implicitDefEqProofs [-getElem?_pos, go_sem, intsL], by simp -dsimp -implicitDefEqProofs [-getElem?_pos, go_sem], by simp -dsimp -implicitDefEqProofs [-getElem?_pos, go_sem]⟩
  intro m s hs'
  rw [hI] at hs'
  obtain ⟨k, hk, hm, t1, t13, t14, t15⟩ := hs'
  rw [gl] at t14
  simp -dsimp -implicitDefEqProofs [-getElem?_pos, go_sem, hP, t14, t15]
  refine condP (fun h => ?_) (fun h => ?_)
  · have hk2 : k < 2 := by simp at h; omega
    have hk2 : k = 0 ∨ k = 1 := by omega
    have w0 : IntKind.i64.wrap 0 = 0 := rfl
    have w1 : IntKind.i64.wrap 1 = 1 := rfl
    have w2 : IntKind.i64.wrap 2 = 2 := rfl
    rcases hk2 with rfl | rfl
    · simp -dsimp -implicitDefEqProofs [-getElem?_pos, go_sem, hP, t13, t15, intsL, encI, g0, w0, w1]
      refine ⟨1, by omega, ?_⟩
      rw [hI]
      exact ⟨1, by omega, rfl, by simp -dsimp -implicitDefEqProofs [-getElem?_pos, go_sem, t1], by simp -dsimp -implicitDefEqProofs [-getElem?_pos, go_sem, t13], by simp -dsimp -implicitDefEqProofs [-getElem?_pos, go_sem, t14, gl], by simp -dsimp -implicitDefEqProofs [-getElem?_pos, go_sem, w0, w1, w2]⟩
    · simp -dsimp -implicitDefEqProofs [-getElem?_pos, go_sem, hP, t13, t15, t1, intsL, encI, g0, g1, w0, w1, w2]
      refine ⟨0, by omega, ?_⟩
      rw [hI]
      exact ⟨2, by omega, rfl, by simp -dsimp -implicitDefEqProofs [-getElem?_pos, go_sem, t1], by simp -dsimp -implicitDefEqProofs [-getElem?_pos, go_sem, t13], by simp -dsimp -implicitDefEqProofs [-getElem?_pos, go_sem, t14, gl], by simp -dsimp -implicitDefEqProofs [-getElem?_pos, go_sem, w0, w1, w2]⟩
  · simp -dsimp -implicitDefEqProofs [-getElem?_pos, go_sem, hP, t1, gl, intsL]
theorem concheck2_pf {l : List TPosting} {day : Int} (hck : checkL l = 0) (hll : l.length ≤ 400) (hd : 0 ≤ day ∧ day ≤ 36000) : PFun Tryz.prog none none 65 [.agg [postsL l], intsL [1, 2], iv day] (· = iv 0) := by
  refine pfun_intro Tryz.func65 rfl (by simp [Tryz.f65]) (by kernel_rfl) ?_
  intro E hP hr hs hW hN
  have ck := concheck_pf hck hll
  have ip := imm_posts l
  have ig : Imm (intsL [1, 2]) := imm_intsX _
  have d1 : decide (day < 0) = false := decide_eq_false (by omega)
  have d2 : decide ((36000 : Int) < day) = false := decide_eq_false (by omega)
  obtain ⟨G, hG⟩ : ∃ G, G = intsL [1, 2] := ⟨_, rfl⟩
  rw [← hG] at ck ig ⊢
  simp -dsimp -implicitDefEqProofs [-getElem?_pos, go_sem, hP]
  refine callB_is (ck.lift _ _) hP en_90 (by simp [ip, ig, imm_agg]) .sc ?_
  simp -dsimp -implicitDefEqProofs [-getElem?_pos, go_sem, hP, d1, d2]
theorem mutuals_pf : PFun Tryz.prog none none 70 [] (· = .agg [iv 1, iv 140, iv 240, iv 1, iv 2, iv 440, iv 540, iv (-1)]) := by
  refine pfun_intro Tryz.func70 rfl (by simp [Tryz.f70]) (by kernel_rfl) ?_
  intro E hP hr hs hW hN
  simp -dsimp -implicitDefEqProofs [-getElem?_pos, go_sem, hP]
  exact done (by simp -dsimp -implicitDefEqProofs [-getElem?_pos, go_sem]) rfl (by simp -dsimp -implicitDefEqProofs [-getElem?_pos, go_sem])
theorem sMap : JMap Tryz.prog 152 4 (.sc (valI 0)) := jmap_mk (kt := 157) (et := 3) (by kernel_rfl) (by kernel_rfl) (by kernel_rfl)
set_option maxHeartbeats 2000000 in
theorem spots_pf {l : List TPosting} (day : Int) (hck : checkL l = 0) (hll : l.length ≤ 400) : PFun Tryz.prog none none 69 [.agg [postsL l], iv day] (· = .imap (imG kJ valI (spotsM day l))) := by
  refine pfun_intro Tryz.func69 rfl (by simp [Tryz.f69]) (by kernel_rfl) ?_
  intro E hP hr hs hW hN
  have ck := lcheck_pf ⟨l⟩ (by show l.length ≤ _; omega)
  rw [cL] at ck
  have ck : PFun Tryz.prog none none 22 [.agg [postsL l]] (· = iv 0) := by simpa [hck] using ck
  have ip := imm_posts l
  have ne := fun p hp => ((checkL_ok hck).2.1 p hp)
  simp -dsimp -implicitDefEqProofs [-getElem?_pos, go_sem, hP]
  refine callB_is (ck.lift _ _) hP en_22 (by simp [ip, imm_agg]) .sc ?_
  simp -dsimp -implicitDefEqProofs [-getElem?_pos, go_sem, hP]
  obtain ⟨I, hI⟩ : ∃ I : Nat → St → Prop, I = fun m s => ∃ k : Nat, k ≤ l.length ∧ m = l.length - k ∧ s.t 1 = iv day ∧ s.t 5 = .mref 1 ∧ s.t 14 = postsL l ∧ s.t 15 = iv l.length ∧ s.t 16 = iv k ∧ s.H[1]? = some (some ⟨0, 2, encG kJ valI (spotsM day (l.take k))⟩) := ⟨_, rfl⟩
  refine aloop0 I (l.length) (by rw [hN]; rfl) ?_ ?_
  · rw [hI]
    exact ⟨0, by omega, by omega, by simp -dsimp -implicitDefEqProofs [-getElem?_pos, go_sem], by simp -dsimp -implicitDefEqProofs [-getElem?_pos, go_sem], by simp -dsimp -implicitDefEqProofs [-getElem?_pos, go_sem], by simp -dsimp -implicitDefEqProofs [-getElem?_pos, go_sem], by simp -dsimp -implicitDefEqProofs [-getElem?_pos, go_sem], by simp -dsimp -implicitDefEqProofs [-getElem?_pos, go_sem, List.take_zero]; rfl⟩
  intro m s hs'
  rw [hI] at hs'
  obtain ⟨k, hk, hm, t1, t5, t14, t15, t16, hH⟩ := hs'
  have hlt := (List.getElem?_eq_some_iff.1 hH).1
  simp -dsimp -implicitDefEqProofs [-getElem?_pos, go_sem, hP, t15, t16]
  refine condP (fun h => ?_) (fun h => ?_)
  · have hk : k < l.length := by simpa using h
    obtain ⟨p, hp⟩ : ∃ p, l[k]? = some p := ⟨_, List.getElem?_eq_getElem hk⟩
    have hfp := ne p (List.mem_of_getElem? hp)
    have wk := wrap_in ((k : Int) + 1) (by omega)
    have nx : spotsM day (l.take (k + 1)) = if p.Day ≤ day then spotP (spotsM day (l.take k)) p else spotsM day (l.take k) := by rw [List.take_add_one, hp]; exact spotsM_snoc _ _ _
    have g0 : ∀ x : Option AObj, (s.H ++ [x])[1]? = some (some ⟨0, 2, encG kJ valI (spotsM day (l.take k))⟩) := fun x => by rw [List.getElem?_append_left hlt]; exact hH
    by_cases hd : p.Day ≤ day
    rotate_left
    · rw [if_neg hd] at nx
      have d1 : decide (p.Day ≤ day) = false := decide_eq_false hd
      simp -dsimp -implicitDefEqProofs [-getElem?_pos, go_sem, hP, t14, t16, hp, cP, t1, d1, wk]
      refine ⟨l.length - (k + 1), by omega, ?_⟩
      rw [hI]
      exact ⟨k + 1, by omega, rfl, by simp -dsimp -implicitDefEqProofs [-getElem?_pos, go_sem, t1], by simp -dsimp -implicitDefEqProofs [-getElem?_pos, go_sem, t5], by simp -dsimp -implicitDefEqProofs [-getElem?_pos, go_sem, t14], by simp -dsimp -implicitDefEqProofs [-getElem?_pos, go_sem, t15], by simp -dsimp -implicitDefEqProofs [-getElem?_pos, go_sem], by rw [nx]; simp -dsimp -implicitDefEqProofs [-getElem?_pos, go_sem, g0]⟩
    rw [if_pos hd] at nx
    have d1 : decide (p.Day ≤ day) = true := decide_eq_true hd
    have hb := fun c e q r => spots_bound_take hck day k c e q r
    have hml := spots_len day (l.take k)
    have hnd := spots_nodup day (l.take k)
    have hm1 : ∀ x, x ∈ spotP1 (spotsM day (l.take k)) p → x.1.length = 4 := fun x hx => by
      rcases putG_mem hx with rfl | hx
      · rfl
      · exact hml x hx
    have hnd1 : ((spotP1 (spotsM day (l.take k)) p).map (·.1)).Nodup := putG_nodup hnd
    obtain ⟨M, hM⟩ : ∃ M, M = spotsM day (l.take k) := ⟨_, rfl⟩
    rw [← hM] at nx hb hml hm1 hH g0 hnd hnd1
    have amt := hfp.amt
    have b1 := hb p.Debit p.Entity p.Partner p.Ref
    have b2 := hb p.Credit p.Entity p.Partner p.Ref
    have ws1 := wrap_in (getS M (sKey p.Debit p) + p.Amount) (by unfold sKey; omega)
    obtain ⟨M1, hM1⟩ : ∃ M1, M1 = spotP1 M p := ⟨_, rfl⟩
    have q1 : getS M1 (sKey p.Credit p) = getS M (sKey p.Credit p) := by rw [hM1]; exact getS_spot1 hfp.ne M
    rw [← hM1] at hm1 hnd1
    have ws2 : IntKind.i64.wrap (getS M1 (sKey p.Credit p) - p.Amount) = getS M1 (sKey p.Credit p) + -p.Amount := by rw [q1, wrap_in _ (by unfold sKey; omega)]; omega
    have nx2 : spotP M p = putG M1 (sKey p.Credit p) (getS M1 (sKey p.Credit p) + -p.Amount) := by rw [spotP, ← hM1]
    have u1 : M1 = putG M (sKey p.Debit p) (getS M (sKey p.Debit p) + p.Amount) := hM1
    simp -dsimp -implicitDefEqProofs [-getElem?_pos, go_sem, hP, t14, t16, hp, cP, t1, d1, t5]
    obtain ⟨N, hN0⟩ : ∃ N, N = s.H.length := ⟨_, rfl⟩
    obtain ⟨H1, hH1⟩ : ∃ H1 : Heap, H1 = s.H ++ [some ⟨36, 8, [[iv p.Number, iv p.Day, iv p.Entity, iv p.Debit, iv p.Credit, iv p.Amount, iv p.Partner, iv p.Ref]]⟩] := ⟨_, rfl⟩
    have gp : H1[N]? = some (some ⟨36, 8, [[iv p.Number, iv p.Day, iv p.Entity, iv p.Debit, iv p.Credit, iv p.Amount, iv p.Partner, iv p.Ref]]⟩) := by rw [hH1, hN0]; simp
    have gm : H1[1]? = some (some ⟨0, 2, encG kJ valI M⟩) := by rw [hH1]; exact g0 _
    have nN : ¬ N = 1 := by omega
    have nN' : ¬ 1 = N := by omega
    rw [← hH1, ← hN0]
    refine adraw_cut (fun s' => s'.t 1 = iv day ∧ s'.t 5 = .mref 1 ∧ s'.t 7 = .ref N 0 0 ∧ s'.t 14 = postsL l ∧ s'.t 15 = iv l.length ∧ s'.t 16 = iv k ∧ s'.H[1]? = some (some ⟨0, 2, encG kJ valI M1⟩) ∧ s'.H[N]? = some (some ⟨36, 8, [[iv p.Number, iv p.Day, iv p.Entity, iv p.Debit, iv p.Credit, iv p.Amount, iv p.Partner, iv p.Ref]]⟩)) ?_ ?_
    · have lp := (List.getElem?_eq_some_iff.1 gp).1
      have lm := (List.getElem?_eq_some_iff.1 gm).1
      have sMapE : JMap E.P 152 4 (.sc (valI 0)) := hP ▸ sMap
      have lk : ∀ Mx : List (List Int × Int), (∀ e, e ∈ Mx → e.1.length = 4) → alookO Tryz.prog 152 (some (some ⟨0, 2, encG kJ valI Mx⟩)) (.agg [iv p.Debit, iv p.Entity, iv p.Partner, iv p.Ref]) false = some (iv (getS Mx (sKey p.Debit p))) := fun Mx hx => alookO_J (f := valI) sMap hx (sKey p.Debit p) rfl
      have lk1 := lk M hml
      have lk2 := lk (putG M (sKey p.Debit p) (getS M (sKey p.Debit p))) fun x hx => by
        rcases putG_mem hx with rfl | hx
        · rfl
        · exact hml x hx
      rw [getS_put, if_pos rfl] at lk2
      refine adrawK (fun i => decide (i = N) || decide (i = 1)) [10, 14, 16] [] 10 hP (by kernel_rfl) (by kernel_rfl) (by simp) ?_
      simp -dsimp -implicitDefEqProofs [-getElem?_pos, go_sem, hP, List.take_succ_cons, List.take_zero, restr_get, t5, gp, lp, List.getElem?_set_self, List.getElem?_set_ne, nN, nN', List.length_set, List.set_set]
      refine xany_pick 11 rfl (by kernel_rfl) ?_
      simp -dsimp -implicitDefEqProofs [-getElem?_pos, go_sem, hP, restr_get, t5, gp, lp, List.getElem?_set_self, List.getElem?_set_ne, nN, nN', List.length_set, List.set_set]
      refine xany_pick 12 rfl (by kernel_rfl) ?_
      simp -dsimp -implicitDefEqProofs [-getElem?_pos, go_sem, hP, restr_get, t5, gp, lp, List.getElem?_set_self, List.getElem?_set_ne, nN, nN', List.length_set, List.set_set]
      refine xany_two (i := 10) (j := 14) (by kernel_rfl) rfl rfl ?_ ?_
      · simp -dsimp -implicitDefEqProofs [-getElem?_pos, go_sem, hP, restr_get, t5, gp, lp, List.getElem?_set_self, List.getElem?_set_ne, nN, nN', List.length_set, List.set_set, gm, lk1]
        refine xany_pick 13 rfl (by kernel_rfl) ?_
        simp -dsimp -implicitDefEqProofs [-getElem?_pos, go_sem, hP, restr_get, t5, gp, lp, List.getElem?_set_self, List.getElem?_set_ne, nN, nN', List.length_set, List.set_set, ws1]
        refine xany_one (i := 14) (by kernel_rfl) rfl ?_
        simp -dsimp -implicitDefEqProofs [-getElem?_pos, go_sem, hP, restr_get, t5, gp, lp, List.getElem?_set_self, List.getElem?_set_ne, nN, nN', List.length_set, List.set_set]
        refine aentry_J sMapE gm hml (sKey p.Debit p) rfl fun j hj => ?_
        simp -dsimp -implicitDefEqProofs [-getElem?_pos, go_sem, hP, restr_get, t5, gp, lp, List.getElem?_set_self, List.getElem?_set_ne, nN, nN', List.length_set, List.set_set]
        refine xany_one (i := 15) (by kernel_rfl) rfl ?_
        simp -dsimp -implicitDefEqProofs [-getElem?_pos, go_sem, hP, restr_get, t5, gp, lp, List.getElem?_set_self, List.getElem?_set_ne, nN, nN', List.length_set, List.set_set]
        refine xany_one (i := 16) (by kernel_rfl) rfl ?_
        simp -dsimp -implicitDefEqProofs [-getElem?_pos, go_sem, hP, restr_get, t5, gp, lp, List.getElem?_set_self, List.getElem?_set_ne, nN, nN', List.length_set, List.set_set]
        refine aestore_J (List.getElem?_set_self lm) hnd hj ?_
        simp -dsimp -implicitDefEqProofs [-getElem?_pos, go_sem, hP, restr_get, t5, gp, lp, List.getElem?_set_self, List.getElem?_set_ne, nN, nN', List.length_set, List.set_set]
        refine xany_nil (by kernel_rfl) ?_
        exact ⟨by simp -dsimp -implicitDefEqProofs [-getElem?_pos, go_sem, t1], by simp -dsimp -implicitDefEqProofs [-getElem?_pos, go_sem, t5], by simp -dsimp -implicitDefEqProofs [-getElem?_pos, go_sem], by simp -dsimp -implicitDefEqProofs [-getElem?_pos, go_sem, t14], by simp -dsimp -implicitDefEqProofs [-getElem?_pos, go_sem, t15], by simp -dsimp -implicitDefEqProofs [-getElem?_pos, go_sem, t16], by rw [u1]; simp -dsimp -implicitDefEqProofs [-getElem?_pos, go_sem, List.getElem?_set_self, lm, List.set_set], by simp -dsimp -implicitDefEqProofs [-getElem?_pos, go_sem, List.getElem?_set_ne, nN, nN', gp]⟩
      · simp -dsimp -implicitDefEqProofs [-getElem?_pos, go_sem, hP, restr_get, t5, gp, lp, List.getElem?_set_self, List.getElem?_set_ne, nN, nN', List.length_set, List.set_set]
        refine aentry_J sMapE gm hml (sKey p.Debit p) rfl fun j hj => ?_
        simp -dsimp -implicitDefEqProofs [-getElem?_pos, go_sem, hP, restr_get, t5, gp, lp, List.getElem?_set_self, List.getElem?_set_ne, nN, nN', List.length_set, List.set_set]
        refine xany_pick 15 rfl (by kernel_rfl) ?_
        simp -dsimp -implicitDefEqProofs [-getElem?_pos, go_sem, hP, restr_get, t5, gp, lp, List.getElem?_set_self, List.getElem?_set_ne, nN, nN', List.length_set, List.set_set]
        refine xany_one (i := 10) (by kernel_rfl) rfl ?_
        simp -dsimp -implicitDefEqProofs [-getElem?_pos, go_sem, hP, restr_get, t5, gp, lp, List.getElem?_set_self, List.getElem?_set_ne, nN, nN', List.length_set, List.set_set, lm, lk2]
        refine xany_one (i := 13) (by kernel_rfl) rfl ?_
        simp -dsimp -implicitDefEqProofs [-getElem?_pos, go_sem, hP, restr_get, t5, gp, lp, List.getElem?_set_self, List.getElem?_set_ne, nN, nN', List.length_set, List.set_set, ws1]
        refine xany_one (i := 16) (by kernel_rfl) rfl ?_
        simp -dsimp -implicitDefEqProofs [-getElem?_pos, go_sem, hP, restr_get, t5, gp, lp, List.getElem?_set_self, List.getElem?_set_ne, nN, nN', List.length_set, List.set_set]
        refine aestore_J (List.getElem?_set_self lm) hnd hj ?_
        simp -dsimp -implicitDefEqProofs [-getElem?_pos, go_sem, hP, restr_get, t5, gp, lp, List.getElem?_set_self, List.getElem?_set_ne, nN, nN', List.length_set, List.set_set]
        refine xany_nil (by kernel_rfl) ?_
        exact ⟨by simp -dsimp -implicitDefEqProofs [-getElem?_pos, go_sem, t1], by simp -dsimp -implicitDefEqProofs [-getElem?_pos, go_sem, t5], by simp -dsimp -implicitDefEqProofs [-getElem?_pos, go_sem], by simp -dsimp -implicitDefEqProofs [-getElem?_pos, go_sem, t14], by simp -dsimp -implicitDefEqProofs [-getElem?_pos, go_sem, t15], by simp -dsimp -implicitDefEqProofs [-getElem?_pos, go_sem, t16], by rw [u1]; simp -dsimp -implicitDefEqProofs [-getElem?_pos, go_sem, List.getElem?_set_self, lm, List.set_set], by simp -dsimp -implicitDefEqProofs [-getElem?_pos, go_sem, List.getElem?_set_ne, nN, nN', gp]⟩
    · clear gp gm hH1
      rintro s1 ⟨t1, t5, t7, t14, t15, t16, gm, gp⟩
      have lp := (List.getElem?_eq_some_iff.1 gp).1
      have lm := (List.getElem?_eq_some_iff.1 gm).1
      have sMapE : JMap E.P 152 4 (.sc (valI 0)) := hP ▸ sMap
      have lk : ∀ Mx : List (List Int × Int), (∀ e, e ∈ Mx → e.1.length = 4) → alookO Tryz.prog 152 (some (some ⟨0, 2, encG kJ valI Mx⟩)) (.agg [iv p.Credit, iv p.Entity, iv p.Partner, iv p.Ref]) false = some (iv (getS Mx (sKey p.Credit p))) := fun Mx hx => alookO_J (f := valI) sMap hx (sKey p.Credit p) rfl
      have lk1 := lk M1 hm1
      have lk2 := lk (putG M1 (sKey p.Credit p) (getS M1 (sKey p.Credit p))) fun x hx => by
        rcases putG_mem hx with rfl | hx
        · rfl
        · exact hm1 x hx
      rw [getS_put, if_pos rfl] at lk2
      simp -dsimp -implicitDefEqProofs [-getElem?_pos, go_sem, hP]
      refine adrawK (fun i => decide (i = N) || decide (i = 1)) [10, 14, 16] [] 10 hP (by kernel_rfl) (by kernel_rfl) (by simp) ?_
      simp -dsimp -implicitDefEqProofs [-getElem?_pos, go_sem, hP, List.take_succ_cons, List.take_zero, restr_get, t5, gp, lp, List.getElem?_set_self, List.getElem?_set_ne, nN, nN', List.length_set, List.set_set, t7]
      refine xany_pick 11 rfl (by kernel_rfl) ?_
      simp -dsimp -implicitDefEqProofs [-getElem?_pos, go_sem, hP, restr_get, t5, gp, lp, List.getElem?_set_self, List.getElem?_set_ne, nN, nN', List.length_set, List.set_set, t7]
      refine xany_pick 12 rfl (by kernel_rfl) ?_
      simp -dsimp -implicitDefEqProofs [-getElem?_pos, go_sem, hP, restr_get, t5, gp, lp, List.getElem?_set_self, List.getElem?_set_ne, nN, nN', List.length_set, List.set_set, t7]
      refine xany_two (i := 10) (j := 14) (by kernel_rfl) rfl rfl ?_ ?_
      · simp -dsimp -implicitDefEqProofs [-getElem?_pos, go_sem, hP, restr_get, t5, gp, lp, List.getElem?_set_self, List.getElem?_set_ne, nN, nN', List.length_set, List.set_set, t7, gm, lk1]
        refine xany_pick 13 rfl (by kernel_rfl) ?_
        simp -dsimp -implicitDefEqProofs [-getElem?_pos, go_sem, hP, restr_get, t5, gp, lp, List.getElem?_set_self, List.getElem?_set_ne, nN, nN', List.length_set, List.set_set, t7, ws2]
        refine xany_one (i := 14) (by kernel_rfl) rfl ?_
        simp -dsimp -implicitDefEqProofs [-getElem?_pos, go_sem, hP, restr_get, t5, gp, lp, List.getElem?_set_self, List.getElem?_set_ne, nN, nN', List.length_set, List.set_set, t7]
        refine aentry_J sMapE gm hm1 (sKey p.Credit p) rfl fun j hj => ?_
        simp -dsimp -implicitDefEqProofs [-getElem?_pos, go_sem, hP, restr_get, t5, gp, lp, List.getElem?_set_self, List.getElem?_set_ne, nN, nN', List.length_set, List.set_set, t7]
        refine xany_one (i := 15) (by kernel_rfl) rfl ?_
        simp -dsimp -implicitDefEqProofs [-getElem?_pos, go_sem, hP, restr_get, t5, gp, lp, List.getElem?_set_self, List.getElem?_set_ne, nN, nN', List.length_set, List.set_set, t7]
        refine xany_one (i := 16) (by kernel_rfl) rfl ?_
        simp -dsimp -implicitDefEqProofs [-getElem?_pos, go_sem, hP, restr_get, t5, gp, lp, List.getElem?_set_self, List.getElem?_set_ne, nN, nN', List.length_set, List.set_set, t7]
        refine aestore_J (List.getElem?_set_self lm) hnd1 hj ?_
        simp -dsimp -implicitDefEqProofs [-getElem?_pos, go_sem, hP, restr_get, t5, gp, lp, List.getElem?_set_self, List.getElem?_set_ne, nN, nN', List.length_set, List.set_set, t7]
        refine xany_nil (by kernel_rfl) ?_
        simp -dsimp -implicitDefEqProofs [-getElem?_pos, go_sem, hP, t16, wk]
        refine ⟨l.length - (k + 1), by omega, ?_⟩
        rw [hI]
        exact ⟨k + 1, by omega, rfl, by simp -dsimp -implicitDefEqProofs [-getElem?_pos, go_sem, t1], by simp -dsimp -implicitDefEqProofs [-getElem?_pos, go_sem, t5], by simp -dsimp -implicitDefEqProofs [-getElem?_pos, go_sem, t14], by simp -dsimp -implicitDefEqProofs [-getElem?_pos, go_sem, t15], by simp -dsimp -implicitDefEqProofs [-getElem?_pos, go_sem], by rw [nx, nx2]; simp -dsimp -implicitDefEqProofs [-getElem?_pos, go_sem, List.getElem?_set_self, lm, List.set_set]⟩
      · simp -dsimp -implicitDefEqProofs [-getElem?_pos, go_sem, hP, restr_get, t5, gp, lp, List.getElem?_set_self, List.getElem?_set_ne, nN, nN', List.length_set, List.set_set, t7]
        refine aentry_J sMapE gm hm1 (sKey p.Credit p) rfl fun j hj => ?_
        simp -dsimp -implicitDefEqProofs [-getElem?_pos, go_sem, hP, restr_get, t5, gp, lp, List.getElem?_set_self, List.getElem?_set_ne, nN, nN', List.length_set, List.set_set, t7]
        refine xany_pick 15 rfl (by kernel_rfl) ?_
        simp -dsimp -implicitDefEqProofs [-getElem?_pos, go_sem, hP, restr_get, t5, gp, lp, List.getElem?_set_self, List.getElem?_set_ne, nN, nN', List.length_set, List.set_set, t7]
        refine xany_one (i := 10) (by kernel_rfl) rfl ?_
        simp -dsimp -implicitDefEqProofs [-getElem?_pos, go_sem, hP, restr_get, t5, gp, lp, List.getElem?_set_self, List.getElem?_set_ne, nN, nN', List.length_set, List.set_set, t7, lm, lk2]
        refine xany_one (i := 13) (by kernel_rfl) rfl ?_
        simp -dsimp -implicitDefEqProofs [-getElem?_pos, go_sem, hP, restr_get, t5, gp, lp, List.getElem?_set_self, List.getElem?_set_ne, nN, nN', List.length_set, List.set_set, t7, ws2]
        refine xany_one (i := 16) (by kernel_rfl) rfl ?_
        simp -dsimp -implicitDefEqProofs [-getElem?_pos, go_sem, hP, restr_get, t5, gp, lp, List.getElem?_set_self, List.getElem?_set_ne, nN, nN', List.length_set, List.set_set, t7]
        refine aestore_J (List.getElem?_set_self lm) hnd1 hj ?_
        simp -dsimp -implicitDefEqProofs [-getElem?_pos, go_sem, hP, restr_get, t5, gp, lp, List.getElem?_set_self, List.getElem?_set_ne, nN, nN', List.length_set, List.set_set, t7]
        refine xany_nil (by kernel_rfl) ?_
        simp -dsimp -implicitDefEqProofs [-getElem?_pos, go_sem, hP, t16, wk]
        refine ⟨l.length - (k + 1), by omega, ?_⟩
        rw [hI]
        exact ⟨k + 1, by omega, rfl, by simp -dsimp -implicitDefEqProofs [-getElem?_pos, go_sem, t1], by simp -dsimp -implicitDefEqProofs [-getElem?_pos, go_sem, t5], by simp -dsimp -implicitDefEqProofs [-getElem?_pos, go_sem, t14], by simp -dsimp -implicitDefEqProofs [-getElem?_pos, go_sem, t15], by simp -dsimp -implicitDefEqProofs [-getElem?_pos, go_sem], by rw [nx, nx2]; simp -dsimp -implicitDefEqProofs [-getElem?_pos, go_sem, List.getElem?_set_self, lm, List.set_set]⟩
  · have hk : k = l.length := by simp at h; omega
    subst hk
    rw [List.take_length] at hH
    simp -dsimp -implicitDefEqProofs [-getElem?_pos, go_sem, hP, t5]
    refine done (by simp -dsimp -implicitDefEqProofs [-getElem?_pos, go_sem, hH]) rfl (by simp -dsimp -implicitDefEqProofs [-getElem?_pos, go_sem, hH])
end Go.Proofs.YtpllcolbcahicaaGreatDoor
namespace Go.PA
open Go.RowKit
def sortZ (l : List Int) : List Int := l.mergeSort fun x y => decide (x ≤ y)
def SortsZ (P : Program) (f : FuncId) : Prop :=
  (∀ (zs : List Int) (blk cap : Nat) (w : World), Sort.Holds (Value.int .i64) w blk 0 zs.toArray → blk < w.heap.size → zs.length < 4611686018427387904 →
    Calls P f #[.slice (some ⟨blk, 0, none⟩) zs.length cap] w fun e w' => e = .returned (.tuple #[]) ∧ ∃ n os, w' = Sort.grow (Sort.putRow (Value.int .i64) (Sort.ahead w n) blk 0 (sortZ zs).toArray) os) ∧
  ∀ w : World, Calls P f #[.slice none 0 0] w fun e w' => e = .returned (.tuple #[]) ∧ w' = w
theorem putCells_get (zs : List Int) (c : Array Value) (k : Nat) : (Sort.putCells (Value.int .i64) 0 zs.toArray c)[k]? = (c[k]?).map fun x => if k < zs.length then .int .i64 (zs.toArray[k]!) else x := by
  unfold Sort.putCells
  rw [Array.getElem?_mapIdx]
  simp
theorem rowZ_sound {E : Env} {w : World} {ρ : Places} {H : Heap} {ok : Nat → Prop} (g : Good E w ρ H ok) {id ty b cap : Nat} {zs ys : List Int} (ho : H[id]? = some (some ⟨ty, 1, zs.map fun z => [AV.sc (.int .i64 z)]⟩)) (hρ : ρ id = some (b, cap)) (hcap : cap ≤ maxLen) (hl : ys.length = zs.length) (n' : Nat) (os : Array Obj) :
    Good E (Sort.grow (Sort.putRow (Value.int .i64) (Sort.ahead w n') b 0 ys.toArray) os) ρ (H.set id (some ⟨ty, 1, ys.map fun z => [AV.sc (.int .i64 z)]⟩)) ok ∧ Ext w ρ H ok (Sort.grow (Sort.putRow (Value.int .i64) (Sort.ahead w n') b 0 ys.toArray) os) ρ (H.set id (some ⟨ty, 1, ys.map fun z => [AV.sc (.int .i64 z)]⟩)) ok ∧ Sort.Holds (Value.int .i64) w b 0 zs.toArray ∧ b < w.heap.size ∧ zs.length ≤ cap := by
  have hobj := g.obj id _ ho
  rw [hρ] at hobj
  obtain ⟨cur, c1, c2, c3, c4, c5⟩ := hobj.cells hcap
  have hcell : ∀ j (z : Int), zs[j]? = some z → cur[j]? = some (Value.int .i64 z) := fun j z hz => by
    obtain ⟨c, d1, d2, d3⟩ := c5 j [AV.sc (Value.int .i64 z)] 0 (AV.sc (Value.int .i64 z)) (by show (zs.map _)[j]? = _; rw [List.getElem?_map, hz]; rfl) rfl
    cases d3
    simpa using d1
  have hH : Sort.Holds (Value.int .i64) w b 0 zs.toArray := fun j hj => by
    have hj : j < zs.length := by simpa using hj
    have := hcell j _ (List.getElem?_eq_getElem hj)
    refine ⟨?_, ?_⟩
    · simp [World.cell?, c1, this, hj]
    · simp [World.frozen?, c1]
  obtain ⟨g1, x1⟩ : Good E (Sort.ahead w n') ρ H ok ∧ Ext w ρ H ok (Sort.ahead w n') ρ H ok :=
    g.step (w' := Sort.ahead w n') (fun _ => False) rfl rfl rfl (Nat.le_refl _) (fun _ _ _ => rfl) (fun _ h => h.elim) (fun _ h => h) (fun _ h => .inl h)
  obtain ⟨g2, x2⟩ := g1.change (w' := Sort.putRow (Value.int .i64) (Sort.ahead w n') b 0 ys.toArray) ho hρ ⟨ty, 1, ys.map fun z => [AV.sc (.int .i64 z)]⟩ rfl (by simp [hl]) (by simp) rfl rfl rfl (by simp [Sort.putRow, Sort.mapBlock])
    (fun b' hb' => by simp [Sort.putRow, Sort.mapBlock, Array.getElem?_modify, Ne.symm hb'])
    (fun x => .inl ⟨Sort.putCells (Value.int .i64) 0 ys.toArray cur, by
      have c1' : (Sort.ahead w n').heap[b]? = some (.cells cur ty (0, 0)) := c1
      show ((Sort.ahead w n').heap.modify b (Sort.onCells _))[b]? = _
      rw [Array.getElem?_modify, if_pos rfl, c1']
      rfl, by simpa [Sort.putCells] using c2, by simpa [hl] using c3, c4, fun i e j a he ha => by
        simp only [List.getElem?_map, Option.map_eq_some_iff] at he
        obtain ⟨z, hz, rfl⟩ := he
        cases j with
        | succ j => simp at ha
        | zero =>
          simp only [List.getElem?_cons_zero, Option.some.injEq] at ha
          subst ha
          have hi : i < zs.length := by have := (List.getElem?_eq_some_iff.1 hz).1; omega
          obtain ⟨y, hy⟩ : ∃ y, zs[i]? = some y := ⟨_, List.getElem?_eq_getElem hi⟩
          refine ⟨Value.int .i64 z, ?_, rfl, .sc⟩
          rw [Nat.mul_one, Nat.add_zero, putCells_get, hcell i y hy, Option.map_some, if_pos (by omega)]
          simp [hz]⟩)
  obtain ⟨g3, x3⟩ : Good E (Sort.grow (Sort.putRow (Value.int .i64) (Sort.ahead w n') b 0 ys.toArray) os) ρ _ ok ∧ Ext _ ρ _ ok (Sort.grow (Sort.putRow (Value.int .i64) (Sort.ahead w n') b 0 ys.toArray) os) ρ _ ok :=
    g2.step (fun _ => False) rfl rfl rfl (by simp [Sort.grow]) (fun b' hb' _ => by simp only [Sort.grow]; rw [Array.getElem?_append_left hb']) (fun _ h => h.elim) (fun _ h => h) (fun _ h => .inl h)
  exact ⟨g3, x1.trans (x2.trans x3), hH, (Array.getElem?_eq_some_iff.1 c1).1, by simpa using c3⟩
theorem set_self {H : Heap} {id : Nat} {o : Option AObj} (ho : H[id]? = some o) : H.set id o = H := by
  apply List.ext_getElem?
  intro j
  rw [List.getElem?_set]
  split
  · rename_i e
    subst e
    rw [ho, if_pos (get_lt ho)]
  · rfl
theorem size_one {vs : Array Value} {a : AV} (h : vs.size = [a].length) : ∃ v, vs = #[v] := by
  obtain ⟨l⟩ := vs
  match l, h with
  | [v], _ => exact ⟨v, rfl⟩
theorem mfun_sort {P : Program} {row src : Option Nat} {f : FuncId} (h : SortsZ P f) {H : Heap} {id n ty : Nat} {zs : List Int} (hn : n = zs.length) (h9 : zs.length < 4611686018427387904)
    (ho : H[id]? = some (some ⟨ty, 1, zs.map fun z => [AV.sc (.int .i64 z)]⟩)) :
    MFun P row src f [.sref id 0 n] H fun r H' => r = .tup [] ∧ H' = H.set id (some ⟨ty, 1, (sortZ zs).map fun z => [AV.sc (.int .i64 z)]⟩) := by
  obtain ⟨hs1, hs0⟩ := h
  have hl : (sortZ zs).length = zs.length := List.length_mergeSort _
  intro E hP hr hs
  subst hP
  refine ⟨⟨_, _, rfl, rfl⟩, fun w ρ ok vs g hsz hrep => ?_⟩
  obtain ⟨v, rfl⟩ := size_one hsz
  have rv := hrep 0 v _ rfl rfl
  cases rv with
  | srefDead hd _ => rw [ho] at hd; cases hd
  | srefNil ho' hρ =>
    have z0 : zs = [] := List.eq_nil_of_length_eq_zero hn.symm
    subst z0
    refine (hs0 w).mono ?_
    rintro e w' ⟨rfl, rfl⟩
    exact ⟨.tuple #[], .tup [], H, ρ, ok, rfl, ⟨rfl, (set_self (by rw [ho]; simp [sortZ])).symm⟩, g, Ext.refl _ _ _ _, .tup rfl (by simp)⟩
  | @sref _ _ _ c o b cap ho' hρ hn' hcc hnc hcap =>
    rw [ho] at ho'
    simp only [Option.some.injEq] at ho'
    subst ho'
    obtain ⟨_, _, hH, hblt, _⟩ := rowZ_sound g ho hρ hcap hl 0 #[]
    subst hn
    refine (hs1 zs b c w hH hblt h9).mono ?_
    rintro e w' ⟨rfl, n', os, rfl⟩
    obtain ⟨g3, x3, _⟩ := rowZ_sound g ho hρ hcap hl n' os
    exact ⟨.tuple #[], .tup [], _, ρ, ok, rfl, ⟨rfl, rfl⟩, g3, x3, .tup rfl (by simp)⟩
def CompsZ (P : Program) (f : FuncId) (c : List Int → List Int) : Prop :=
  (∀ (zs : List Int) (blk cap : Nat) (w : World), Sort.Holds (Value.int .i64) w blk 0 zs.toArray → zs.length ≤ 9223372036854775807 → zs.length ≤ cap →
    Calls P f #[.slice (some ⟨blk, 0, none⟩) zs.length cap] w fun e w' => e = .returned (.slice (some ⟨blk, 0, none⟩) (c zs).length cap) ∧ ∃ q, w' = Sort.putRow (Value.int .i64) (Sort.ahead w q) blk 0 (c zs ++ List.replicate (zs.length - (c zs).length) 0).toArray) ∧
  (∀ w : World, Calls P f #[.slice none 0 0] w fun e w' => e = .returned (.slice none 0 0) ∧ w' = w) ∧ ∀ zs, (c zs).length ≤ zs.length
theorem mfun_comp {P : Program} {row src : Option Nat} {f : FuncId} {c : List Int → List Int} (h : CompsZ P f c) {H : Heap} {id n ty : Nat} {zs : List Int} (hn : n = zs.length) (h9 : zs.length < 4611686018427387904)
    (ho : H[id]? = some (some ⟨ty, 1, zs.map fun z => [AV.sc (.int .i64 z)]⟩)) :
    MFun P row src f [.sref id 0 n] H fun r H' => r = .sref id 0 (c zs).length ∧ H' = H.set id (some ⟨ty, 1, (c zs ++ List.replicate (zs.length - (c zs).length) 0).map fun z => [AV.sc (.int .i64 z)]⟩) := by
  obtain ⟨hs1, hs0, hlen⟩ := h
  have hl : (c zs ++ List.replicate (zs.length - (c zs).length) 0).length = zs.length := by have := hlen zs; simp; omega
  intro E hP hr hs
  subst hP
  refine ⟨⟨_, _, rfl, rfl⟩, fun w ρ ok vs g hsz hrep => ?_⟩
  obtain ⟨v, rfl⟩ := size_one hsz
  have rv := hrep 0 v _ rfl rfl
  cases rv with
  | srefDead hd _ => rw [ho] at hd; cases hd
  | srefNil ho' hρ =>
    have z0 : zs = [] := List.eq_nil_of_length_eq_zero hn.symm
    subst z0
    have c0 : c [] = [] := List.eq_nil_of_length_eq_zero (Nat.le_zero.1 (hlen []))
    refine (hs0 w).mono ?_
    rintro e w' ⟨rfl, rfl⟩
    rw [c0]
    exact ⟨_, _, H, ρ, ok, rfl, ⟨rfl, (set_self (by rw [ho]; simp)).symm⟩, g, Ext.refl _ _ _ _, .srefNil ho' hρ⟩
  | @sref _ _ _ k o b cap ho' hρ hn' hcc hnc hcap =>
    rw [ho] at ho'
    simp only [Option.some.injEq] at ho'
    subst ho'
    obtain ⟨_, _, hH, hblt, hzc⟩ := rowZ_sound g ho hρ hcap hl 0 #[]
    have hk : k = cap := hcc rfl
    subst hk
    subst hn
    refine (hs1 zs b k w hH (by omega) hzc).mono ?_
    rintro e w' ⟨rfl, q, rfl⟩
    obtain ⟨g3, x3, _⟩ := rowZ_sound g ho hρ hcap hl q #[]
    rw [Sort.grow_empty] at g3 x3
    have := hlen zs
    have hlive : (H.set id (some ⟨ty, 1, (c zs ++ List.replicate (zs.length - (c zs).length) 0).map fun z => [AV.sc (.int .i64 z)]⟩))[id]? = some (some ⟨ty, 1, (c zs ++ List.replicate (zs.length - (c zs).length) 0).map fun z => [AV.sc (.int .i64 z)]⟩) := by rw [List.getElem?_set, if_pos rfl, if_pos (get_lt ho)]
    have rr := Rep.sref (w := Sort.putRow (Value.int .i64) (Sort.ahead w q) b 0 (c zs ++ List.replicate (zs.length - (c zs).length) 0).toArray) (ok := ok) (lo := 0) (n := (c zs).length) (c := k) hlive hρ (by simp) (fun _ => rfl) (by omega) hcap
    exact ⟨_, _, _, ρ, ok, rfl, ⟨rfl, rfl⟩, g3, x3, rr⟩
end Go.PA
namespace Go.Proofs.YtpllcolbcahicaaGreatDoor
open Go.PA
open Go.RowKit
def sumF (v x : Int) (l : List Int) : Int := (l.map fun r => if r = v then x else 0).sum
theorem sumF_snoc (v x : Int) (l : List Int) (r : Int) : sumF v x (l ++ [r]) = sumF v x l + (if r = v then x else 0) := by simp [sumF]
theorem comp_sum {zs : List Int} (hs : zs.Pairwise (· ≤ ·)) (v x : Int) : ∀ m : Nat, m ≤ zs.length → sumF v x (Lib.compactUpTo zs.toArray m) = if v ∈ zs.take m then x else 0
  | 0, _ => by simp [Lib.compactUpTo, sumF]
  | m + 1, hm => by
    have ih := comp_sum hs v x m (by omega)
    obtain ⟨y, hy⟩ : ∃ y, zs[m]? = some y := ⟨_, List.getElem?_eq_getElem (by omega)⟩
    have hg : ∀ (j : Nat) (z : Int), zs[j]? = some z → zs.toArray[j]! = z := fun j z h => by
      obtain ⟨hj, rfl⟩ := List.getElem?_eq_some_iff.1 h
      rw [getElem!_pos zs.toArray j (by simpa using hj)]
      simp
    have le : ∀ (i j : Nat) (a b : Int), i ≤ j → zs[i]? = some a → zs[j]? = some b → a ≤ b := fun i j a b hij ha hb => by
      obtain ⟨hi, rfl⟩ := List.getElem?_eq_some_iff.1 ha
      obtain ⟨hj, rfl⟩ := List.getElem?_eq_some_iff.1 hb
      rcases Nat.lt_or_ge i j with h | h
      · exact List.pairwise_iff_getElem.1 hs i j hi hj h
      · have : i = j := by omega
        subst this
        exact Int.le_refl _
    rw [Lib.compactUpTo_succ, List.take_add_one, hy, hg m y hy]
    simp only [Option.toList_some, List.mem_append, List.mem_singleton]
    by_cases hv : y = v
    · subst hv
      rw [if_pos (show y ∈ zs.take m ∨ y = y from .inr rfl)]
      by_cases hin : y ∈ zs.take m
      · rw [if_pos hin] at ih
        obtain ⟨i, hi, e⟩ := List.mem_iff_getElem.1 hin
        have him : i < m := by simp at hi; omega
        have hi2 : zs[i]? = some y := by rw [← e, List.getElem_take]; exact List.getElem?_eq_getElem (by omega)
        obtain ⟨z, hz⟩ : ∃ z, zs[m - 1]? = some z := ⟨_, List.getElem?_eq_getElem (by omega)⟩
        have h1 := le i (m - 1) y z (by omega) hi2 hz
        have h2 := le (m - 1) m z y (by omega) hz hy
        have hzy : z = y := by omega
        have hk : Lib.keeps zs.toArray m = false := Lib.keeps_neg (by omega) (by rw [hg m y hy, hg (m - 1) z hz, hzy])
        rw [hk, if_neg (by simp), List.append_nil, ih]
      · rw [if_neg hin] at ih
        have hk : Lib.keeps zs.toArray m = true := by
          by_cases h0 : m = 0
          · subst h0
            exact Lib.keeps_lt_one _ 0 (by omega)
          · obtain ⟨z, hz⟩ : ∃ z, zs[m - 1]? = some z := ⟨_, List.getElem?_eq_getElem (by omega)⟩
            refine Lib.keeps_pos ?_
            rw [hg m y hy, hg (m - 1) z hz]
            intro e
            subst e
            exact hin (List.mem_iff_getElem?.2 ⟨m - 1, by rw [List.getElem?_take, if_pos (by omega)]; exact hz⟩)
        rw [hk, if_pos rfl, sumF_snoc, ih, if_pos rfl]
        omega
    · have e : (v ∈ zs.take m ∨ v = y) ↔ v ∈ zs.take m := ⟨fun h => h.elim id fun h => absurd h.symm hv, .inl⟩
      simp only [e]
      by_cases hk : Lib.keeps zs.toArray m = true
      · rw [hk, if_pos rfl, sumF_snoc, ih, if_neg hv]
        omega
      · rw [if_neg hk, List.append_nil, ih]
def refsZ (l : List TPosting) : List Int := Lib.compact (sortZ (l.map (·.Ref)))
theorem refsZ_sum (l : List TPosting) (v x : Int) : sumF v x (refsZ l) = if v ∈ l.map (·.Ref) then x else 0 := by
  have hs : (sortZ (l.map (·.Ref))).Pairwise (· ≤ ·) := by
    have := List.pairwise_mergeSort (le := fun x y : Int => decide (x ≤ y)) (fun a b c h1 h2 => by simp at *; omega) (fun a b => by simp; omega) (l.map (·.Ref))
    exact this.imp fun h => by simpa using h
  have := comp_sum hs v x (sortZ (l.map (·.Ref))).length (Nat.le_refl _)
  rw [List.take_length] at this
  show sumF v x (Lib.compactUpTo _ _) = _
  rw [this]
  simp only [sortZ, List.mem_mergeSort]
theorem refsZ_len (l : List TPosting) : (refsZ l).length ≤ l.length := by
  refine Nat.le_trans (Lib.compact_length_le _) ?_
  simp [sortZ, List.length_mergeSort]
structure Made (a : TAccount) (x i u q o v : Int) (L X Y : List TPosting) : Prop where
  hL : L = entriesL a 1 1 ++ [pA (entriesL a 1 1).length x, pB (entriesL a 1 1).length x]
  hX : X = L ++ adjL L.length 359 i u q o v
  hY : Y = reopGo 1 359 X X
  ca : checkA a = 0
  hd : ∀ e, e ∈ a.Entries → e.Day ≤ 300
  hn : a.Entries.length ≤ 20
  hb : (1 ≤ x ∧ x ≤ 1000) ∧ (-1000000000000 ≤ i ∧ i ≤ 1000000000000) ∧ (-1000000000000 ≤ u ∧ u ≤ 1000000000000) ∧ (-1000000000000 ≤ q ∧ q ≤ 1000000000000) ∧ (-1000000000000 ≤ o ∧ o ≤ 1000000000000) ∧ (-1000000000000 ≤ v ∧ v ≤ 1000000000000)
section
variable {a : TAccount} {x i u q o v : Int} {L X Y : List TPosting}
theorem Made.elen (h : Made a x i u q o v L X Y) : (entriesL a 1 1).length ≤ 20 := by
  have := entGo_len 1 1 a.Entries []
  have hn := h.hn
  rw [entriesL, if_pos ⟨h.ca, by omega, by omega⟩]
  simp at this
  omega
theorem Made.elast (h : Made a x i u q o v L X Y) : lastP (entriesL a 1 1) ≤ 300 := by
  unfold lastP
  cases hl : (entriesL a 1 1).getLast? with
  | none => simp
  | some p => simpa using (entriesL_mem h.ca h.hd p (List.mem_of_getLast? hl)).day
theorem Made.post1 (h : Made a x i u q o v L X Y) : postL (entriesL a 1 1) (pA (entriesL a 1 1).length x) = (entriesL a 1 1 ++ [pA (entriesL a 1 1).length x], 0) := by
  have := h.elen
  exact postL_good (entriesL_check h.ca) (pA_ok (by omega) h.hb.1) rfl h.elast (by omega)
theorem Made.post2 (h : Made a x i u q o v L X Y) : postL (entriesL a 1 1 ++ [pA (entriesL a 1 1).length x]) (pB (entriesL a 1 1).length x) = (L, 0) ∧ checkL L = 0 ∧ lastP L = 300 ∧ L.length = (entriesL a 1 1).length + 2 := by
  have hn := h.elen
  have c1 : checkL (entriesL a 1 1 ++ [pA (entriesL a 1 1).length x]) = 0 := check_snoc (entriesL_check h.ca) (pA_ok (by omega) h.hb.1) rfl h.elast (by omega)
  have hd : lastP (entriesL a 1 1 ++ [pA (entriesL a 1 1).length x]) ≤ (pB (entriesL a 1 1).length x).Day := by rw [lastP_snoc]; exact Int.le_refl _
  have e : L = (entriesL a 1 1 ++ [pA (entriesL a 1 1).length x]) ++ [pB (entriesL a 1 1).length x] := by rw [h.hL]; simp
  have hb := pB_ok (n := (entriesL a 1 1).length) (x := x) (by omega) h.hb.1
  have hnn : (pB (entriesL a 1 1).length x).Number = ((entriesL a 1 1 ++ [pA (entriesL a 1 1).length x]).length : Int) + 1 := by simp [pB]
  have hln : (entriesL a 1 1 ++ [pA (entriesL a 1 1).length x]).length < 400 := by simp; omega
  refine ⟨?_, ?_, ?_, ?_⟩
  · rw [e]; exact postL_good c1 hb hnn hd hln
  · rw [e]; exact check_snoc c1 hb hnn hd hln
  · rw [e, lastP_snoc]; rfl
  · rw [e]; simp
theorem Made.close (h : Made a x i u q o v L X Y) : ClO L.length 359 (adjL L.length 359 i u q o v) ∧ (adjL L.length 359 i u q o v).length ≤ 5 ∧ checkL X = 0 ∧ lastP X ≤ 359 ∧ X.length ≤ 27 := by
  obtain ⟨_, b2, b3, b4, b5, b6⟩ := h.hb
  obtain ⟨h1, h2⟩ := adjL_ok L.length 359 b2 b3 b4 b5 b6
  obtain ⟨_, k1, k2, k3⟩ := h.post2
  have := h.elen
  obtain ⟨c1, c2⟩ := check_app k1 (by omega) (by omega) _ h1 (by omega)
  rw [← h.hX] at c1 c2
  refine ⟨h1, h2, c1, c2, ?_⟩
  rw [h.hX, List.length_append]
  omega
theorem Made.turn (h : Made a x i u q o v L X Y) : BkOk a x Y := by
  obtain ⟨h1, h2, h3, h4, h5⟩ := h.close
  obtain ⟨_, k1, k2, k3⟩ := h.post2
  have hl := h.hL
  have mem : ∀ p, p ∈ X → turnB 1 359 p = true → ClP 359 p := fun p hp ht => by
    rw [h.hX] at hp
    rcases List.mem_append.1 hp with hp | hp
    · exfalso
      have hd : p.Day = 359 := by simp [turnB] at ht; omega
      rw [hl] at hp
      rcases List.mem_append.1 hp with hp | hp
      · have := (entriesL_mem h.ca h.hd p hp).day
        omega
      · simp at hp
        rcases hp with rfl | rfl <;> simp [pA, pB] at hd
    · exact h1.all p hp
  obtain ⟨T, t1, t2, t3⟩ := reopGo_ok 359 X X 0 mem
  have tl : T.length ≤ X.length := Nat.le_trans t2 (List.length_filter_le _ _)
  obtain ⟨c1, c2⟩ := check_app (day := 360) h3 (by omega) (by omega) T t3 (by omega)
  rw [← t1, ← h.hY] at c1
  refine ⟨c1, by rw [h.hY, t1, List.length_append]; omega, adjL L.length 359 i u q o v ++ T, ?_, fun p hp => ?_⟩
  · rw [h.hY, t1, h.hX, ← hl, List.append_assoc]
  · rcases List.mem_append.1 hp with hp | hp
    · exact .inl (h1.all p hp)
    · exact .inr (t3.all p hp)
end
open Go.Shelf
def sortZl_ren : Go.Shelf.Ren := ⟨fun | 5 => 91 | 8 => 134 | 7 => 133 | 19 => 176 | 20 => 177 | 10 => 167 | 11 => 168 | 12 => 169 | 13 => 170 | 14 => 171 | 15 => 172 | 16 => 173 | 17 => 174 | 18 => 175 | 30 => 212 | 31 => 213 | 32 => 214 | 33 => 215 | 34 => 216 | 35 => 138 | 40 => 260 | n => n, fun | 23 => 22 | 25 => 3 | 3 => 3 | 32 => 234 | 22 => 22 | 0 => 0 | 44 => 275 | 46 => 277 | 4 => 4 | 36 => 269 | 35 => 268 | 41 => 180 | 5 => 5 | 9 => 9 | 53 => 314 | 57 => 318 | 63 => 349 | 64 => 350 | n => n, fun | n => n⟩
theorem sortZl : Go.Proofs.SlLaysM.n5 Tryz.prog sortZl_ren := {
  mixed := by kernel_rfl
  f5 := ⟨Tryz.f91.name, by decide, Tryz.func91.trans (congrArg some (by kernel_rfl))⟩
  f7 := ⟨Tryz.f133.name, by decide, Tryz.func133.trans (congrArg some (by kernel_rfl))⟩
  f8 := Tryz.func134.trans (congrArg some (by kernel_rfl))
  f10 := ⟨Tryz.f167.name, by decide, Tryz.func167.trans (congrArg some (by kernel_rfl))⟩
  f11 := ⟨Tryz.f168.name, by decide, Tryz.func168.trans (congrArg some (by kernel_rfl))⟩
  f12 := ⟨Tryz.f169.name, by decide, Tryz.func169.trans (congrArg some (by kernel_rfl))⟩
  f13 := ⟨Tryz.f170.name, by decide, Tryz.func170.trans (congrArg some (by kernel_rfl))⟩
  f14 := ⟨Tryz.f171.name, by decide, Tryz.func171.trans (congrArg some (by kernel_rfl))⟩
  f15 := ⟨Tryz.f172.name, by decide, Tryz.func172.trans (congrArg some (by kernel_rfl))⟩
  f16 := ⟨Tryz.f173.name, by decide, Tryz.func173.trans (congrArg some (by kernel_rfl))⟩
  f17 := ⟨Tryz.f174.name, by decide, Tryz.func174.trans (congrArg some (by kernel_rfl))⟩
  f18 := ⟨Tryz.f175.name, by decide, Tryz.func175.trans (congrArg some (by kernel_rfl))⟩
  f19 := Tryz.func176.trans (congrArg some (by kernel_rfl))
  f20 := Tryz.func177.trans (congrArg some (by kernel_rfl))
  f30 := ⟨Tryz.f212.name, by decide, Tryz.func212.trans (congrArg some (by kernel_rfl))⟩
  f31 := Tryz.func213.trans (congrArg some (by kernel_rfl))
  f32 := Tryz.func214.trans (congrArg some (by kernel_rfl))
  f33 := ⟨Tryz.f215.name, by decide, Tryz.func215.trans (congrArg some (by kernel_rfl))⟩
  f34 := ⟨Tryz.f216.name, by decide, Tryz.func216.trans (congrArg some (by kernel_rfl))⟩
  f35 := ⟨Tryz.f138.name, by decide, Tryz.func138.trans (congrArg some (by kernel_rfl))⟩
  f40 := ⟨Tryz.f260.name, by decide, Tryz.func260.trans (congrArg some (by kernel_rfl))⟩
  t0 := Tryz.underlying0
  a0 := Tryz.isAgg0
  z0 := Tryz.sizeOf0
  v0 := Tryz.zeroValue0
  t3 := Tryz.underlying3
  a3 := Tryz.isAgg3
  z3 := Tryz.sizeOf3
  v3 := Tryz.zeroValue3
  t4 := Tryz.underlying4
  a4 := Tryz.isAgg4
  z4 := Tryz.sizeOf4
  v4 := Tryz.zeroValue4
  t5 := Tryz.underlying5
  a5 := Tryz.isAgg5
  z5 := Tryz.sizeOf5
  v5 := Tryz.zeroValue5
  t9 := Tryz.underlying9
  a9 := Tryz.isAgg9
  z9 := Tryz.sizeOf9
  v9 := Tryz.zeroValue9
  t22 := Tryz.underlying22
  a22 := Tryz.isAgg22
  z22 := Tryz.sizeOf22
  v22 := Tryz.zeroValue22
  t23 := Tryz.underlying22
  a23 := Tryz.isAgg22
  z23 := Tryz.sizeOf22
  v23 := Tryz.zeroValue22
  t25 := Tryz.underlying3
  a25 := Tryz.isAgg3
  z25 := Tryz.sizeOf3
  v25 := Tryz.zeroValue3
  t32 := Tryz.underlying234
  a32 := Tryz.isAgg234
  z32 := Tryz.sizeOf234
  v32 := Tryz.zeroValue234
  t35 := Tryz.underlying268
  a35 := Tryz.isAgg268
  z35 := Tryz.sizeOf268
  v35 := Tryz.zeroValue268
  t36 := Tryz.underlying269
  a36 := Tryz.isAgg269
  z36 := Tryz.sizeOf269
  v36 := Tryz.zeroValue269
  t41 := Tryz.underlying180
  a41 := Tryz.isAgg180
  z41 := Tryz.sizeOf180
  v41 := Tryz.zeroValue180
  t44 := Tryz.underlying275
  a44 := Tryz.isAgg275
  z44 := Tryz.sizeOf275
  v44 := Tryz.zeroValue275
  t46 := Tryz.underlying277
  a46 := Tryz.isAgg277
  z46 := Tryz.sizeOf277
  v46 := Tryz.zeroValue277
  t53 := Tryz.underlying314
  a53 := Tryz.isAgg314
  z53 := Tryz.sizeOf314
  v53 := Tryz.zeroValue314
  t57 := Tryz.underlying318
  a57 := Tryz.isAgg318
  z57 := Tryz.sizeOf318
  v57 := Tryz.zeroValue318
  t63 := Tryz.underlying349
  a63 := Tryz.isAgg349
  z63 := Tryz.sizeOf349
  v63 := Tryz.zeroValue349
  t64 := Tryz.underlying350
  a64 := Tryz.isAgg350
  z64 := Tryz.sizeOf350
  v64 := Tryz.zeroValue350 }
def compZl_ren : Go.Shelf.Ren := ⟨fun | 20 => 92 | n => n, fun | 22 => 22 | 3 => 3 | 4 => 4 | 0 => 0 | n => n, fun | n => n⟩
theorem compZl : Go.Proofs.Lays2.n20 Tryz.prog compZl_ren := {
  mixed := by kernel_rfl
  f20 := Tryz.func92.trans (congrArg some (by kernel_rfl))
  t0 := Tryz.underlying0
  a0 := Tryz.isAgg0
  z0 := Tryz.sizeOf0
  v0 := Tryz.zeroValue0
  t3 := Tryz.underlying3
  a3 := Tryz.isAgg3
  z3 := Tryz.sizeOf3
  v3 := Tryz.zeroValue3
  t4 := Tryz.underlying4
  a4 := Tryz.isAgg4
  z4 := Tryz.sizeOf4
  v4 := Tryz.zeroValue4
  t22 := Tryz.underlying22
  a22 := Tryz.isAgg22
  z22 := Tryz.sizeOf22
  v22 := Tryz.zeroValue22
  i3 := by kernel_rfl }
end Go.Proofs.YtpllcolbcahicaaGreatDoor
namespace Go.PA
open Go.RowKit
theorem mfun_cut {P : Program} {row src : Option Nat} {f : FuncId} {args : List AV} {H : Heap} {C D : AV → Heap → Prop} (h : MFun P row src f args H C)
    (hd : ∀ r H', C r H' → ∃ id n o, r = .sref id 0 n ∧ H'[id]? = some (some o) ∧ n ≤ o.es.length ∧ D (.sref H'.length 0 n) (H'.set id none ++ [some ⟨o.ty, o.k, o.es.take n⟩])) : MFun P row src f args H D := by
  intro E hP hrow hsrc
  obtain ⟨⟨x0, H0, h0⟩, hw⟩ := h E hP hrow hsrc
  refine ⟨?_, fun w ρ ok vs g hs hr => (hw w ρ ok vs g hs hr).mono ?_⟩
  · obtain ⟨_, _, _, _, _, _, h1⟩ := hd _ _ h0
    exact ⟨_, _, h1⟩
  · rintro e w' ⟨v, x, H', ρ', ok', rfl, hc, g', x', r'⟩
    obtain ⟨id, n, o, rfl, ho, hn, h1⟩ := hd _ _ hc
    obtain ⟨g2, x2⟩ := g'.kill id ok' (fun _ h => h) (fun _ h => .inl h)
    have hlen : (H'.set id none).length = H'.length := by simp
    have hnew : ∀ y : Option AObj, (H'.set id none ++ [y])[H'.length]? = some y := fun y => by rw [← hlen]; exact push_new
    cases r' with
    | srefDead hd' _ => rw [ho] at hd'; cases hd'
    | srefNil ho' hρ =>
      obtain ⟨g3, x3⟩ := g2.add ⟨o.ty, o.k, o.es.take 0⟩ none (by simp [ObjOk]) (by simp) (fun _ _ h => by cases h)
      exact ⟨_, _, _, _, ok', rfl, h1, g3, x'.trans (x2.trans x3), .srefNil (hnew _) (by simp [updP])⟩
    | @sref _ _ _ c o' b cap ho' hρ hn' hcc hnc hcap =>
      rw [ho] at ho'
      simp only [Option.some.injEq] at ho'
      subst ho'
      have hobj := g'.obj id o ho
      rw [hρ] at hobj
      obtain ⟨cur, c1, c2, c3, c4, c5⟩ := hobj.cells hcap
      have own := g'.own id o b cap ho hρ
      obtain ⟨g3, x3⟩ := g2.add ⟨o.ty, o.k, o.es.take n⟩ (some (b, cap)) (.inl ⟨cur, c1, c2, by simp only [List.length_take]; omega, c4, fun i e j a he ha => by
          simp only [List.getElem?_take] at he
          split at he
          · obtain ⟨c, d1, d2, d3⟩ := c5 i e j a he ha
            exact ⟨c, d1, d2, d3.ext x2⟩
          · cases he⟩) (fun e he => g'.len id o ho e (List.mem_of_mem_take he)) (fun b' c' h' => by
          simp only [Option.some.injEq, Prod.mk.injEq] at h'
          obtain ⟨rfl, rfl⟩ := h'
          refine ⟨own.1, fun id' o' c' ho' hρ' => ?_, own.2.1, own.2.2⟩
          obtain ⟨hne, hl⟩ := set_live ho'
          exact hne (g'.inj id' o' b c' id o cap hl hρ' ho hρ))
      refine ⟨_, _, _, _, ok', rfl, h1, g3, x'.trans (x2.trans x3), .sref (o := ⟨o.ty, o.k, o.es.take n⟩) (hnew _) (by simp [updP]) (by simp; omega) hcc hnc hcap⟩
end Go.PA
namespace Go.Proofs.YtpllcolbcahicaaGreatDoor
open Go.PA
open Go.RowKit
theorem sortsZ_ok : SortsZ Tryz.prog 91 :=
  ⟨fun zs blk cap w hH hb h9 => AnyM.slices_Sort_int sortZl blk 0 cap zs w hH hb h9, fun w => AnyM.slices_Sort_int_none sortZl none 0 w⟩
theorem compsZ_ok : CompsZ Tryz.prog 92 Lib.compact :=
  ⟨fun zs blk cap w hH hs hc => Any.slices_Compact_int compZl blk 0 cap zs w hH hs hc, fun w => Any.slices_Compact_int_empty compZl none 0 w, Lib.compact_length_le⟩
theorem compact_m {row src : Option Nat} {H : Heap} {id n : Nat} {zs : List Int} (hn : n = zs.length) (h9 : zs.length ≤ 1000) (ho : H[id]? = some (some ⟨3, 1, encL encI zs⟩)) :
    MFun Tryz.prog row src 92 [.sref id 0 n] H fun r H' => ∃ id', r = .sref id' 0 (Lib.compact zs).length ∧ H'[id']? = some (some ⟨3, 1, encL encI (Lib.compact zs)⟩) := by
  refine mfun_cut (mfun_comp compsZ_ok hn (by omega) ho) ?_
  rintro r H' ⟨rfl, rfl⟩
  have hid := (List.getElem?_eq_some_iff.1 ho).1
  refine ⟨id, _, _, rfl, List.getElem?_set_self hid, by simp, _, rfl, ?_⟩
  rw [List.getElem?_append_right (by simp)]
  simp only [List.length_set, Nat.sub_self, List.getElem?_cons_zero]
  rw [List.map_append, List.take_left' (by simp)]
  rfl
theorem refs_pf {l : List TPosting} (hll : l.length ≤ 400) : PFun Tryz.prog none none 68 [.agg [postsL l]] (· = intsL (refsZ l)) := by
  refine pfun_intro Tryz.func68 rfl (by simp [Tryz.f68]) (by kernel_rfl) ?_
  intro E hP hr hs hW hN
  have ip := imm_posts l
  simp -dsimp -implicitDefEqProofs [-getElem?_pos, go_sem, hP]
  refine aloop_own 3 3 1 (by simp -dsimp -implicitDefEqProofs [-getElem?_pos, go_sem]) ?_
  obtain ⟨I, hI⟩ : ∃ I : Nat → St → Prop, I = fun m s => ∃ k id : Nat, k ≤ l.length ∧ m = l.length - k ∧ s.t 7 = postsL l ∧ s.t 8 = iv l.length ∧ s.t 9 = iv k ∧ s.t 3 = .sref id 0 k ∧ s.H[id]? = some (some ⟨3, 1, encL encI ((l.take k).map (·.Ref))⟩) := ⟨_, rfl⟩
  refine aloop0 I (l.length) (by rw [hN]; rfl) ?_ ?_
  · rw [hI]
    exact ⟨0, 1, by omega, by omega, by simp -dsimp -implicitDefEqProofs [-getElem?_pos, go_sem], by simp -dsimp -implicitDefEqProofs [-getElem?_pos, go_sem], by simp -dsimp -implicitDefEqProofs [-getElem?_pos, go_sem], by simp -dsimp -implicitDefEqProofs [-getElem?_pos, go_sem], by simp -dsimp -implicitDefEqProofs [-getElem?_pos, go_sem]⟩
  intro m s hs'
  rw [hI] at hs'
  obtain ⟨k, id, hk, hm, t7, t8, t9, t3, hH⟩ := hs'
  have hlt := (List.getElem?_eq_some_iff.1 hH).1
  have hz : ((l.take k).map (·.Ref)).length = k := by simp; omega
  simp -dsimp -implicitDefEqProofs [-getElem?_pos, go_sem, hP, t8, t9]
  refine condP (fun h => ?_) (fun h => ?_)
  · have hk : k < l.length := by simpa using h
    obtain ⟨a, ha⟩ : ∃ a, l[k]? = some a := ⟨_, List.getElem?_eq_getElem hk⟩
    have wk := wrap_in ((k : Int) + 1) (by omega)
    have e1 : (l.take (k + 1)).map (·.Ref) = (l.take k).map (·.Ref) ++ [a.Ref] := by rw [List.take_add_one, ha]; simp
    obtain ⟨zs, hzs⟩ : ∃ zs, zs = (l.take k).map (·.Ref) := ⟨_, rfl⟩
    rw [← hzs] at hH hz e1
    simp -dsimp -implicitDefEqProofs [-getElem?_pos, go_sem, hP, t7, t9, t3, ha, cP, hH, hz, hlt, wk]
    refine ⟨by omega, by omega, ?_⟩
    refine ⟨l.length - (k + 1), by omega, ?_⟩
    rw [hI]
    exact ⟨k + 1, s.H.length + 1, by omega, rfl, by simp -dsimp -implicitDefEqProofs [-getElem?_pos, go_sem, t7], by simp -dsimp -implicitDefEqProofs [-getElem?_pos, go_sem, t8], by simp -dsimp -implicitDefEqProofs [-getElem?_pos, go_sem], by simp -dsimp -implicitDefEqProofs [-getElem?_pos, go_sem], by rw [e1, ← encL_snoc]; simp -dsimp -implicitDefEqProofs [-getElem?_pos, go_sem, encI]⟩
  · have hk : k = l.length := by simp at h; omega
    subst hk
    rw [List.take_length] at hH hz
    obtain ⟨zs, hzs⟩ : ∃ zs, zs = l.map (·.Ref) := ⟨_, rfl⟩
    have hr : refsZ l = Lib.compact (sortZ zs) := by rw [hzs]; rfl
    rw [← hzs] at hH hz
    obtain ⟨n, hn⟩ : ∃ n, n = l.length := ⟨_, rfl⟩
    rw [← hn] at t3 hz
    have sl : (sortZ zs).length = zs.length := List.length_mergeSort _
    have ii : Imm (.list 1 (encL encI (Lib.compact (sortZ zs)))) := imm_intsX _
    simp -dsimp -implicitDefEqProofs [-getElem?_pos, go_sem, hP, t3]
    refine callB_m (mfun_sort sortsZ_ok (id := id) (n := n) (zs := zs) (ty := 3) hz.symm (by omega) hH) hP en_91 ?_
    rintro r H1 ⟨rfl, hH1⟩
    have h1 : H1[id]? = some (some ⟨3, 1, encL encI (sortZ zs)⟩) := by rw [hH1]; exact List.getElem?_set_self hlt
    simp -dsimp -implicitDefEqProofs [-getElem?_pos, go_sem, hP, t3]
    refine callB_m (compact_m (by omega) (by omega) h1) hP en_92 ?_
    rintro r H2 ⟨id', rfl, h2⟩
    simp -dsimp -implicitDefEqProofs [-getElem?_pos, go_sem, hP]
    rw [hr]
    refine done (by simp -dsimp -implicitDefEqProofs [-getElem?_pos, go_sem, h2, ii]) rfl (by simp -dsimp -implicitDefEqProofs [-getElem?_pos, go_sem, h2, intsL]; rfl)
end Go.Proofs.YtpllcolbcahicaaGreatDoor
