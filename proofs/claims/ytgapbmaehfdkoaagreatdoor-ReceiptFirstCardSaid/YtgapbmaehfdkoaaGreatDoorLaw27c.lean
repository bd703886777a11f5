/- ReceiptFirst. -/
import Derived.Test.YtgapbmaehfdkoaaGreatDoorLaw27b
set_option linter.unusedSimpArgs false
set_option linter.unusedVariables false
namespace Go.Proofs.YtgapbmaehfdkoaaGreatDoor
open Go.PA
open Go.RowKit

def namedB (x : TIncome) (y : TClaim) : Bool := decide (y.ID = x.Claim) && decide (y.Payer = x.Payer) && decide (0 < y.Open)
def equalB (x : TIncome) (y : TClaim) : Bool := decide (y.Payer = x.Payer) && decide (y.Open = x.Amount)
/-- What is known of the named claim. -/
def NmOk (c : TCash) (x : TIncome) (k : Nat) : Option Nat → Prop
  | none => ∀ y, y ∈ c.Claims.take k → namedB x y = false
  | some j => ∃ y, c.Claims[j]? = some y ∧ namedB x y = true
set_option maxHeartbeats 4000000 in
set_option maxRecDepth 8000 in
theorem first27_pf (xs : List Int) (hx : Small xs) (hl : xs.length ≤ 9223372036854775807) : PFun Tryz.prog none none 3 [intsL xs] (· = bv true) := by
  refine pfun_introA Tryz.func3 rfl (by simp [Tryz.f3]) ?_
  intro E hP hr hs hW hN
  refine awp_cut (by rw [hN]; kernel_rfl) ?_
  simp [go_sem, hP]
  refine awp_cut (by rw [hN]; kernel_rfl) ?_
  simp [go_sem, hP]
  have hnew : POwn Tryz.prog E.row E.src 8 [intsL xs] 70 2 (· = [[intsL (xs.take 900), iv 0]]) := by rw [hr, hs]; exact new_pf xs hl
  refine callB_own hnew hP en_8 (args_same (by simp [go_sem, intsL])) (by simp [srefs_imm, go_sem, intsL]) ⟨_, rfl⟩ ?_
  rintro es rfl
  simp [go_sem, hP]
  refine awp_adopt 3 (ty := 70) (xs := xs.take 900) (at_ := 0) hr hs hW (by simp [go_sem]) (by simp [go_sem, intsL]) (by omega) (by simp; omega) (fun x hx' => hx x (List.mem_of_mem_take hx')) (by rw [hN]; kernel_rfl) ?_
  intro E' p hP' hr' hN' hW'
  rw [hP] at hP'
  rw [hN] at hN'
  clear hnew hP hr hs hW hN E
  rename Env => E
  rename E.P = _ => hP
  rename E.row = _ => hr
  rename E.N = _ => hN
  rename (∀ b, ¬ E.W b) => hW
  obtain ⟨src, hs⟩ : ∃ src, E.src = src := ⟨_, rfl⟩
  have up : ∀ {f : FuncId} {args : List AV} {Q : AV → Prop}, PFun Tryz.prog (some p) src f args Q → PFun Tryz.prog E.row E.src f args Q := fun h => hr ▸ hs ▸ h

  have saneB : ∀ {H : Heap} {C : AV → Heap → Prop} {b : Bx C}, C (bv true) H → CallB E 12 [] H C b := fun h => callB_pure sane27_pf hP en_12 (args_nil.2 trivial) .sc h
  simp -dsimp -implicitDefEqProofs [-getElem?_pos, go_sem, hP]
  refine callB_isQ (up (scash_pf p src 4 (by omega))) hP en_9 (by simp [go_sem]) (cashQ_ex 4) ?_
  rintro r ⟨c, k0, d0, rfl, hk0, hd0, hd1, hg⟩ _
  have c1 := hg.cash (by omega)
  have fit := hg.fit (by omega)
  have ic := imm_agg.2 c.imm
  rw [cCsh] at ic
  simp -dsimp -implicitDefEqProofs [-getElem?_pos, go_sem, hP, cCsh]
  refine callB_isQ (up (sincome_pf p src 40 60)) hP en_10 (by simp -dsimp -implicitDefEqProofs [-getElem?_pos, go_sem]) (incomeQ_ex _ _) ?_
  rintro r ⟨x, rfl, hx⟩ _
  obtain ⟨xb, xa1, xa2⟩ := hx.inc (by omega) (by omega)
  have ix := imm_agg.2 x.imm
  have tk := ctake_pf c x fit (by have := hg.cl; omega)
  rw [gen_take hg (by omega) xb (by rw [hx.1]; omega) (by rw [hx.2.1]; omega)] at tk
  obtain ⟨d1c, fit2⟩ := gen_taken hg (by omega) xb (by rw [hx.1]; omega) (by rw [hx.2.1]; omega)
  obtain ⟨new, hnew, hmem, _⟩ := taken_sums (c := c) (x := x) hg.ok.pos hg.ok.len (by omega)
  have edr : (taken c x).Matches.drop c.Matches.length = new := by rw [hnew, List.drop_left]
  have ln : new.length ≤ 160 := by
    have := (cashE_ok.1 d1c).1.2.2
    rw [hnew, List.length_append] at this
    omega
  have fn : ∀ k y, c.Claims[k]? = some y → namedB x y = true → ∃ m r, new = m :: r ∧ m.Claim = x.Claim ∧ m.Amount = min x.Amount y.Open := fun k y hy hn => by
    simp only [namedB, Bool.and_eq_true, decide_eq_true_eq] at hn
    obtain ⟨m, r, h1, h2, h3⟩ := first_named hg.ok (x := x) (by omega) hy hn.1.1 hn.1.2 hn.2
    exact ⟨m, r, List.append_cancel_left (hnew.symm.trans h1), h2, h3⟩
  have fs : (∀ y, y ∈ c.Claims → namedB x y = false) → (c.Claims.countP (equalB x)) = 1 → ∃ m, new = [m] ∧ m.Amount = x.Amount := fun hno hs => by
    have hs' : (sameK c.Claims x.Payer x.Amount).length = 1 := by rw [same_count]; exact hs
    obtain ⟨m, h1, h2⟩ := first_same hg.ok (x := x) (by omega) (fun y hy h1 h2 h3 => by have := hno y hy; simp [namedB, h1, h2, h3] at this) hs'
    exact ⟨m, List.append_cancel_left (hnew.symm.trans h1), h2⟩
  have fe : ∀ m, m ∈ new → ∀ y, y ∈ c.Claims → y.ID = m.Claim → m.Amount ≤ y.Open ∧ y.Payer = x.Payer := fun m hm y hy hid => by
    obtain ⟨k, z, hz, h1, h2, h3⟩ := hmem m hm
    obtain ⟨j, hj⟩ := List.getElem?_of_mem hy
    have e := id_inj hg.ok.pays.2 hj hz (by omega)
    subst e
    rw [hz] at hj
    cases hj
    exact ⟨h3, h2⟩
  rw [edr] at tk
  obtain ⟨b, hb⟩ : ∃ b, b = taken c x := ⟨_, rfl⟩
  rw [← hb] at tk
  have ib := imm_agg.2 b.imm
  have im := imm_matches new
  rw [cCsh, cCsh, cIncm] at tk
  rw [cCsh] at ib
  rw [cIncm] at ix
  obtain ⟨nC, hnC⟩ : ∃ n, n = c.Claims.length := ⟨_, rfl⟩
  have lC : nC ≤ 5 := by rw [hnC]; exact hg.cl
  obtain ⟨O4, hO4⟩ : ∃ O : AObj, O = ⟨29, 4, [[claimsL c.Claims, incomesL c.Incomes, matchesL c.Matches, .list 1 (encL encI c.Loose)]]⟩ := ⟨_, rfl⟩
  obtain ⟨O5, hO5⟩ : ∃ O : AObj, O = ⟨32, 5, [[iv x.Number, iv x.Day, iv x.Payer, iv x.Amount, iv x.Claim]]⟩ := ⟨_, rfl⟩
  simp -dsimp -implicitDefEqProofs [-getElem?_pos, go_sem, hP, cIncm]
  refine callB_is (tk.lift _ _) hP en_11 (by simpa using ⟨ic, ix⟩) (imm_trip ib im .sc) ?_
  simp -dsimp -implicitDefEqProofs [-getElem?_pos, go_sem, hP, ← hnC]
  simp only [← hO4, ← hO5]
  obtain ⟨I, hI⟩ : ∃ I : Nat → St → Prop, I = fun m s => ∃ (k : Nat) (nm : Option Nat), k ≤ nC ∧ m = nC - k ∧ NmOk c x k nm ∧ s.t 4 = .ref 1 0 0 ∧ s.t 5 = .ref 2 0 0 ∧ s.t 7 = matchesL new ∧ s.t 9 = iv (idxO nm) ∧ s.t 10 = iv ((c.Claims.take k).countP (equalB x)) ∧ s.t 33 = claimsL c.Claims ∧ s.t 34 = iv nC ∧ s.t 35 = iv k ∧ s.H[1]? = some (some O4) ∧ s.H[2]? = some (some O5) := ⟨_, rfl⟩
  refine aloop0 I (nC) (by rw [hN]; rfl) ?_ ?_
  · rw [hI]
    exact ⟨0, none, by omega, by omega, by simp [NmOk], by simp -dsimp -implicitDefEqProofs [-getElem?_pos, go_sem], by simp -dsimp -implicitDefEqProofs [-getElem?_pos, go_sem], by simp -dsimp -implicitDefEqProofs [-getElem?_pos, go_sem], by simp -dsimp -implicitDefEqProofs [-getElem?_pos, go_sem, idxO], by simp -dsimp -implicitDefEqProofs [-getElem?_pos, go_sem], by simp -dsimp -implicitDefEqProofs [-getElem?_pos, go_sem], by simp -dsimp -implicitDefEqProofs [-getElem?_pos, go_sem], by simp -dsimp -implicitDefEqProofs [-getElem?_pos, go_sem], by simp -dsimp -implicitDefEqProofs [-getElem?_pos, go_sem], by simp -dsimp -implicitDefEqProofs [-getElem?_pos, go_sem]⟩
  intro m s hs'
  rw [hI] at hs'
  obtain ⟨k, nm, hk, hm, hnm, t4, t5, t7, t9, t10, t33, t34, t35, h1, h2⟩ := hs'
  have lt1 := (List.getElem?_eq_some_iff.1 h1).1
  have lt2 := (List.getElem?_eq_some_iff.1 h2).1
  simp -dsimp -implicitDefEqProofs [-getElem?_pos, go_sem, hP, t34, t35]
  refine condP (fun h => ?_) (fun h => ?_)
  · have hk : k < nC := by simpa using h
    obtain ⟨y, hy⟩ : ∃ y, c.Claims[k]? = some y := ⟨_, List.getElem?_eq_getElem (by omega)⟩
    have wk := wrap_in ((k : Int) + 1) (by omega)
    have ec : (c.Claims.take (k + 1)).countP (equalB x) = (c.Claims.take k).countP (equalB x) + if equalB x y = true then 1 else 0 := by rw [take_snoc hy, List.countP_append, List.countP_singleton]
    have lc := List.countP_le_length (p := equalB x) (l := c.Claims.take k)
    rw [List.length_take] at lc
    obtain ⟨C, hC⟩ : ∃ C, C = (c.Claims.take k).countP (equalB x) := ⟨_, rfl⟩
    rw [← hC] at ec lc t10
    have wc := wrap_in ((C : Int) + 1) (by omega)
    have nxt : ∀ (s' : St) (nm' : Option Nat), NmOk c x (k + 1) nm' → s'.t 4 = .ref 1 0 0 → s'.t 5 = .ref 2 0 0 → s'.t 7 = matchesL new → s'.t 9 = iv (idxO nm') → s'.t 10 = iv ((C + if equalB x y = true then 1 else 0 : Nat)) → s'.t 33 = claimsL c.Claims → s'.t 34 = iv nC → s'.t 35 = iv ((k : Int) + 1) → s'.H[1]? = some (some O4) → s'.H[2]? = some (some O5) → ∃ m', m' < m ∧ I m' s' := fun s' nm' a0 a4 a5 a7 a9 a10 a33 a34 a35 b1 b2 => by
      refine ⟨nC - (k + 1), by omega, ?_⟩
      rw [hI]
      exact ⟨k + 1, nm', by omega, rfl, a0, a4, a5, a7, a9, by rw [a10, ec], a33, a34, by rw [a35]; simp, b1, b2⟩
    have keepN : namedB x y = false → NmOk c x (k + 1) nm := fun hn => by
      cases nm with
      | none =>
        intro z hz
        rw [take_snoc hy] at hz
        rcases List.mem_append.1 hz with hz | hz
        · exact hnm z hz
        · rw [List.mem_singleton.1 hz]; exact hn
      | some j => exact hnm
    have st : ∀ nm' : Option Nat, (namedB x y = true → nm' = some k) → (namedB x y = false → nm' = nm) → NmOk c x (k + 1) nm' := fun nm' g1 g2 => by
      cases hb : namedB x y
      · rw [g2 hb]
        exact keepN hb
      · rw [g1 hb]
        exact ⟨y, hy, hb⟩
    have fin : ∀ (s' : St) (nm' : Option Nat) (e : Bool), (namedB x y = true → nm' = some k) → (namedB x y = false → nm' = nm) → equalB x y = e → s'.t 4 = .ref 1 0 0 → s'.t 5 = .ref 2 0 0 → s'.t 7 = matchesL new → s'.t 9 = iv (idxO nm') → s'.t 10 = iv ((C : Int) + if e = true then 1 else 0) → s'.t 33 = claimsL c.Claims → s'.t 34 = iv nC → s'.t 35 = iv ((k : Int) + 1) → s'.H[1]? = some (some O4) → s'.H[2]? = some (some O5) → ∃ m', m' < m ∧ I m' s' := fun s' nm' e g1 g2 g3 a4 a5 a7 a9 a10 a33 a34 a35 b1 b2 => by
      refine nxt s' nm' (st nm' g1 g2) a4 a5 a7 a9 ?_ a33 a34 a35 b1 b2
      rw [a10, g3]
      cases e <;> simp
    by_cases e1 : y.Payer = x.Payer
    rotate_left
    · have n1 : namedB x y = false := by simp [namedB, e1]
      have n2 : equalB x y = false := by simp [equalB, e1]
      by_cases e0 : y.ID = x.Claim
      · simp -dsimp -implicitDefEqProofs [-getElem?_pos, go_sem, hP, t33, t35, hy, cClm, t5, h2, lt2, hO5, e0, e1, wk]
        exact fin _ nm false (fun h => by rw [n1] at h; cases h) (fun _ => rfl) n2 (by simp -dsimp -implicitDefEqProofs [-getElem?_pos, go_sem, t4]) (by simp -dsimp -implicitDefEqProofs [-getElem?_pos, go_sem, t5]) (by simp -dsimp -implicitDefEqProofs [-getElem?_pos, go_sem, t7]) (by simp -dsimp -implicitDefEqProofs [-getElem?_pos, go_sem, t9]) (by simp -dsimp -implicitDefEqProofs [-getElem?_pos, go_sem, t10]) (by simp -dsimp -implicitDefEqProofs [-getElem?_pos, go_sem, t33]) (by simp -dsimp -implicitDefEqProofs [-getElem?_pos, go_sem, t34]) (by simp -dsimp -implicitDefEqProofs [-getElem?_pos, go_sem]) (by simp -dsimp -implicitDefEqProofs [-getElem?_pos, go_sem, lt1, h1]) (by simp -dsimp -implicitDefEqProofs [-getElem?_pos, go_sem, lt2, h2])
      · simp -dsimp -implicitDefEqProofs [-getElem?_pos, go_sem, hP, t33, t35, hy, cClm, t5, h2, lt2, hO5, e0, e1, wk]
        exact fin _ nm false (fun h => by rw [n1] at h; cases h) (fun _ => rfl) n2 (by simp -dsimp -implicitDefEqProofs [-getElem?_pos, go_sem, t4]) (by simp -dsimp -implicitDefEqProofs [-getElem?_pos, go_sem, t5]) (by simp -dsimp -implicitDefEqProofs [-getElem?_pos, go_sem, t7]) (by simp -dsimp -implicitDefEqProofs [-getElem?_pos, go_sem, t9]) (by simp -dsimp -implicitDefEqProofs [-getElem?_pos, go_sem, t10]) (by simp -dsimp -implicitDefEqProofs [-getElem?_pos, go_sem, t33]) (by simp -dsimp -implicitDefEqProofs [-getElem?_pos, go_sem, t34]) (by simp -dsimp -implicitDefEqProofs [-getElem?_pos, go_sem]) (by simp -dsimp -implicitDefEqProofs [-getElem?_pos, go_sem, lt1, h1]) (by simp -dsimp -implicitDefEqProofs [-getElem?_pos, go_sem, lt2, h2])
    have ev1 : (y.Payer = x.Payer) = True := eq_true e1
    by_cases e2 : y.Open = x.Amount
    · have ev2 : (y.Open = x.Amount) = True := eq_true e2
      have n2 : equalB x y = true := by simp [equalB, e1, e2]
      have po : 0 < y.Open := by omega
      by_cases e0 : y.ID = x.Claim
      · have ev0 : (y.ID = x.Claim) = True := eq_true e0
        have n1 : namedB x y = true := by simp [namedB, e1, e0, po]
        simp -dsimp -implicitDefEqProofs [-getElem?_pos, go_sem, hP, t33, t35, hy, cClm, t5, h2, lt2, hO5, ev0, ev1, ev2, po, t10, wc, wk]
        exact fin _ (some k) true (fun _ => rfl) (fun h => by rw [n1] at h; cases h) n2 (by simp -dsimp -implicitDefEqProofs [-getElem?_pos, go_sem, t4]) (by simp -dsimp -implicitDefEqProofs [-getElem?_pos, go_sem, t5]) (by simp -dsimp -implicitDefEqProofs [-getElem?_pos, go_sem, t7]) (by simp -dsimp -implicitDefEqProofs [-getElem?_pos, go_sem, idxO]) (by simp -dsimp -implicitDefEqProofs [-getElem?_pos, go_sem]) (by simp -dsimp -implicitDefEqProofs [-getElem?_pos, go_sem, t33]) (by simp -dsimp -implicitDefEqProofs [-getElem?_pos, go_sem, t34]) (by simp -dsimp -implicitDefEqProofs [-getElem?_pos, go_sem]) (by simp -dsimp -implicitDefEqProofs [-getElem?_pos, go_sem, lt1, h1]) (by simp -dsimp -implicitDefEqProofs [-getElem?_pos, go_sem, lt2, h2])
      · have n1 : namedB x y = false := by simp [namedB, e0]
        simp -dsimp -implicitDefEqProofs [-getElem?_pos, go_sem, hP, t33, t35, hy, cClm, t5, h2, lt2, hO5, e0, ev1, ev2, t10, wc, wk]
        exact fin _ nm true (fun h => by rw [n1] at h; cases h) (fun _ => rfl) n2 (by simp -dsimp -implicitDefEqProofs [-getElem?_pos, go_sem, t4]) (by simp -dsimp -implicitDefEqProofs [-getElem?_pos, go_sem, t5]) (by simp -dsimp -implicitDefEqProofs [-getElem?_pos, go_sem, t7]) (by simp -dsimp -implicitDefEqProofs [-getElem?_pos, go_sem, t9]) (by simp -dsimp -implicitDefEqProofs [-getElem?_pos, go_sem]) (by simp -dsimp -implicitDefEqProofs [-getElem?_pos, go_sem, t33]) (by simp -dsimp -implicitDefEqProofs [-getElem?_pos, go_sem, t34]) (by simp -dsimp -implicitDefEqProofs [-getElem?_pos, go_sem]) (by simp -dsimp -implicitDefEqProofs [-getElem?_pos, go_sem, lt1, h1]) (by simp -dsimp -implicitDefEqProofs [-getElem?_pos, go_sem, lt2, h2])
    · have n2 : equalB x y = false := by simp [equalB, e2]
      by_cases e0 : y.ID = x.Claim
      · have ev0 : (y.ID = x.Claim) = True := eq_true e0
        by_cases po : 0 < y.Open
        · have n1 : namedB x y = true := by simp [namedB, e1, e0, po]
          simp -dsimp -implicitDefEqProofs [-getElem?_pos, go_sem, hP, t33, t35, hy, cClm, t5, h2, lt2, hO5, ev0, ev1, e2, po, t10, wc, wk]
          exact fin _ (some k) false (fun _ => rfl) (fun h => by rw [n1] at h; cases h) n2 (by simp -dsimp -implicitDefEqProofs [-getElem?_pos, go_sem, t4]) (by simp -dsimp -implicitDefEqProofs [-getElem?_pos, go_sem, t5]) (by simp -dsimp -implicitDefEqProofs [-getElem?_pos, go_sem, t7]) (by simp -dsimp -implicitDefEqProofs [-getElem?_pos, go_sem, idxO]) (by simp -dsimp -implicitDefEqProofs [-getElem?_pos, go_sem, t10]) (by simp -dsimp -implicitDefEqProofs [-getElem?_pos, go_sem, t33]) (by simp -dsimp -implicitDefEqProofs [-getElem?_pos, go_sem, t34]) (by simp -dsimp -implicitDefEqProofs [-getElem?_pos, go_sem]) (by simp -dsimp -implicitDefEqProofs [-getElem?_pos, go_sem, lt1, h1]) (by simp -dsimp -implicitDefEqProofs [-getElem?_pos, go_sem, lt2, h2])
        · have n1 : namedB x y = false := by simp [namedB, po]
          simp -dsimp -implicitDefEqProofs [-getElem?_pos, go_sem, hP, t33, t35, hy, cClm, t5, h2, lt2, hO5, ev0, ev1, e2, po, t10, wc, wk]
          exact fin _ nm false (fun h => by rw [n1] at h; cases h) (fun _ => rfl) n2 (by simp -dsimp -implicitDefEqProofs [-getElem?_pos, go_sem, t4]) (by simp -dsimp -implicitDefEqProofs [-getElem?_pos, go_sem, t5]) (by simp -dsimp -implicitDefEqProofs [-getElem?_pos, go_sem, t7]) (by simp -dsimp -implicitDefEqProofs [-getElem?_pos, go_sem, t9]) (by simp -dsimp -implicitDefEqProofs [-getElem?_pos, go_sem, t10]) (by simp -dsimp -implicitDefEqProofs [-getElem?_pos, go_sem, t33]) (by simp -dsimp -implicitDefEqProofs [-getElem?_pos, go_sem, t34]) (by simp -dsimp -implicitDefEqProofs [-getElem?_pos, go_sem]) (by simp -dsimp -implicitDefEqProofs [-getElem?_pos, go_sem, lt1, h1]) (by simp -dsimp -implicitDefEqProofs [-getElem?_pos, go_sem, lt2, h2])
      · have n1 : namedB x y = false := by simp [namedB, e0]
        simp -dsimp -implicitDefEqProofs [-getElem?_pos, go_sem, hP, t33, t35, hy, cClm, t5, h2, lt2, hO5, e0, ev1, e2, t10, wc, wk]
        exact fin _ nm false (fun h => by rw [n1] at h; cases h) (fun _ => rfl) n2 (by simp -dsimp -implicitDefEqProofs [-getElem?_pos, go_sem, t4]) (by simp -dsimp -implicitDefEqProofs [-getElem?_pos, go_sem, t5]) (by simp -dsimp -implicitDefEqProofs [-getElem?_pos, go_sem, t7]) (by simp -dsimp -implicitDefEqProofs [-getElem?_pos, go_sem, t9]) (by simp -dsimp -implicitDefEqProofs [-getElem?_pos, go_sem, t10]) (by simp -dsimp -implicitDefEqProofs [-getElem?_pos, go_sem, t33]) (by simp -dsimp -implicitDefEqProofs [-getElem?_pos, go_sem, t34]) (by simp -dsimp -implicitDefEqProofs [-getElem?_pos, go_sem]) (by simp -dsimp -implicitDefEqProofs [-getElem?_pos, go_sem, lt1, h1]) (by simp -dsimp -implicitDefEqProofs [-getElem?_pos, go_sem, lt2, h2])
  have hk : nC = k := by
    have : ¬ k < nC := by simpa using h
    omega
  subst hk
  rw [hnC, List.take_length] at t10
  rw [hnC] at hnm
  clear hI h t33 t34 t35
  -- the matches
  simp -dsimp -implicitDefEqProofs [-getElem?_pos, go_sem, hP, t7]
  obtain ⟨I, hI⟩ : ∃ I : Nat → St → Prop, I = fun m s => ∃ (j : Nat), j ≤ new.length ∧ m = new.length - j ∧ s.t 4 = .ref 1 0 0 ∧ s.t 5 = .ref 2 0 0 ∧ s.t 7 = matchesL new ∧ s.t 9 = iv (idxO nm) ∧ s.t 10 = iv (c.Claims.countP (equalB x)) ∧ s.t 73 = matchesL new ∧ s.t 74 = iv new.length ∧ s.t 75 = iv j ∧ s.H[1]? = some (some O4) ∧ s.H[2]? = some (some O5) := ⟨_, rfl⟩
  refine aloop0 I (new.length) (by rw [hN]; rfl) ?_ ?_
  · rw [hI]
    exact ⟨0, by omega, by omega, by simp -dsimp -implicitDefEqProofs [-getElem?_pos, go_sem, t4], by simp -dsimp -implicitDefEqProofs [-getElem?_pos, go_sem, t5], by simp -dsimp -implicitDefEqProofs [-getElem?_pos, go_sem, t7], by simp -dsimp -implicitDefEqProofs [-getElem?_pos, go_sem, t9], by simp -dsimp -implicitDefEqProofs [-getElem?_pos, go_sem, t10], by simp -dsimp -implicitDefEqProofs [-getElem?_pos, go_sem, t7], by simp -dsimp -implicitDefEqProofs [-getElem?_pos, go_sem, t7, encL_len], by simp -dsimp -implicitDefEqProofs [-getElem?_pos, go_sem], by simp -dsimp -implicitDefEqProofs [-getElem?_pos, go_sem, h1], by simp -dsimp -implicitDefEqProofs [-getElem?_pos, go_sem, h2]⟩
  intro m s hs'
  rw [hI] at hs'
  obtain ⟨j, hj, hm, t4, t5, t7, t9, t10, t73, t74, t75, h1, h2⟩ := hs'
  have lt1 := (List.getElem?_eq_some_iff.1 h1).1
  have lt2 := (List.getElem?_eq_some_iff.1 h2).1
  simp -dsimp -implicitDefEqProofs [-getElem?_pos, go_sem, hP, t74, t75]
  refine condP (fun h => ?_) (fun h => ?_)
  · have hj : j < new.length := by simpa using h
    obtain ⟨z, hz⟩ : ∃ z, new[j]? = some z := ⟨_, List.getElem?_eq_getElem hj⟩
    have hzm := List.mem_of_getElem? hz
    have wj := wrap_in ((j : Int) + 1) (by omega)
    have lc : (encL TClaim.cells c.Claims).length = nC := by rw [encL_len, hnC]
    have b0 : ∀ (s' : St), s'.t 4 = .ref 1 0 0 → s'.t 5 = .ref 2 0 0 → s'.t 7 = matchesL new → s'.t 9 = iv (idxO nm) → s'.t 10 = iv (c.Claims.countP (equalB x)) → s'.t 73 = matchesL new → s'.t 74 = iv new.length → s'.t 75 = iv ((j : Int) + 1) → s'.H[1]? = some (some O4) → s'.H[2]? = some (some O5) → ∃ m', m' < m ∧ I m' s' := fun s' a4 a5 a7 a9 a10 a73 a74 a75 b1 b2 => by
      refine ⟨new.length - (j + 1), by omega, ?_⟩
      rw [hI]
      exact ⟨j + 1, by omega, rfl, a4, a5, a7, a9, a10, a73, a74, by rw [a75]; simp, b1, b2⟩
    simp -dsimp -implicitDefEqProofs [-getElem?_pos, go_sem, hP, t73, t75, hz, cMtc, t4, h1, lt1, hO4, lc]
    clear h hI
    obtain ⟨J, hJ⟩ : ∃ I : Nat → St → Prop, I = fun m s => ∃ (k q : Nat), k ≤ nC ∧ m = nC - k ∧ s.t 4 = .ref 1 0 0 ∧ s.t 5 = .ref 2 0 0 ∧ s.t 7 = matchesL new ∧ s.t 9 = iv (idxO nm) ∧ s.t 10 = iv (c.Claims.countP (equalB x)) ∧ s.t 73 = matchesL new ∧ s.t 74 = iv new.length ∧ s.t 75 = iv j ∧ s.t 14 = .ref q 0 0 ∧ s.t 80 = claimsL c.Claims ∧ s.t 81 = iv nC ∧ s.t 82 = iv k ∧ s.H[1]? = some (some O4) ∧ s.H[2]? = some (some O5) ∧ s.H[q]? = some (some ⟨40, 3, [[iv z.Income, iv z.Claim, iv z.Amount]]⟩) := ⟨_, rfl⟩
    refine aloop0 J (nC) (by rw [hN]; rfl) ?_ ?_
    · rw [hJ]
      exact ⟨0, s.H.length, by omega, by omega, by simp -dsimp -implicitDefEqProofs [-getElem?_pos, go_sem, t4], by simp -dsimp -implicitDefEqProofs [-getElem?_pos, go_sem, t5], by simp -dsimp -implicitDefEqProofs [-getElem?_pos, go_sem, t7], by simp -dsimp -implicitDefEqProofs [-getElem?_pos, go_sem, t9], by simp -dsimp -implicitDefEqProofs [-getElem?_pos, go_sem, t10], by simp -dsimp -implicitDefEqProofs [-getElem?_pos, go_sem, t73], by simp -dsimp -implicitDefEqProofs [-getElem?_pos, go_sem, t74], by simp -dsimp -implicitDefEqProofs [-getElem?_pos, go_sem, t75], by simp -dsimp -implicitDefEqProofs [-getElem?_pos, go_sem], by simp -dsimp -implicitDefEqProofs [-getElem?_pos, go_sem], by simp -dsimp -implicitDefEqProofs [-getElem?_pos, go_sem, lc], by simp -dsimp -implicitDefEqProofs [-getElem?_pos, go_sem], by simp -dsimp -implicitDefEqProofs [-getElem?_pos, go_sem, lt1, h1], by simp -dsimp -implicitDefEqProofs [-getElem?_pos, go_sem, lt2, h2], by simp -dsimp -implicitDefEqProofs [-getElem?_pos, go_sem]⟩
    clear t4 t5 t7 t9 t10 t73 t74 t75 h1 h2 lt1 lt2
    intro m s hs'
    rw [hJ] at hs'
    obtain ⟨k, q, hk, hm, t4, t5, t7, t9, t10, t73, t74, t75, t14, t80, t81, t82, h1, h2, hq⟩ := hs'
    have lt1 := (List.getElem?_eq_some_iff.1 h1).1
    have lt2 := (List.getElem?_eq_some_iff.1 h2).1
    have ltq := (List.getElem?_eq_some_iff.1 hq).1
    simp -dsimp -implicitDefEqProofs [-getElem?_pos, go_sem, hP, t81, t82]
    refine condP (fun h => ?_) (fun h => ?_)
    · have hk : k < nC := by simpa using h
      obtain ⟨y, hy⟩ : ∃ y, c.Claims[k]? = some y := ⟨_, List.getElem?_eq_getElem (by omega)⟩
      have wk := wrap_in ((k : Int) + 1) (by omega)
      have nxt : ∀ (s' : St), s'.t 4 = .ref 1 0 0 → s'.t 5 = .ref 2 0 0 → s'.t 7 = matchesL new → s'.t 9 = iv (idxO nm) → s'.t 10 = iv (c.Claims.countP (equalB x)) → s'.t 73 = matchesL new → s'.t 74 = iv new.length → s'.t 75 = iv j → s'.t 14 = .ref q 0 0 → s'.t 80 = claimsL c.Claims → s'.t 81 = iv nC → s'.t 82 = iv ((k : Int) + 1) → s'.H[1]? = some (some O4) → s'.H[2]? = some (some O5) → s'.H[q]? = some (some ⟨40, 3, [[iv z.Income, iv z.Claim, iv z.Amount]]⟩) → ∃ m', m' < m ∧ J m' s' := fun s' a4 a5 a7 a9 a10 a73 a74 a75 a14 a80 a81 a82 b1 b2 b3 => by
        refine ⟨nC - (k + 1), by omega, ?_⟩
        rw [hJ]
        exact ⟨k + 1, q, by omega, rfl, a4, a5, a7, a9, a10, a73, a74, a75, a14, a80, a81, by rw [a82]; simp, b1, b2, b3⟩
      by_cases e0 : y.ID = z.Claim
      · obtain ⟨g1, g2⟩ := fe z hzm y (List.mem_of_getElem? hy) e0
        have g1 : (y.Open < z.Amount) = False := eq_false (by omega)
        have g2 : (y.Payer = x.Payer) = True := eq_true g2
        have e0 : (y.ID = z.Claim) = True := eq_true e0
        simp -dsimp -implicitDefEqProofs [-getElem?_pos, go_sem, hP, t80, t82, hy, cClm, t14, t5, hq, ltq, h2, lt2, hO5, e0, g1, g2, wk]
        exact nxt _ (by simp -dsimp -implicitDefEqProofs [-getElem?_pos, go_sem, t4]) (by simp -dsimp -implicitDefEqProofs [-getElem?_pos, go_sem, t5]) (by simp -dsimp -implicitDefEqProofs [-getElem?_pos, go_sem, t7]) (by simp -dsimp -implicitDefEqProofs [-getElem?_pos, go_sem, t9]) (by simp -dsimp -implicitDefEqProofs [-getElem?_pos, go_sem, t10]) (by simp -dsimp -implicitDefEqProofs [-getElem?_pos, go_sem, t73]) (by simp -dsimp -implicitDefEqProofs [-getElem?_pos, go_sem, t74]) (by simp -dsimp -implicitDefEqProofs [-getElem?_pos, go_sem, t75]) (by simp -dsimp -implicitDefEqProofs [-getElem?_pos, go_sem, t14]) (by simp -dsimp -implicitDefEqProofs [-getElem?_pos, go_sem, t80]) (by simp -dsimp -implicitDefEqProofs [-getElem?_pos, go_sem, t81]) (by simp -dsimp -implicitDefEqProofs [-getElem?_pos, go_sem]) (by simp -dsimp -implicitDefEqProofs [-getElem?_pos, go_sem, lt1, h1]) (by simp -dsimp -implicitDefEqProofs [-getElem?_pos, go_sem, lt2, h2]) (by simp -dsimp -implicitDefEqProofs [-getElem?_pos, go_sem, ltq, hq])
      · simp -dsimp -implicitDefEqProofs [-getElem?_pos, go_sem, hP, t80, t82, hy, cClm, t14, t5, hq, ltq, h2, lt2, hO5, e0, wk]
        exact nxt _ (by simp -dsimp -implicitDefEqProofs [-getElem?_pos, go_sem, t4]) (by simp -dsimp -implicitDefEqProofs [-getElem?_pos, go_sem, t5]) (by simp -dsimp -implicitDefEqProofs [-getElem?_pos, go_sem, t7]) (by simp -dsimp -implicitDefEqProofs [-getElem?_pos, go_sem, t9]) (by simp -dsimp -implicitDefEqProofs [-getElem?_pos, go_sem, t10]) (by simp -dsimp -implicitDefEqProofs [-getElem?_pos, go_sem, t73]) (by simp -dsimp -implicitDefEqProofs [-getElem?_pos, go_sem, t74]) (by simp -dsimp -implicitDefEqProofs [-getElem?_pos, go_sem, t75]) (by simp -dsimp -implicitDefEqProofs [-getElem?_pos, go_sem, t14]) (by simp -dsimp -implicitDefEqProofs [-getElem?_pos, go_sem, t80]) (by simp -dsimp -implicitDefEqProofs [-getElem?_pos, go_sem, t81]) (by simp -dsimp -implicitDefEqProofs [-getElem?_pos, go_sem]) (by simp -dsimp -implicitDefEqProofs [-getElem?_pos, go_sem, lt1, h1]) (by simp -dsimp -implicitDefEqProofs [-getElem?_pos, go_sem, lt2, h2]) (by simp -dsimp -implicitDefEqProofs [-getElem?_pos, go_sem, ltq, hq])
    · simp -dsimp -implicitDefEqProofs [-getElem?_pos, go_sem, hP, t75, wj]
      exact b0 _ (by simp -dsimp -implicitDefEqProofs [-getElem?_pos, go_sem, t4]) (by simp -dsimp -implicitDefEqProofs [-getElem?_pos, go_sem, t5]) (by simp -dsimp -implicitDefEqProofs [-getElem?_pos, go_sem, t7]) (by simp -dsimp -implicitDefEqProofs [-getElem?_pos, go_sem, t9]) (by simp -dsimp -implicitDefEqProofs [-getElem?_pos, go_sem, t10]) (by simp -dsimp -implicitDefEqProofs [-getElem?_pos, go_sem, t73]) (by simp -dsimp -implicitDefEqProofs [-getElem?_pos, go_sem, t74]) (by simp -dsimp -implicitDefEqProofs [-getElem?_pos, go_sem]) (by simp -dsimp -implicitDefEqProofs [-getElem?_pos, go_sem, lt1, h1]) (by simp -dsimp -implicitDefEqProofs [-getElem?_pos, go_sem, lt2, h2])
  clear h hI t73 t74 t75
  cases nm with
  | some j =>
    obtain ⟨y, hy, hn⟩ := hnm
    obtain ⟨z, r, en, e1, e2⟩ := fn j y hy hn
    have zr : new[0]? = some z := by rw [en]; rfl
    have nn : 0 < new.length := by rw [en]; simp
    have mn : amin [iv x.Amount, iv y.Open] = some (iv (min x.Amount y.Open)) := by simp [amin, aminFrom]
    have ej : (0 : Int) ≤ j := by omega
    simp -dsimp -implicitDefEqProofs [-getElem?_pos, go_sem, hP, t9, idxO, ej]
    refine adrawB (fun _ => true) [] hP (by kernel_rfl) (by kernel_rfl) ?_
    simp -dsimp -implicitDefEqProofs [-getElem?_pos, go_sem, hP, t7, t4, t5, t9, idxO, h1, h2, lt1, lt2, hO4, hO5, encL_len, nn, zr, cMtc, hy, cClm, e1, e2, mn]
    refine saneB ?_
    simp -dsimp -implicitDefEqProofs [-getElem?_pos, go_sem, hP]
  | none =>
    have hno : ∀ y, y ∈ c.Claims → namedB x y = false := by rw [NmOk, List.take_length] at hnm; exact hnm
    simp -dsimp -implicitDefEqProofs [-getElem?_pos, go_sem, hP, t9, idxO]
    by_cases es : c.Claims.countP (equalB x) = 1
    · obtain ⟨z, en, e2⟩ := fs hno es
      have zr : new[0]? = some z := by rw [en]; rfl
      have nn : (new.length : Int) = 1 := by rw [en]; rfl
      have es : ((c.Claims.countP (equalB x) : Nat) : Int) = 1 := by omega
      refine adrawB (fun _ => true) [] hP (by kernel_rfl) (by kernel_rfl) ?_
      simp -dsimp -implicitDefEqProofs [-getElem?_pos, go_sem, hP, t10, es, t7, t5, h2, lt2, hO5, encL_len, nn, zr, cMtc, e2]
      refine saneB ?_
      simp -dsimp -implicitDefEqProofs [-getElem?_pos, go_sem, hP]
    · have es : ¬ ((c.Claims.countP (equalB x) : Nat) : Int) = 1 := by omega
      refine adrawB (fun _ => true) [] hP (by kernel_rfl) (by kernel_rfl) ?_
      simp -dsimp -implicitDefEqProofs [-getElem?_pos, go_sem, hP, t10, es]
      refine saneB ?_
      simp -dsimp -implicitDefEqProofs [-getElem?_pos, go_sem, hP]
end Go.Proofs.YtgapbmaehfdkoaaGreatDoor
