/- Accounts: the reference's Post and the rest. -/
import Derived.Test.YtellcfkpfccgaaaAcc4
import Derived.Test.YtellcfkpfccgaaaGrown
set_option linter.unusedSimpArgs false
set_option linter.unusedVariables false
namespace Go.Proofs.Ytellcfkpfccgaaa
open Go.PA
open Go.RowKit

theorem agree_push {n : Nat} {H l : Heap} (h : n ≤ H.length) : Agree (fun id => decide (id < n)) H (H ++ l) := fun id hid => List.getElem?_append_left (by simp at hid; omega)
theorem agree_3 {a b c : Option AObj} {l l' : Heap} : Agree (fun id => decide (id < 3)) (a :: b :: c :: l) (a :: b :: c :: l') := fun id hid => by
  have : id < 3 := by simpa using hid
  rcases id with _ | _ | _ | id
  · rfl
  · rfl
  · rfl
  · omega

abbrev zeroA : TAccount := ⟨0, [], []⟩
/-- An entry behind an account. -/
def postA (a : TAccount) (e : TEntry) : TAccount × Int :=
  if checkA a = 0 then
    if a.Entries.length = 400 then (zeroA, 3) else
    if (postS a.Credit (lastE a).Number (lastE a).Day a.Subs e).1 = 0 then (⟨a.Credit, (postS a.Credit (lastE a).Number (lastE a).Day a.Subs e).2, a.Entries ++ [e]⟩, 0) else (zeroA, (postS a.Credit (lastE a).Number (lastE a).Day a.Subs e).1)
  else (zeroA, checkA a)

theorem lastE_nil {a : TAccount} (h : a.Entries.length = 0) : lastE a = zeroE := by
  rw [lastE, List.eq_nil_of_length_eq_zero h]
  rfl
theorem lastE_get {a : TAccount} {k : Nat} {e : TEntry} (h : a.Entries.length = k + 1) (he : a.Entries[k]? = some e) : lastE a = e := by
  rw [lastE, List.getLast?_eq_getElem?, h]
  simp [he]

theorem cA (a : TAccount) : a.cells = [iv a.Credit, subsL a.Subs, entsL a.Entries] := rfl
theorem cE (e : TEntry) : e.cells = [iv e.Number, iv e.Day, iv e.From, iv e.To, iv e.Amount, iv e.Ref] := rfl

theorem done_zeroA {H : Heap} {n : Int} {Q : AV → Prop} {b : Bx Q} (h : Q (.tup [.agg zeroA.cells, iv n])) : Done H (.tup [.agg [iv 0, .nil, .nil], iv n]) Q b :=
  done_agg2 (cw_sc (cw_nil (cw_nil .nil))) h

theorem last23_pf (a : TAccount) (he : a.Entries.length ≤ 100000) : PFun Try.prog none none 114 [.agg a.cells] (· = .agg (lastE a).cells) := by
  refine pfun_intro Try.func114 rfl (by simp [Try.f114]) (by kernel_rfl) ?_
  intro E hP hr hs hW hN
  by_cases h0 : a.Entries.length = 0
  · have d0 : decide (0 < a.Entries.length) = false := decide_eq_false (by omega)
    have : lastE a = zeroE := lastE_nil h0
    simp -dsimp -implicitDefEqProofs [-getElem?_pos, go_sem, hP, cA, d0]
    refine done_imm (imm_ent zeroE) ?_
    rw [this]
    rfl
  · obtain ⟨k, hk⟩ : ∃ k, a.Entries.length = k + 1 := ⟨a.Entries.length - 1, by omega⟩
    obtain ⟨e, hee⟩ : ∃ e, a.Entries[k]? = some e := ⟨_, List.getElem?_eq_getElem (by omega)⟩
    have d0 : decide ((0 : Int) < (k : Int) + 1) = true := by simp
    have wk := wrap_in ((k : Int) + 1 - 1) (by omega)
    rw [Int.add_sub_cancel] at wk
    have : lastE a = e := lastE_get hk hee
    simp -dsimp -implicitDefEqProofs [-getElem?_pos, go_sem, hP, cA, hk, d0, Int.add_sub_cancel, wk, hee, cE]
    refine done_imm (imm_ent e) ?_
    rw [this]
    rfl

set_option maxHeartbeats 1000000 in
theorem post23_pf (a : TAccount) (e : TEntry) (hl : a.Subs.length ≤ 100000) (he : a.Entries.length ≤ 100000) : PFun Try.prog none none 95 [.agg a.cells, .agg e.cells] (· = .tup [.agg (postA a e).1.cells, iv (postA a e).2]) := by
  refine pfun_intro Try.func95 rfl (by simp [Try.f95]) (by kernel_rfl) ?_
  intro E hP hr hs hW hN
  have ck := check23_pf a hl he
  have la := last23_pf a he
  rw [cA] at ck la
  have ia : Imm (.agg [iv a.Credit, subsL a.Subs, entsL a.Entries]) := imm_acc a
  have ie : Imm (.agg [iv e.Number, iv e.Day, iv e.From, iv e.To, iv e.Amount, iv e.Ref]) := imm_ent e
  simp -dsimp -implicitDefEqProofs [-getElem?_pos, go_sem, hP, cA, cE]
  refine callB_is (ck.lift _ _) hP en_101 (by simp [ia]) .sc ?_
  by_cases c1 : checkA a = 0
  rotate_left
  · have : postA a e = (zeroA, checkA a) := by rw [postA, if_neg c1]
    simp -dsimp -implicitDefEqProofs [-getElem?_pos, go_sem, hP, c1]
    refine done_zeroA ?_
    rw [this]
  obtain ⟨k1, k2, k3, k4, k5⟩ := check_ok c1
  by_cases c2 : a.Entries.length = 400
  · have : postA a e = (zeroA, 3) := by rw [postA, if_pos c1, if_pos c2]
    simp -dsimp -implicitDefEqProofs [-getElem?_pos, go_sem, hP, c1, c2]
    refine done_zeroA ?_
    rw [this]
  have d2 : decide ((a.Entries.length : Int) = 400) = false := by simp; omega
  obtain ⟨hnd, hz0, hhd⟩ := numB_facts k4
  obtain ⟨q1, q2, q3, q4⟩ := check_keeps c1
  have ap := add_pf a.Credit a.Subs (lastE a) e (by omega) k3 hnd hz0 q1 (by omega) q3
  rw [cE, cE] at ap
  simp -dsimp -implicitDefEqProofs [-getElem?_pos, go_sem, hP, c1, d2]
  refine adrawB (fun _ => true) [] hP (by kernel_rfl) (by kernel_rfl) ?_
  simp -dsimp -implicitDefEqProofs [-getElem?_pos, go_sem, hP]
  refine callB_is (la.lift _ _) hP en_114 (by simp [ia]) (imm_ent _) ?_
  simp -dsimp -implicitDefEqProofs [-getElem?_pos, go_sem, hP, cE]
  refine callB_is (ap.lift _ _) hP en_113 (by simp [imm_subs, imm_sc, ie]; exact imm_ent (lastE a)) (imm_pair (imm_subs _) .sc) ?_
  by_cases c3 : (postS a.Credit (lastE a).Number (lastE a).Day a.Subs e).1 = 0
  · have pA : postA a e = (⟨a.Credit, (postS a.Credit (lastE a).Number (lastE a).Day a.Subs e).2, a.Entries ++ [e]⟩, 0) := by rw [postA, if_pos c1, if_neg c2, if_pos c3]
    rw [addR_ok c3]
    simp -dsimp -implicitDefEqProofs [-getElem?_pos, go_sem, hP]
    refine adrawB (fun id => decide (id < 3)) [7] hP (by kernel_rfl) (by kernel_rfl) ?_
    simp -dsimp -implicitDefEqProofs [-getElem?_pos, go_sem, hP, restr_get]
    refine ⟨by omega, by omega, agree_3, by omega, by omega, agree_3, ?_⟩
    have en : encL TEntry.cells a.Entries ++ [[iv e.Number, iv e.Day, iv e.From, iv e.To, iv e.Amount, iv e.Ref]] = encL TEntry.cells (a.Entries ++ [e]) := encL_snoc TEntry.cells a.Entries e
    refine done_agg2 (cw_sc (cw_imm (imm_subs _) (cw_sref rfl (by simp [encL]) (by rw [en]; exact imm_ents _) .nil))) ?_
    rw [pA, en]
    rfl
  · have pA : postA a e = (zeroA, (postS a.Credit (lastE a).Number (lastE a).Day a.Subs e).1) := by rw [postA, if_pos c1, if_neg c2, if_neg c3]
    rw [addR_bad c3]
    simp -dsimp -implicitDefEqProofs [-getElem?_pos, go_sem, hP, c3]
    refine done_zeroA ?_
    rw [pA]

/-- The next entry of an account, whatever it is. -/
def nextE (a : TAccount) (day from_ to amount ref : Int) : TEntry := ⟨IntKind.i64.wrap ((lastE a).Number + 1), day, from_, to, amount, ref⟩
theorem next23_pf (a : TAccount) (day from_ to amount ref : Int) (he : a.Entries.length ≤ 100000) : PFun Try.prog none none 96 [.agg a.cells, iv day, iv from_, iv to, iv amount, iv ref] (· = .agg (nextE a day from_ to amount ref).cells) := by
  refine pfun_intro Try.func96 rfl (by simp [Try.f96]) (by kernel_rfl) ?_
  intro E hP hr hs hW hN
  have la := last23_pf a he
  rw [cA, cE] at la
  have ia : Imm (.agg [iv a.Credit, subsL a.Subs, entsL a.Entries]) := imm_acc a
  simp -dsimp -implicitDefEqProofs [-getElem?_pos, go_sem, hP, cA]
  refine callB_is (la.lift _ _) hP en_114 (by simp [ia]) (imm_ent (lastE a)) ?_
  simp -dsimp -implicitDefEqProofs [-getElem?_pos, go_sem, hP]
  refine done_imm (imm_ent (nextE a day from_ to amount ref)) ?_
  rfl

/-- A balance. -/
def balanceA (a : TAccount) (id : Int) : Int × Bool :=
  if checkA a = 0 then (match a.Subs.find? (fun s => decide (s.ID = id)) with | some s => (s.Balance, true) | none => (0, false)) else (0, false)
theorem find_place {l : List TSub} {id : Int} : (placeI l id = -1 ∧ l.find? (fun s => decide (s.ID = id)) = none) ∨ ∃ (i : Nat) (s : TSub), placeI l id = i ∧ l[i]? = some s ∧ l.find? (fun s => decide (s.ID = id)) = some s := by
  suffices h : ∀ (l : List TSub) (k : Nat), (idxFrom (fun s => decide (s.ID = id)) k l = -1 ∧ l.find? (fun s => decide (s.ID = id)) = none) ∨ ∃ (i : Nat) (s : TSub), idxFrom (fun s => decide (s.ID = id)) k l = ((k + i : Nat) : Int) ∧ l[i]? = some s ∧ l.find? (fun s => decide (s.ID = id)) = some s by
    have := h l 0
    simpa [placeI, idxI] using this
  intro l
  induction l with
  | nil => exact fun k => .inl ⟨rfl, rfl⟩
  | cons a l ih =>
    intro k
    rw [idxFrom, List.find?_cons]
    by_cases h : a.ID = id
    · simp only [h, decide_true, if_true]
      exact .inr ⟨0, a, by simp, rfl, rfl⟩
    · simp only [h, decide_false, Bool.false_eq_true, if_false]
      rcases ih (k + 1) with h | ⟨i, s, h1, h2, h3⟩
      · exact .inl h
      · exact .inr ⟨i + 1, s, by rw [h1]; congr 1; omega, h2, h3⟩
/-- The sum of all balances. -/
def sumB (l : List TSub) : Int := (l.map (·.Balance)).sum
theorem sumB_snoc (l : List TSub) (s : TSub) : sumB (l ++ [s]) = sumB l + s.Balance := by simp [sumB]
def totalA (a : TAccount) : Int := if checkA a = 0 then sumB a.Subs else 0
theorem okSub_bounds {credit : Int} {s : TSub} (hc : 0 ≤ credit ∧ credit ≤ 1000000000000) (h : okSub credit s = true) : -1000000000000 ≤ s.Balance ∧ s.Balance ≤ 1000000000000000 := by
  have := (okSub_iff _ _).1 h
  split at this <;> omega
theorem sumB_bound {credit : Int} (hc : 0 ≤ credit ∧ credit ≤ 1000000000000) : ∀ l : List TSub, okAll credit l = true → -(1000000000000 * (l.length : Int)) ≤ sumB l ∧ sumB l ≤ 1000000000000000 * (l.length : Int)
  | [], _ => by simp [sumB]
  | s :: l, h => by
    simp only [okAll, List.all_cons, Bool.and_eq_true] at h
    have h1 := okSub_bounds hc h.1
    have h2 := sumB_bound hc l h.2
    have : sumB (s :: l) = s.Balance + sumB l := by simp [sumB]
    rw [this, List.length_cons]
    omega
theorem okAll_take {credit : Int} {l : List TSub} (h : okAll credit l = true) (k : Nat) : okAll credit (l.take k) = true := List.all_eq_true.2 fun s hs => List.all_eq_true.1 h s (List.mem_of_mem_take hs)
/-- The balances of a day. -/
def atA (a : TAccount) (day : Int) : List TSub := if checkA a = 0 then (untilR a day).1 else []
theorem at23_pf (a : TAccount) (day : Int) (hl : a.Subs.length ≤ 100000) (he : a.Entries.length ≤ 100000) : PFun Try.prog none none 57 [.agg a.cells, iv day] (· = subsL (atA a day)) := by
  refine pfun_intro Try.func57 rfl (by simp [Try.f57]) (by kernel_rfl) ?_
  intro E hP hr hs hW hN
  have ck := check23_pf a hl he
  rw [cA] at ck
  have ia : Imm (.agg [iv a.Credit, subsL a.Subs, entsL a.Entries]) := imm_acc a
  simp -dsimp -implicitDefEqProofs [-getElem?_pos, go_sem, hP, cA]
  refine callB_is (ck.lift _ _) hP en_101 (by simp [ia]) .sc ?_
  by_cases c1 : checkA a = 0
  rotate_left
  · have : atA a day = [] := by rw [atA, if_neg c1]
    simp -dsimp -implicitDefEqProofs [-getElem?_pos, go_sem, hP, c1]
    refine done_weak (.nil) (imm_subs []) (.nil 2) ?_
    rw [this]
  have tA : atA a day = (untilR a day).1 := by rw [atA, if_pos c1]
  obtain ⟨k1, k2, k3, k4, k5⟩ := check_ok c1
  obtain ⟨hnd, hz0, hhd⟩ := numB_facts k4
  have up := until_pf a day hl he k3 hnd hz0
  rw [cA] at up
  simp -dsimp -implicitDefEqProofs [-getElem?_pos, go_sem, hP, c1]
  refine callB_is (up.lift _ _) hP en_102 (by simp [ia, imm_sc]) (imm_pair (imm_subs _) .sc) ?_
  simp -dsimp -implicitDefEqProofs [-getElem?_pos, go_sem, hP]
  refine done_imm (imm_subs _) ?_
  rw [tA]

/-- What came from outside, what went there. -/
def inF (from_ to : Int) (e : TEntry) : Int := if amongB e.Day from_ to = true ∧ e.From = 0 then e.Amount else 0
def outF (from_ to : Int) (e : TEntry) : Int := if amongB e.Day from_ to = true ∧ e.To = 0 then e.Amount else 0
def sumE (f : TEntry → Int) (l : List TEntry) : Int := (l.map f).sum
theorem sumE_snoc (f : TEntry → Int) (l : List TEntry) (e : TEntry) : sumE f (l ++ [e]) = sumE f l + f e := by simp [sumE]
theorem sumE_bound (f : TEntry → Int) (N : Int) : ∀ l : List TEntry, (∀ e, e ∈ l → 0 ≤ f e ∧ f e ≤ N) → 0 ≤ sumE f l ∧ sumE f l ≤ N * (l.length : Int)
  | [], _ => by simp [sumE]
  | e :: l, h => by
    have h1 := h e (by simp)
    have h2 := sumE_bound f N l fun x hx => h x (List.mem_cons_of_mem _ hx)
    have : sumE f (e :: l) = f e + sumE f l := by simp [sumE]
    rw [this, List.length_cons]
    have : N * ((l.length + 1 : Nat) : Int) = N * (l.length : Int) + N := by rw [Int.natCast_add, Int.mul_add]; simp
    omega
def flowA (a : TAccount) (from_ to : Int) : Int × Int := if checkA a = 0 then (sumE (inF from_ to) a.Entries, sumE (outF from_ to) a.Entries) else (0, 0)
/-- What an entry of a right account is. -/
theorem replayS_mem (credit : Int) : ∀ (es : List TEntry) (n d : Int) (l : List TSub) (r : Int × Int × List TSub), replayS credit n d l es = some r → ∀ e, e ∈ es → 0 < e.Amount ∧ e.Amount ≤ 1000000000000 ∧ 0 ≤ e.Ref ∧ e.Ref ≤ 1000000 ∧ e.From ≠ e.To ∧ (e.From = 0 ∨ e.From ∈ ids l) ∧ (e.To = 0 ∨ e.To ∈ ids l)
  | [], n, d, l, r, h, e, he => by simp at he
  | x :: es, n, d, l, r, h, e, he => by
    rw [replayS] at h
    split at h
    · rename_i hp
      obtain ⟨_, _, _, h4, h5, h6, h7, h8, h9, h10, _⟩ := postS_ok hp
      rcases List.mem_cons.1 he with rfl | he
      · exact ⟨h4, h5, h6, h7, h8, h9, h10⟩
      · have := replayS_mem credit es _ _ _ r h e he
        rw [postS_ids] at this
        exact this
    · cases h
theorem check_mem {a : TAccount} (h : checkA a = 0) : ∀ e, e ∈ a.Entries → 0 < e.Amount ∧ e.Amount ≤ 1000000000000 ∧ 0 ≤ e.Ref ∧ e.Ref ≤ 1000000 ∧ e.From ≠ e.To ∧ (e.From = 0 ∨ e.From ∈ ids a.Subs) ∧ (e.To = 0 ∨ e.To ∈ ids a.Subs) := by
  obtain ⟨_, _, _, _, h5⟩ := check_ok h
  have := replayS_mem _ _ _ _ _ _ h5
  rw [zeroS_ids] at this
  exact this
theorem inF_bound {a : TAccount} (h : checkA a = 0) (from_ to : Int) : ∀ e, e ∈ a.Entries → 0 ≤ inF from_ to e ∧ inF from_ to e ≤ 1000000000000 := fun e he => by
  have := check_mem h e he
  unfold inF
  split <;> omega
theorem outF_bound {a : TAccount} (h : checkA a = 0) (from_ to : Int) : ∀ e, e ∈ a.Entries → 0 ≤ outF from_ to e ∧ outF from_ to e ≤ 1000000000000 := fun e he => by
  have := check_mem h e he
  unfold outF
  split <;> omega

set_option maxHeartbeats 1000000 in
theorem flow23_pf (a : TAccount) (from_ to : Int) (hl : a.Subs.length ≤ 100000) (he : a.Entries.length ≤ 100000) : PFun Try.prog none none 58 [.agg a.cells, iv from_, iv to] (· = .tup [iv (flowA a from_ to).1, iv (flowA a from_ to).2]) := by
  refine pfun_intro Try.func58 rfl (by simp [Try.f58]) (by kernel_rfl) ?_
  intro E hP hr hs hW hN
  have ck := check23_pf a hl he
  rw [cA] at ck
  have ia : Imm (.agg [iv a.Credit, subsL a.Subs, entsL a.Entries]) := imm_acc a
  simp -dsimp -implicitDefEqProofs [-getElem?_pos, go_sem, hP, cA]
  refine callB_is (ck.lift _ _) hP en_101 (by simp [ia]) .sc ?_
  by_cases c1 : checkA a = 0
  rotate_left
  · have : flowA a from_ to = (0, 0) := by rw [flowA, if_neg c1]
    simp -dsimp -implicitDefEqProofs [-getElem?_pos, go_sem, hP, c1]
    refine done_imm (imm_pair .sc .sc) ?_
    rw [this]
  have tA : flowA a from_ to = (sumE (inF from_ to) a.Entries, sumE (outF from_ to) a.Entries) := by rw [flowA, if_pos c1]
  obtain ⟨k1, k2, k3, k4, k5⟩ := check_ok c1
  simp -dsimp -implicitDefEqProofs [-getElem?_pos, go_sem, hP, c1]
  obtain ⟨I, hI⟩ : ∃ I : Nat → St → Prop, I = fun m s => ∃ k : Nat, k ≤ a.Entries.length ∧ m = a.Entries.length - k ∧ s.t 1 = iv from_ ∧ s.t 2 = iv to ∧ s.t 8 = iv (sumE (inF from_ to) (a.Entries.take k)) ∧ s.t 9 = iv (sumE (outF from_ to) (a.Entries.take k)) ∧ s.t 16 = entsL a.Entries ∧ s.t 17 = iv a.Entries.length ∧ s.t 18 = iv k := ⟨_, rfl⟩
  refine aloop0 I (a.Entries.length) (by rw [hN]; rfl) ?_ ?_
  · rw [hI]
    exact ⟨0, by omega, by omega, by simp -dsimp -implicitDefEqProofs [-getElem?_pos, go_sem], by simp -dsimp -implicitDefEqProofs [-getElem?_pos, go_sem], by simp -dsimp -implicitDefEqProofs [-getElem?_pos, go_sem, sumE], by simp -dsimp -implicitDefEqProofs [-getElem?_pos, go_sem, sumE], by simp -dsimp -implicitDefEqProofs [-getElem?_pos, go_sem], by simp -dsimp -implicitDefEqProofs [-getElem?_pos, go_sem], by simp -dsimp -implicitDefEqProofs [-getElem?_pos, go_sem]⟩
  intro m s hs'
  rw [hI] at hs'
  obtain ⟨k, hk, hm, t1, t2, t8, t9, t16, t17, t18⟩ := hs'
  simp -dsimp -implicitDefEqProofs [-getElem?_pos, go_sem, hP, t17, t18]
  refine condP (fun h => ?_) (fun h => ?_)
  · have hk : k < a.Entries.length := by simpa using h
    obtain ⟨e, hee⟩ : ∃ e, a.Entries[k]? = some e := ⟨_, List.getElem?_eq_getElem hk⟩
    have wk := wrap_in ((k : Int) + 1) (by omega)
    have e1 : a.Entries.take (k + 1) = a.Entries.take k ++ [e] := by rw [List.take_add_one, hee]; rfl
    have b2 : (a.Entries.take (k + 1)).length ≤ 400 := by rw [List.length_take]; omega
    have bi := sumE_bound (inF from_ to) 1000000000000 (a.Entries.take (k + 1)) fun x hx => inF_bound c1 _ _ x (List.mem_of_mem_take hx)
    have bo := sumE_bound (outF from_ to) 1000000000000 (a.Entries.take (k + 1)) fun x hx => outF_bound c1 _ _ x (List.mem_of_mem_take hx)
    have si : sumE (inF from_ to) (a.Entries.take (k + 1)) = sumE (inF from_ to) (a.Entries.take k) + inF from_ to e := by rw [e1, sumE_snoc]
    have so : sumE (outF from_ to) (a.Entries.take (k + 1)) = sumE (outF from_ to) (a.Entries.take k) + outF from_ to e := by rw [e1, sumE_snoc]
    have fin : ∀ s' : St, s'.t 8 = iv (sumE (inF from_ to) (a.Entries.take (k + 1))) → s'.t 9 = iv (sumE (outF from_ to) (a.Entries.take (k + 1))) → s'.t 1 = s.t 1 → s'.t 2 = s.t 2 → s'.t 16 = s.t 16 → s'.t 17 = s.t 17 → s'.t 18 = iv ((k : Int) + 1) → ∃ n', n' < m ∧ I n' s' := fun s' e8 e9 e1 e2 e16 e17 e18 => by
      refine ⟨a.Entries.length - (k + 1), by omega, ?_⟩
      rw [hI]
      exact ⟨k + 1, by omega, rfl, by rw [e1, t1], by rw [e2, t2], e8, e9, by rw [e16, t16], by rw [e17, t17], by rw [e18]; simp⟩
    by_cases d : amongB e.Day from_ to = true
    · have d' := amongB_iff.1 d
      have d1 : decide (e.Day < from_) = false := decide_eq_false (by omega)
      have d2 : decide (to < e.Day) = false := decide_eq_false (by omega)
      by_cases f0 : e.From = 0
      · have g0 : decide (e.From = 0) = true := by simpa using f0
        have fi : inF from_ to e = e.Amount := by rw [inF, if_pos ⟨d, f0⟩]
        have wi := wrap_in (sumE (inF from_ to) (a.Entries.take k) + e.Amount) (by omega)
        by_cases z0 : e.To = 0
        · exact absurd (f0.trans z0.symm) (check_mem c1 e (List.mem_of_getElem? hee)).2.2.2.2.1
        · have fo : outF from_ to e = 0 := by rw [outF, if_neg (fun h => z0 h.2)]
          simp -dsimp -implicitDefEqProofs [-getElem?_pos, go_sem, hP, t16, t18, hee, TEntry.cells, t1, t2, d1, d2, g0, z0, t8, wi, wk]
          exact fin _ (by simp -dsimp -implicitDefEqProofs [-getElem?_pos, go_sem]; rw [si, fi]) (by simp -dsimp -implicitDefEqProofs [-getElem?_pos, go_sem, t9]; rw [so, fo]; simp) (by simp -dsimp -implicitDefEqProofs [-getElem?_pos, go_sem]) (by simp -dsimp -implicitDefEqProofs [-getElem?_pos, go_sem]) (by simp -dsimp -implicitDefEqProofs [-getElem?_pos, go_sem]) (by simp -dsimp -implicitDefEqProofs [-getElem?_pos, go_sem]) (by simp -dsimp -implicitDefEqProofs [-getElem?_pos, go_sem])
      · have fi : inF from_ to e = 0 := by rw [inF, if_neg (fun h => f0 h.2)]
        by_cases z0 : e.To = 0
        · have g0 : decide (e.To = 0) = true := by simpa using z0
          have fo : outF from_ to e = e.Amount := by rw [outF, if_pos ⟨d, z0⟩]
          have wo := wrap_in (sumE (outF from_ to) (a.Entries.take k) + e.Amount) (by omega)
          simp -dsimp -implicitDefEqProofs [-getElem?_pos, go_sem, hP, t16, t18, hee, TEntry.cells, t1, t2, d1, d2, f0, g0, t9, wo, wk]
          exact fin _ (by simp -dsimp -implicitDefEqProofs [-getElem?_pos, go_sem, t8]; rw [si, fi]; simp) (by simp -dsimp -implicitDefEqProofs [-getElem?_pos, go_sem]; rw [so, fo]) (by simp -dsimp -implicitDefEqProofs [-getElem?_pos, go_sem]) (by simp -dsimp -implicitDefEqProofs [-getElem?_pos, go_sem]) (by simp -dsimp -implicitDefEqProofs [-getElem?_pos, go_sem]) (by simp -dsimp -implicitDefEqProofs [-getElem?_pos, go_sem]) (by simp -dsimp -implicitDefEqProofs [-getElem?_pos, go_sem])
        · have fo : outF from_ to e = 0 := by rw [outF, if_neg (fun h => z0 h.2)]
          simp -dsimp -implicitDefEqProofs [-getElem?_pos, go_sem, hP, t16, t18, hee, TEntry.cells, t1, t2, d1, d2, f0, z0, wk]
          exact fin _ (by simp -dsimp -implicitDefEqProofs [-getElem?_pos, go_sem, t8]; rw [si, fi]; simp) (by simp -dsimp -implicitDefEqProofs [-getElem?_pos, go_sem, t9]; rw [so, fo]; simp) (by simp -dsimp -implicitDefEqProofs [-getElem?_pos, go_sem]) (by simp -dsimp -implicitDefEqProofs [-getElem?_pos, go_sem]) (by simp -dsimp -implicitDefEqProofs [-getElem?_pos, go_sem]) (by simp -dsimp -implicitDefEqProofs [-getElem?_pos, go_sem]) (by simp -dsimp -implicitDefEqProofs [-getElem?_pos, go_sem])
    · have fi : inF from_ to e = 0 := by rw [inF, if_neg (fun h => d h.1)]
      have fo : outF from_ to e = 0 := by rw [outF, if_neg (fun h => d h.1)]
      rw [amongB_iff] at d
      by_cases d1 : e.Day < from_
      · simp -dsimp -implicitDefEqProofs [-getElem?_pos, go_sem, hP, t16, t18, hee, TEntry.cells, t1, t2, d1, wk]
        exact fin _ (by simp -dsimp -implicitDefEqProofs [-getElem?_pos, go_sem, t8]; rw [si, fi]; simp) (by simp -dsimp -implicitDefEqProofs [-getElem?_pos, go_sem, t9]; rw [so, fo]; simp) (by simp -dsimp -implicitDefEqProofs [-getElem?_pos, go_sem]) (by simp -dsimp -implicitDefEqProofs [-getElem?_pos, go_sem]) (by simp -dsimp -implicitDefEqProofs [-getElem?_pos, go_sem]) (by simp -dsimp -implicitDefEqProofs [-getElem?_pos, go_sem]) (by simp -dsimp -implicitDefEqProofs [-getElem?_pos, go_sem])
      · have d2 : decide (to < e.Day) = true := decide_eq_true (by omega)
        simp -dsimp -implicitDefEqProofs [-getElem?_pos, go_sem, hP, t16, t18, hee, TEntry.cells, t1, t2, d1, d2, wk]
        exact fin _ (by simp -dsimp -implicitDefEqProofs [-getElem?_pos, go_sem, t8]; rw [si, fi]; simp) (by simp -dsimp -implicitDefEqProofs [-getElem?_pos, go_sem, t9]; rw [so, fo]; simp) (by simp -dsimp -implicitDefEqProofs [-getElem?_pos, go_sem]) (by simp -dsimp -implicitDefEqProofs [-getElem?_pos, go_sem]) (by simp -dsimp -implicitDefEqProofs [-getElem?_pos, go_sem]) (by simp -dsimp -implicitDefEqProofs [-getElem?_pos, go_sem]) (by simp -dsimp -implicitDefEqProofs [-getElem?_pos, go_sem])
  · have hk : k = a.Entries.length := by simp at h; omega
    subst hk
    rw [List.take_length] at t8 t9
    simp -dsimp -implicitDefEqProofs [-getElem?_pos, go_sem, hP, t8, t9]
    refine done_imm (imm_pair .sc .sc) ?_
    rw [tA]

/-- A new account. -/
abbrev numsL (l : List Int) : AV := .list 1 (encL encI l)
theorem imm_nums (l : List Int) : Imm (numsL l) := imm_encL _ imm_encI l
def newS (l : List Int) : List TSub := l.map fun i => ⟨i, 0⟩
theorem newS_len (l : List Int) : (newS l).length = l.length := by simp [newS]
def newA (l : List Int) (credit : Int) : TAccount := ⟨credit, newS l, []⟩
theorem newS_ids (l : List Int) : ids (newS l) = l := by simp [ids, newS, Function.comp_def]
def openA (ids : List Int) (credit : Int) : TAccount × Int :=
  if vB credit = true then if 20 < ids.length then (zeroA, 3) else if numB ids = true then (newA ids credit, 0) else (zeroA, 60) else (zeroA, 2)
set_option maxHeartbeats 1000000 in
theorem open23_pf (l : List Int) (credit : Int) (hl : l.length ≤ 100000) : PFun Try.prog none none 94 [numsL l, iv credit] (· = .tup [.agg (openA l credit).1.cells, iv (openA l credit).2]) := by
  refine pfun_intro Try.func94 rfl (by simp [Try.f94]) (by kernel_rfl) ?_
  intro E hP hr hs hW hN
  simp -dsimp -implicitDefEqProofs [-getElem?_pos, go_sem, hP]
  refine callB_pure (valid01_pf credit) hP en_111 (args_same (by simp -dsimp -implicitDefEqProofs [-getElem?_pos, go_sem])) .sc ?_
  by_cases c1 : vB credit = true
  rotate_left
  · have : openA l credit = (zeroA, 2) := by rw [openA, if_neg c1]
    simp -dsimp -implicitDefEqProofs [-getElem?_pos, go_sem, hP, c1]
    refine done_zeroA ?_
    rw [this]
  by_cases c2 : 20 < l.length
  · have d2 : decide ((20 : Int) < l.length) = true := decide_eq_true (by omega)
    have : openA l credit = (zeroA, 3) := by rw [openA, if_pos c1, if_pos c2]
    simp -dsimp -implicitDefEqProofs [-getElem?_pos, go_sem, hP, c1, d2]
    refine done_zeroA ?_
    rw [this]
  have d2 : decide ((20 : Int) < l.length) = false := decide_eq_false (by omega)
  simp -dsimp -implicitDefEqProofs [-getElem?_pos, go_sem, hP, c1, d2]
  obtain ⟨I, hI⟩ : ∃ I : Nat → St → Prop, I = fun m s => ∃ (k : Nat) (x : AV), k ≤ l.length ∧ m = l.length - k ∧ s.t 4 = .ref 0 0 0 ∧ s.t 6 = .ref 1 0 0 ∧ s.t 19 = numsL l ∧ s.t 20 = iv l.length ∧ s.t 21 = iv k ∧ s.H[0]? = some (some ⟨90, 3, [[iv 0, .nil, .nil]]⟩) ∧ s.H[1]? = some (some ⟨90, 3, [[iv credit, x, .nil]]⟩) ∧ Grown 2 s.H x 96 2 (encL TSub.cells (newS (l.take k))) := ⟨_, rfl⟩
  refine aloop0 I (l.length) (by rw [hN]; rfl) ?_ ?_
  · rw [hI]
    exact ⟨0, .nil, by omega, by omega, by simp -dsimp -implicitDefEqProofs [-getElem?_pos, go_sem], by simp -dsimp -implicitDefEqProofs [-getElem?_pos, go_sem], by simp -dsimp -implicitDefEqProofs [-getElem?_pos, go_sem], by simp -dsimp -implicitDefEqProofs [-getElem?_pos, go_sem], by simp -dsimp -implicitDefEqProofs [-getElem?_pos, go_sem], by simp -dsimp -implicitDefEqProofs [-getElem?_pos, go_sem], by simp -dsimp -implicitDefEqProofs [-getElem?_pos, go_sem], .inl ⟨rfl, rfl⟩⟩
  intro m s hs'
  rw [hI] at hs'
  obtain ⟨k, x, hk, hm, t4, t6, t19, t20, t21, h0, h1, hg⟩ := hs'
  have lt0 := (List.getElem?_eq_some_iff.1 h0).1
  have lt1 := (List.getElem?_eq_some_iff.1 h1).1
  simp -dsimp -implicitDefEqProofs [-getElem?_pos, go_sem, hP, t20, t21]
  refine condP (fun h => ?_) (fun h => ?_)
  · have hk : k < l.length := by simpa using h
    obtain ⟨n, hn⟩ : ∃ n, l[k]? = some n := ⟨_, List.getElem?_eq_getElem hk⟩
    have wk := wrap_in ((k : Int) + 1) (by omega)
    have e1 : newS (l.take (k + 1)) = newS (l.take k) ++ [⟨n, 0⟩] := by rw [List.take_add_one, hn]; simp [newS]
    have nl : (newS (l.take k)).length = k := by rw [newS_len, List.length_take]; omega
    rcases hg with ⟨rfl, hg⟩ | ⟨id, h2, rfl, hg⟩
    · simp -dsimp -implicitDefEqProofs [-getElem?_pos, go_sem, hP, t19, t21, hn, encI, t6, h1, lt1, wk]
      refine ⟨l.length - (k + 1), by omega, ?_⟩
      rw [hI]
      refine ⟨k + 1, .sref s.H.length 0 1, by omega, rfl, by simp -dsimp -implicitDefEqProofs [-getElem?_pos, go_sem, t4], by simp -dsimp -implicitDefEqProofs [-getElem?_pos, go_sem, t6], by simp -dsimp -implicitDefEqProofs [-getElem?_pos, go_sem, t19], by simp -dsimp -implicitDefEqProofs [-getElem?_pos, go_sem, t20], by simp -dsimp -implicitDefEqProofs [-getElem?_pos, go_sem], by simp -dsimp -implicitDefEqProofs [-getElem?_pos, go_sem, lt0, h0], by simp -dsimp -implicitDefEqProofs [-getElem?_pos, go_sem, lt1], .inr ⟨s.H.length, by omega, ?_, ?_⟩⟩
      · rw [e1, ← encL_snoc, hg]; rfl
      · rw [e1, ← encL_snoc, hg]
        simp -dsimp -implicitDefEqProofs [-getElem?_pos, go_sem, TSub.cells]
    · have ne0 : ¬ id = 0 := by omega
      have ne1 : ¬ id = 1 := by omega
      have lti := (List.getElem?_eq_some_iff.1 hg).1
      simp -dsimp -implicitDefEqProofs [-getElem?_pos, go_sem, hP, t19, t21, hn, encI, t6, h1, lt1, hg, ne1, nl, wk]
      refine ⟨by omega, by omega, ?_⟩
      refine ⟨l.length - (k + 1), by omega, ?_⟩
      rw [hI]
      refine ⟨k + 1, .sref s.H.length 0 (k + 1), by omega, rfl, by simp -dsimp -implicitDefEqProofs [-getElem?_pos, go_sem, t4], by simp -dsimp -implicitDefEqProofs [-getElem?_pos, go_sem, t6], by simp -dsimp -implicitDefEqProofs [-getElem?_pos, go_sem, t19], by simp -dsimp -implicitDefEqProofs [-getElem?_pos, go_sem, t20], by simp -dsimp -implicitDefEqProofs [-getElem?_pos, go_sem], by simp -dsimp -implicitDefEqProofs [-getElem?_pos, go_sem, ne0, lt0, h0], by simp -dsimp -implicitDefEqProofs [-getElem?_pos, go_sem, ne1, lt1], .inr ⟨s.H.length, by omega, ?_, ?_⟩⟩
      · rw [encL_len, newS_len, List.length_take]
        congr 1
        omega
      · rw [e1, ← encL_snoc]
        simp -dsimp -implicitDefEqProofs [-getElem?_pos, go_sem, TSub.cells]
  · have hk : k = l.length := by simp at h; omega
    subst hk
    rw [List.take_length] at hg
    have pl := plain_pf ⟨credit, newS l, []⟩ (by rw [newS_len]; omega)
    have cw : CW s.H [iv credit, x, .nil] [iv credit, subsL (newS l), .list 6 []] := cw_sc (hg.cw (imm_subs _) (cw_nil .nil))
    simp -dsimp -implicitDefEqProofs [-getElem?_pos, go_sem, hP, t6, h1, lt1]
    refine callB_pure pl hP en_112 (args_agg cw (args_nil.2 trivial)) .sc ?_
    rw [newS_ids, c1]
    by_cases c3 : numB l = true
    · have : openA l credit = (newA l credit, 0) := by rw [openA, if_pos c1, if_neg c2, if_pos c3]
      have hc := hg.cellish
      simp -dsimp -implicitDefEqProofs [-getElem?_pos, go_sem, hP, c3, t6, h1, lt1, t4, lt0, h0, hc]
      refine done_agg2 (cs' := (newA l credit).cells) (cw_sc ((hg.kept (X := [0]) (kept_set _ (by simp) (kept_refl _ _)) (by simp)).cw (imm_subs _) (cw_nil .nil))) ?_
      rw [this]
    · have : openA l credit = (zeroA, 60) := by rw [openA, if_pos c1, if_neg c2, if_neg c3]
      simp -dsimp -implicitDefEqProofs [-getElem?_pos, go_sem, hP, c3, t4, lt0, h0]
      refine done_zeroA ?_
      rw [this]

end Go.Proofs.Ytellcfkpfccgaaa
