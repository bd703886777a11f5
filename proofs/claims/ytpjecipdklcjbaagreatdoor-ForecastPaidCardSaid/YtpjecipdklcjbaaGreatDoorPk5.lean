/- Several texts of this claim, joined: Acc5 Bat1 BatLaw Rec1 Acc6 Acc7 Acc8 Del Ins BatLib Bat2 Bat3 Bat4. -/
import Derived.Test.YtpjecipdklcjbaaGreatDoorPk4
set_option linter.unusedSimpArgs false
set_option linter.unusedVariables false
namespace Go.Proofs.YtpjecipdklcjbaaGreatDoor
open Go.PA
open Go.RowKit
theorem agree_push {n : Nat} {H l : Heap} (h : n ≤ H.length) : Agree (fun id => decide (id < n)) H (H ++ l) := fun id hid => List.getElem?_append_left (by simp at hid; omega)
theorem agree_3 {a b c : Option AObj} {l l' : Heap} : Agree (fun id => decide (id < 3)) (a :: b :: c :: l) (a :: b :: c :: l') := fun id hid => by
  have : id < 3 := by simpa using hid
  rcases id with _ | _ | _ | id
  · rfl
  · rfl
  · rfl
  · omega
abbrev zeroA : TAccount := ⟨0, [], []⟩
def postA (a : TAccount) (e : TEntry) : TAccount × Int :=
  if checkA a = 0 then
    if a.Entries.length = 400 then (zeroA, 3) else
    if (postS a.Credit (lastE a).Number (lastE a).Day a.Subs e).1 = 0 then (⟨a.Credit, (postS a.Credit (lastE a).Number (lastE a).Day a.Subs e).2, a.Entries ++ [e]⟩, 0) else (zeroA, (postS a.Credit (lastE a).Number (lastE a).Day a.Subs e).1)
  else (zeroA, checkA a)
theorem lastE_nil {a : TAccount} (h : a.Entries.length = 0) : lastE a = zeroE := by
  rw [lastE, List.eq_nil_of_length_eq_zero h]
  rfl
theorem lastE_get {a : TAccount} {k : Nat} {e : TEntry} (h : a.Entries.length = k + 1) (he : a.Entries[k]? = some e) : lastE a = e := by
  rw [lastE, List.getLast?_eq_getElem?, h]
  simp [he]
theorem cA (a : TAccount) : a.cells = [iv a.Credit, subsL a.Subs, entsL a.Entries] := rfl
theorem cE (e : TEntry) : e.cells = [iv e.Number, iv e.Day, iv e.From, iv e.To, iv e.Amount, iv e.Ref] := rfl
theorem done_zeroA {H : Heap} {n : Int} {Q : AV → Prop} {b : Bx Q} (h : Q (.tup [.agg zeroA.cells, iv n])) : Done H (.tup [.agg [iv 0, .nil, .nil], iv n]) Q b :=
  done_agg2 (cw_sc (cw_nil (cw_nil .nil))) h
theorem last23_pf (a : TAccount) (he : a.Entries.length ≤ 100000) : PFun Tryz.prog none none 105 [.agg a.cells] (· = .agg (lastE a).cells) := by
  refine pfun_intro Tryz.func105 rfl (by simp [Tryz.f105]) (by kernel_rfl) ?_
  intro E hP hr hs hW hN
  by_cases h0 : a.Entries.length = 0
  · have d0 : decide (0 < a.Entries.length) = false := decide_eq_false (by omega)
    have : lastE a = zeroE := lastE_nil h0
    simp -dsimp -implicitDefEqProofs [-getElem?_pos, go_sem, hP, cA, d0]
    refine done_imm (imm_ent zeroE) ?_
    rw [this]
    rfl
  · obtain ⟨k, hk⟩ : ∃ k, a.Entries.length = k + 1 := ⟨a.Entries.length - 1, by omega⟩
    obtain ⟨e, hee⟩ : ∃ e, a.Entries[k]? = some e := ⟨_, List.getElem?_eq_getElem (by omega)⟩
    have d0 : decide ((0 : Int) < (k : Int) + 1) = true := by simp
    have wk := wrap_in ((k : Int) + 1 - 1) (by omega)
    rw [Int.add_sub_cancel] at wk
    have : lastE a = e := lastE_get hk hee
    simp -dsimp -implicitDefEqProofs [-getElem?_pos, go_sem, hP, cA, hk, d0, Int.add_sub_cancel, wk, hee, cE]
    refine done_imm (imm_ent e) ?_
    rw [this]
    rfl
set_option maxHeartbeats 1000000 in
theorem post23_pf (a : TAccount) (e : TEntry) (hl : a.Subs.length ≤ 100000) (he : a.Entries.length ≤ 100000) : PFun Tryz.prog none none 48 [.agg a.cells, .agg e.cells] (· = .tup [.agg (postA a e).1.cells, iv (postA a e).2]) := by
  refine pfun_intro Tryz.func48 rfl (by simp [Tryz.f48]) (by kernel_rfl) ?_
  intro E hP hr hs hW hN
  have ck := check23_pf a hl he
  have la := last23_pf a he
  rw [cA] at ck la
  have ia : Imm (.agg [iv a.Credit, subsL a.Subs, entsL a.Entries]) := imm_acc a
  have ie : Imm (.agg [iv e.Number, iv e.Day, iv e.From, iv e.To, iv e.Amount, iv e.Ref]) := imm_ent e
  simp -dsimp -implicitDefEqProofs [-getElem?_pos, go_sem, hP, cA, cE]
  refine callB_is (ck.lift _ _) hP en_82 (by simp [ia]) .sc ?_
  by_cases c1 : checkA a = 0
  rotate_left
  · have : postA a e = (zeroA, checkA a) := by rw [postA, if_neg c1]
    simp -dsimp -implicitDefEqProofs [-getElem?_pos, go_sem, hP, c1]
    refine done_zeroA ?_
    rw [this]
  obtain ⟨k1, k2, k3, k4, k5⟩ := check_ok c1
  by_cases c2 : a.Entries.length = 400
  · have : postA a e = (zeroA, 3) := by rw [postA, if_pos c1, if_pos c2]
    simp -dsimp -implicitDefEqProofs [-getElem?_pos, go_sem, hP, c1, c2]
    refine done_zeroA ?_
    rw [this]
  have d2 : decide ((a.Entries.length : Int) = 400) = false := by simp; omega
  obtain ⟨hnd, hz0, hhd⟩ := numB_facts k4
  obtain ⟨q1, q2, q3, q4⟩ := check_keeps c1
  have ap := add_pf a.Credit a.Subs (lastE a) e (by omega) k3 hnd hz0 q1 (by omega) q3
  rw [cE, cE] at ap
  simp -dsimp -implicitDefEqProofs [-getElem?_pos, go_sem, hP, c1, d2]
  refine adrawB (fun _ => true) [] hP (by kernel_rfl) (by kernel_rfl) ?_
  simp -dsimp -implicitDefEqProofs [-getElem?_pos, go_sem, hP]
  refine callB_is (la.lift _ _) hP en_105 (by simp [ia]) (imm_ent _) ?_
  simp -dsimp -implicitDefEqProofs [-getElem?_pos, go_sem, hP, cE]
  refine callB_is (ap.lift _ _) hP en_104 (by simp [imm_subs, imm_sc, ie]; exact imm_ent (lastE a)) (imm_pair (imm_subs _) .sc) ?_
  by_cases c3 : (postS a.Credit (lastE a).Number (lastE a).Day a.Subs e).1 = 0
  · have pA : postA a e = (⟨a.Credit, (postS a.Credit (lastE a).Number (lastE a).Day a.Subs e).2, a.Entries ++ [e]⟩, 0) := by rw [postA, if_pos c1, if_neg c2, if_pos c3]
    rw [addR_ok c3]
    simp -dsimp -implicitDefEqProofs [-getElem?_pos, go_sem, hP]
    refine adrawB (fun id => decide (id < 3)) [7] hP (by kernel_rfl) (by kernel_rfl) ?_
    simp -dsimp -implicitDefEqProofs [-getElem?_pos, go_sem, hP, restr_get]
    refine ⟨by omega, by omega, agree_3, by omega, by omega, agree_3, ?_⟩
    have en : encL TEntry.cells a.Entries ++ [[iv e.Number, iv e.Day, iv e.From, iv e.To, iv e.Amount, iv e.Ref]] = encL TEntry.cells (a.Entries ++ [e]) := encL_snoc TEntry.cells a.Entries e
    refine done_agg2 (cw_sc (cw_imm (imm_subs _) (cw_sref rfl (by simp [encL]) (by rw [en]; exact imm_ents _) .nil))) ?_
    rw [pA, en]
    rfl
  · have pA : postA a e = (zeroA, (postS a.Credit (lastE a).Number (lastE a).Day a.Subs e).1) := by rw [postA, if_pos c1, if_neg c2, if_neg c3]
    rw [addR_bad c3]
    simp -dsimp -implicitDefEqProofs [-getElem?_pos, go_sem, hP, c3]
    refine done_zeroA ?_
    rw [pA]
def nextE (a : TAccount) (day from_ to amount ref : Int) : TEntry := ⟨IntKind.i64.wrap ((lastE a).Number + 1), day, from_, to, amount, ref⟩
theorem next23_pf (a : TAccount) (day from_ to amount ref : Int) (he : a.Entries.length ≤ 100000) : PFun Tryz.prog none none 49 [.agg a.cells, iv day, iv from_, iv to, iv amount, iv ref] (· = .agg (nextE a day from_ to amount ref).cells) := by
  refine pfun_intro Tryz.func49 rfl (by simp [Tryz.f49]) (by kernel_rfl) ?_
  intro E hP hr hs hW hN
  have la := last23_pf a he
  rw [cA, cE] at la
  have ia : Imm (.agg [iv a.Credit, subsL a.Subs, entsL a.Entries]) := imm_acc a
  simp -dsimp -implicitDefEqProofs [-getElem?_pos, go_sem, hP, cA]
  refine callB_is (la.lift _ _) hP en_105 (by simp [ia]) (imm_ent (lastE a)) ?_
  simp -dsimp -implicitDefEqProofs [-getElem?_pos, go_sem, hP]
  refine done_imm (imm_ent (nextE a day from_ to amount ref)) ?_
  rfl
def balanceA (a : TAccount) (id : Int) : Int × Bool :=
  if checkA a = 0 then (match a.Subs.find? (fun s => decide (s.ID = id)) with | some s => (s.Balance, true) | none => (0, false)) else (0, false)
theorem find_place {l : List TSub} {id : Int} : (placeI l id = -1 ∧ l.find? (fun s => decide (s.ID = id)) = none) ∨ ∃ (i : Nat) (s : TSub), placeI l id = i ∧ l[i]? = some s ∧ l.find? (fun s => decide (s.ID = id)) = some s := by
  suffices h : ∀ (l : List TSub) (k : Nat), (idxFrom (fun s => decide (s.ID = id)) k l = -1 ∧ l.find? (fun s => decide (s.ID = id)) = none) ∨ ∃ (i : Nat) (s : TSub), idxFrom (fun s => decide (s.ID = id)) k l = ((k + i : Nat) : Int) ∧ l[i]? = some s ∧ l.find? (fun s => decide (s.ID = id)) = some s by
    have := h l 0
    simpa [placeI, idxI] using this
  intro l
  induction l with
  | nil => exact fun k => .inl ⟨rfl, rfl⟩
  | cons a l ih =>
    intro k
    rw [idxFrom, List.find?_cons]
    by_cases h : a.ID = id
    · simp only [h, decide_true, if_true]
      exact .inr ⟨0, a, by simp, rfl, rfl⟩
    · simp only [h, decide_false, Bool.false_eq_true, if_false]
      rcases ih (k + 1) with h | ⟨i, s, h1, h2, h3⟩
      · exact .inl h
      · exact .inr ⟨i + 1, s, by rw [h1]; congr 1; omega, h2, h3⟩
theorem balance23_pf (a : TAccount) (id : Int) (hl : a.Subs.length ≤ 100000) (he : a.Entries.length ≤ 100000) : PFun Tryz.prog none none 98 [.agg a.cells, iv id] (· = .tup [iv (balanceA a id).1, bv (balanceA a id).2]) := by
  refine pfun_intro Tryz.func98 rfl (by simp [Tryz.f98]) (by kernel_rfl) ?_
  intro E hP hr hs hW hN
  have ck := check23_pf a hl he
  rw [cA] at ck
  have ia : Imm (.agg [iv a.Credit, subsL a.Subs, entsL a.Entries]) := imm_acc a
  simp -dsimp -implicitDefEqProofs [-getElem?_pos, go_sem, hP, cA]
  refine callB_is (ck.lift _ _) hP en_82 (by simp [ia]) .sc ?_
  by_cases c1 : checkA a = 0
  rotate_left
  · have : balanceA a id = (0, false) := by rw [balanceA, if_neg c1]
    simp -dsimp -implicitDefEqProofs [-getElem?_pos, go_sem, hP, c1]
    refine done_imm (imm_pair .sc .sc) ?_
    rw [this]
  simp -dsimp -implicitDefEqProofs [-getElem?_pos, go_sem, hP, c1]
  refine callB_pure (at_pf a.Subs id hl) hP en_158 (args_imm (imm_subs _) (args_imm .sc (args_nil.2 trivial))) .sc ?_
  rcases find_place (l := a.Subs) (id := id) with ⟨h1, h2⟩ | ⟨i, s, h1, h2, h3⟩
  · have : balanceA a id = (0, false) := by rw [balanceA, if_pos c1, h2]
    simp -dsimp -implicitDefEqProofs [-getElem?_pos, go_sem, hP, h1]
    refine done_imm (imm_pair .sc .sc) ?_
    rw [this]
  · have : balanceA a id = (s.Balance, true) := by rw [balanceA, if_pos c1, h3]
    have hi := (List.getElem?_eq_some_iff.1 h2).1
    have d1 : decide ((0 : Int) ≤ (i : Int)) = true := by simp
    simp -dsimp -implicitDefEqProofs [-getElem?_pos, go_sem, hP, h1, d1, h2, TSub.cells]
    refine done_imm (imm_pair .sc .sc) ?_
    rw [this]
def sumB (l : List TSub) : Int := (l.map (·.Balance)).sum
theorem sumB_snoc (l : List TSub) (s : TSub) : sumB (l ++ [s]) = sumB l + s.Balance := by simp [sumB]
def totalA (a : TAccount) : Int := if checkA a = 0 then sumB a.Subs else 0
theorem okSub_bounds {credit : Int} {s : TSub} (hc : 0 ≤ credit ∧ credit ≤ 1000000000000) (h : okSub credit s = true) : -1000000000000 ≤ s.Balance ∧ s.Balance ≤ 1000000000000000 := by
  have := (okSub_iff _ _).1 h
  split at this <;> omega
theorem sumB_bound {credit : Int} (hc : 0 ≤ credit ∧ credit ≤ 1000000000000) : ∀ l : List TSub, okAll credit l = true → -(1000000000000 * (l.length : Int)) ≤ sumB l ∧ sumB l ≤ 1000000000000000 * (l.length : Int)
  | [], _ => by simp [sumB]
  | s :: l, h => by
    simp only [okAll, List.all_cons, Bool.and_eq_true] at h
    have h1 := okSub_bounds hc h.1
    have h2 := sumB_bound hc l h.2
    have : sumB (s :: l) = s.Balance + sumB l := by simp [sumB]
    rw [this, List.length_cons]
    omega
theorem okAll_take {credit : Int} {l : List TSub} (h : okAll credit l = true) (k : Nat) : okAll credit (l.take k) = true := List.all_eq_true.2 fun s hs => List.all_eq_true.1 h s (List.mem_of_mem_take hs)
def sumE (f : TEntry → Int) (l : List TEntry) : Int := (l.map f).sum
theorem replayS_mem (credit : Int) : ∀ (es : List TEntry) (n d : Int) (l : List TSub) (r : Int × Int × List TSub), replayS credit n d l es = some r → ∀ e, e ∈ es → 0 < e.Amount ∧ e.Amount ≤ 1000000000000 ∧ 0 ≤ e.Ref ∧ e.Ref ≤ 1000000 ∧ e.From ≠ e.To ∧ (e.From = 0 ∨ e.From ∈ ids l) ∧ (e.To = 0 ∨ e.To ∈ ids l)
  | [], n, d, l, r, h, e, he => by simp at he
  | x :: es, n, d, l, r, h, e, he => by
    rw [replayS] at h
    split at h
    · rename_i hp
      obtain ⟨_, _, _, h4, h5, h6, h7, h8, h9, h10, _⟩ := postS_ok hp
      rcases List.mem_cons.1 he with rfl | he
      · exact ⟨h4, h5, h6, h7, h8, h9, h10⟩
      · have := replayS_mem credit es _ _ _ r h e he
        rw [postS_ids] at this
        exact this
    · cases h
theorem check_mem {a : TAccount} (h : checkA a = 0) : ∀ e, e ∈ a.Entries → 0 < e.Amount ∧ e.Amount ≤ 1000000000000 ∧ 0 ≤ e.Ref ∧ e.Ref ≤ 1000000 ∧ e.From ≠ e.To ∧ (e.From = 0 ∨ e.From ∈ ids a.Subs) ∧ (e.To = 0 ∨ e.To ∈ ids a.Subs) := by
  obtain ⟨_, _, _, _, h5⟩ := check_ok h
  have := replayS_mem _ _ _ _ _ _ h5
  rw [zeroS_ids] at this
  exact this
abbrev numsL (l : List Int) : AV := .list 1 (encL encI l)
theorem imm_nums (l : List Int) : Imm (numsL l) := imm_encL _ imm_encI l
def newS (l : List Int) : List TSub := l.map fun i => ⟨i, 0⟩
theorem newS_len (l : List Int) : (newS l).length = l.length := by simp [newS]
def newA (l : List Int) (credit : Int) : TAccount := ⟨credit, newS l, []⟩
theorem newS_ids (l : List Int) : ids (newS l) = l := by simp [ids, newS, Function.comp_def]
def openA (ids : List Int) (credit : Int) : TAccount × Int :=
  if vB credit = true then if 20 < ids.length then (zeroA, 3) else if numB ids = true then (newA ids credit, 0) else (zeroA, 60) else (zeroA, 2)
set_option maxHeartbeats 1000000 in
theorem open23_pf (l : List Int) (credit : Int) (hl : l.length ≤ 100000) : PFun Tryz.prog none none 81 [numsL l, iv credit] (· = .tup [.agg (openA l credit).1.cells, iv (openA l credit).2]) := by
  refine pfun_intro Tryz.func81 rfl (by simp [Tryz.f81]) (by kernel_rfl) ?_
  intro E hP hr hs hW hN
  simp -dsimp -implicitDefEqProofs [-getElem?_pos, go_sem, hP]
  refine callB_pure (valid01_pf credit) hP en_131 (args_same (by simp -dsimp -implicitDefEqProofs [-getElem?_pos, go_sem])) .sc ?_
  by_cases c1 : vB credit = true
  rotate_left
  · have : openA l credit = (zeroA, 2) := by rw [openA, if_neg c1]
    simp -dsimp -implicitDefEqProofs [-getElem?_pos, go_sem, hP, c1]
    refine done_zeroA ?_
    rw [this]
  by_cases c2 : 20 < l.length
  · have d2 : decide ((20 : Int) < l.length) = true := decide_eq_true (by omega)
    have : openA l credit = (zeroA, 3) := by rw [openA, if_pos c1, if_pos c2]
    simp -dsimp -implicitDefEqProofs [-getElem?_pos, go_sem, hP, c1, d2]
    refine done_zeroA ?_
    rw [this]
  have d2 : decide ((20 : Int) < l.length) = false := decide_eq_false (by omega)
  simp -dsimp -implicitDefEqProofs [-getElem?_pos, go_sem, hP, c1, d2]
  obtain ⟨I, hI⟩ : ∃ I : Nat → St → Prop, I = fun m s => ∃ (k : Nat) (x : AV), k ≤ l.length ∧ m = l.length - k ∧ s.t 4 = .ref 0 0 0 ∧ s.t 6 = .ref 1 0 0 ∧ s.t 19 = numsL l ∧ s.t 20 = iv l.length ∧ s.t 21 = iv k ∧ s.H[0]? = some (some ⟨28, 3, [[iv 0, .nil, .nil]]⟩) ∧ s.H[1]? = some (some ⟨28, 3, [[iv credit, x, .nil]]⟩) ∧ Grown 2 s.H x 170 2 (encL TSub.cells (newS (l.take k))) := ⟨_, rfl⟩
  refine aloop0 I (l.length) (by rw [hN]; rfl) ?_ ?_
  · rw [hI]
    exact ⟨0, .nil, by omega, by omega, by simp -dsimp -implicitDefEqProofs [-getElem?_pos, go_sem], by simp -dsimp -implicitDefEqProofs [-getElem?_pos, go_sem], by simp -dsimp -implicitDefEqProofs [-getElem?_pos, go_sem], by simp -dsimp -implicitDefEqProofs [-getElem?_pos, go_sem], by simp -dsimp -implicitDefEqProofs [-getElem?_pos, go_sem], by simp -dsimp -implicitDefEqProofs [-getElem?_pos, go_sem], by simp -dsimp -implicitDefEqProofs [-getElem?_pos, go_sem], .inl ⟨rfl, rfl⟩⟩
  intro m s hs'
  rw [hI] at hs'
  obtain ⟨k, x, hk, hm, t4, t6, t19, t20, t21, h0, h1, hg⟩ := hs'
  have lt0 := (List.getElem?_eq_some_iff.1 h0).1
  have lt1 := (List.getElem?_eq_some_iff.1 h1).1
  simp -dsimp -implicitDefEqProofs [-getElem?_pos, go_sem, hP, t20, t21]
  refine condP (fun h => ?_) (fun h => ?_)
  · have hk : k < l.length := by simpa using h
    obtain ⟨n, hn⟩ : ∃ n, l[k]? = some n := ⟨_, List.getElem?_eq_getElem hk⟩
    have wk := wrap_in ((k : Int) + 1) (by omega)
    have e1 : newS (l.take (k + 1)) = newS (l.take k) ++ [⟨n, 0⟩] := by rw [List.take_add_one, hn]; simp [newS]
    have nl : (newS (l.take k)).length = k := by rw [newS_len, List.length_take]; omega
    rcases hg with ⟨rfl, hg⟩ | ⟨id, h2, rfl, hg⟩
    · simp -dsimp -implicitDefEqProofs [-getElem?_pos, go_sem, hP, t19, t21, hn, encI, t6, h1, lt1, wk]
      refine ⟨l.length - (k + 1), by omega, ?_⟩
      rw [hI]
      refine ⟨k + 1, .sref s.H.length 0 1, by omega, rfl, by simp -dsimp -implicitDefEqProofs [-getElem?_pos, go_sem, t4], by simp -dsimp -implicitDefEqProofs [-getElem?_pos, go_sem, t6], by simp -dsimp -implicitDefEqProofs [-getElem?_pos, go_sem, t19], by simp -dsimp -implicitDefEqProofs [-getElem?_pos, go_sem, t20], by simp -dsimp -implicitDefEqProofs [-getElem?_pos, go_sem], by simp -dsimp -implicitDefEqProofs [-getElem?_pos, go_sem, lt0, h0], by simp -dsimp -implicitDefEqProofs [-getElem?_pos, go_sem, lt1], .inr ⟨s.H.length, by omega, ?_, ?_⟩⟩
      · rw [e1, ← encL_snoc, hg]; rfl
      · rw [e1, ← encL_snoc, hg]
        simp -dsimp -implicitDefEqProofs [-getElem?_pos, go_sem, TSub.cells]
    · have ne0 : ¬ id = 0 := by omega
      have ne1 : ¬ id = 1 := by omega
      have lti := (List.getElem?_eq_some_iff.1 hg).1
      simp -dsimp -implicitDefEqProofs [-getElem?_pos, go_sem, hP, t19, t21, hn, encI, t6, h1, lt1, hg, ne1, nl, wk]
      refine ⟨by omega, by omega, ?_⟩
      refine ⟨l.length - (k + 1), by omega, ?_⟩
      rw [hI]
      refine ⟨k + 1, .sref s.H.length 0 (k + 1), by omega, rfl, by simp -dsimp -implicitDefEqProofs [-getElem?_pos, go_sem, t4], by simp -dsimp -implicitDefEqProofs [-getElem?_pos, go_sem, t6], by simp -dsimp -implicitDefEqProofs [-getElem?_pos, go_sem, t19], by simp -dsimp -implicitDefEqProofs [-getElem?_pos, go_sem, t20], by simp -dsimp -implicitDefEqProofs [-getElem?_pos, go_sem], by simp -dsimp -implicitDefEqProofs [-getElem?_pos, go_sem, ne0, lt0, h0], by simp -dsimp -implicitDefEqProofs [-getElem?_pos, go_sem, ne1, lt1], .inr ⟨s.H.length, by omega, ?_, ?_⟩⟩
      · rw [encL_len, newS_len, List.length_take]
        congr 1
        omega
      · rw [e1, ← encL_snoc]
        simp -dsimp -implicitDefEqProofs [-getElem?_pos, go_sem, TSub.cells]
  · have hk : k = l.length := by simp at h; omega
    subst hk
    rw [List.take_length] at hg
    have pl := plain_pf ⟨credit, newS l, []⟩ (by rw [newS_len]; omega)
    have cw : CW s.H [iv credit, x, .nil] [iv credit, subsL (newS l), .list 6 []] := cw_sc (hg.cw (imm_subs _) (cw_nil .nil))
    simp -dsimp -implicitDefEqProofs [-getElem?_pos, go_sem, hP, t6, h1, lt1]
    refine callB_pure pl hP en_132 (args_agg cw (args_nil.2 trivial)) .sc ?_
    rw [newS_ids, c1]
    by_cases c3 : numB l = true
    · have : openA l credit = (newA l credit, 0) := by rw [openA, if_pos c1, if_neg c2, if_pos c3]
      have hc := hg.cellish
      simp -dsimp -implicitDefEqProofs [-getElem?_pos, go_sem, hP, c3, t6, h1, lt1, t4, lt0, h0, hc]
      refine done_agg2 (cs' := (newA l credit).cells) (cw_sc ((hg.kept (X := [0]) (kept_set _ (by simp) (kept_refl _ _)) (by simp)).cw (imm_subs _) (cw_nil .nil))) ?_
      rw [this]
    · have : openA l credit = (zeroA, 60) := by rw [openA, if_pos c1, if_neg c2, if_neg c3]
      simp -dsimp -implicitDefEqProofs [-getElem?_pos, go_sem, hP, c3, t4, lt0, h0]
      refine done_zeroA ?_
      rw [this]
open Go.PA
open Go.RowKit
abbrev paysL (l : List TPayment) : AV := .list 5 (encL TPayment.cells l)
abbrev batsL (l : List TBatch) : AV := .list 3 (encL TBatch.cells l)
theorem imm_pays (l : List TPayment) : Imm (paysL l) := imm_encL _ TPayment.imm _
theorem imm_bats (l : List TBatch) : Imm (batsL l) := imm_encL _ TBatch.imm _
theorem cPy (p : TPayment) : p.cells = [iv p.Warrant, iv p.Payee, iv p.Amount, iv p.Due, iv p.Sub] := rfl
theorem cBt (b : TBatch) : b.cells = [iv b.Number, iv b.Day, paysL b.Payments] := rfl
theorem cQu (q : TQueue) : q.cells = [paysL q.Waiting, intsL q.Known, batsL q.Batches] := rfl
theorem imm_pay (c : TPayment) : Imm (.agg c.cells) := imm_agg.2 c.imm
theorem imm_bat (c : TBatch) : Imm (.agg c.cells) := imm_agg.2 c.imm
theorem imm_que (c : TQueue) : Imm (.agg c.cells) := imm_agg.2 c.imm
theorem drop_at {α : Type} {l : List α} {k : Nat} {e : α} (h : l[k]? = some e) : l.drop k = e :: l.drop (k + 1) := by
  obtain ⟨hk, rfl⟩ := List.getElem?_eq_some_iff.1 h
  exact List.drop_eq_getElem_cons hk
theorem take_at {α : Type} {l : List α} {k : Nat} {e : α} (h : l[k]? = some e) : l.take (k + 1) = l.take k ++ [e] := by
  rw [List.take_add_one, h]; rfl
def amg (n lo hi : Int) : Bool := decide (lo ≤ n) && decide (n ≤ hi)
theorem amg_iff {n lo hi : Int} : amg n lo hi = true ↔ lo ≤ n ∧ n ≤ hi := by simp [amg]
theorem amg_no {n lo hi : Int} (h : ¬ (lo ≤ n ∧ n ≤ hi)) : amg n lo hi = false := Bool.eq_false_iff.2 fun e => h (amg_iff.1 e)
def payB (p : TPayment) : Bool := amg p.Warrant 1 1000000 && (amg p.Payee 1 1000000 && (amg p.Amount 1 1000000000000 && (amg p.Due 0 35990 && amg p.Sub 1 1000)))
structure PayOk (p : TPayment) : Prop where
  warrant : 1 ≤ p.Warrant ∧ p.Warrant ≤ 1000000
  payee : 1 ≤ p.Payee ∧ p.Payee ≤ 1000000
  amount : 1 ≤ p.Amount ∧ p.Amount ≤ 1000000000000
  due : 0 ≤ p.Due ∧ p.Due ≤ 35990
  sub : 1 ≤ p.Sub ∧ p.Sub ≤ 1000
theorem payB_iff (p : TPayment) : payB p = true ↔ PayOk p := by
  simp only [payB, Bool.and_eq_true, amg_iff]
  exact ⟨fun ⟨a, b, c, d, e⟩ => ⟨a, b, c, d, e⟩, fun ⟨a, b, c, d, e⟩ => ⟨a, b, c, d, e⟩⟩
def Bef (a b : TPayment) : Prop := a.Due < b.Due ∨ a.Due = b.Due ∧ a.Warrant < b.Warrant
instance (a b : TPayment) : Decidable (Bef a b) := by unfold Bef; infer_instance
def befB (a b : TPayment) : Bool := decide (Bef a b)
theorem befB_iff {a b : TPayment} : befB a b = true ↔ Bef a b := by simp [befB]
theorem Bef.trans {a b c : TPayment} (h : Bef a b) (k : Bef b c) : Bef a c := by unfold Bef at *; omega
theorem Bef.tot {a b : TPayment} (h : a.Warrant ≠ b.Warrant) : Bef a b ∨ Bef b a := by unfold Bef; omega
def allO {α : Type} (o : Option α) (f : α → Bool) : Bool := match o with
  | none => true
  | some x => f x
theorem allO_iff {α : Type} {o : Option α} {f : α → Bool} : allO o f = true ↔ ∀ x, o = some x → f x = true := by
  cases o <;> simp [allO]
def ordFrom : Option TPayment → List TPayment → Bool
  | _, [] => true
  | o, p :: l => payB p && (allO o (fun x => befB x p) && ordFrom (some p) l)
def distFrom : List TPayment → List TPayment → Bool
  | _, [] => true
  | pre, p :: l => !(pre.any fun x => decide (x.Warrant = p.Warrant)) && distFrom (pre ++ [p]) l
def inK (K : List Int) (p : TPayment) : Bool := decide (p.Warrant ∈ K)
def ascB (K : List Int) (l : List TPayment) : Bool := ordFrom none l && (l.all (inK K) && distFrom [] l)
def knFrom : Option Int → List Int → Bool
  | _, [] => true
  | o, n :: l => amg n 1 1000000 && (allO o (fun x => decide (x < n)) && knFrom (some n) l)
def busB (d : Int) : Bool := amg d 0 36000 && decide (d % 7 < 5)
def batB (K : List Int) (i d : Int) (b : TBatch) : Bool := decide (b.Number = i + 1) && (decide (d ≤ b.Day) && (busB b.Day && (amg b.Payments.length 1 10 && ascB K b.Payments)))
def batsFrom (K : List Int) : Int → Int → List TBatch → Bool
  | _, _, [] => true
  | i, d, b :: l => batB K i d b && batsFrom K (i + 1) b.Day l
def checkQ (q : TQueue) : Int :=
  if 100 < q.Waiting.length ∨ 200 < q.Known.length ∨ 200 < q.Batches.length then 3 else if (knFrom none q.Known && (ascB q.Known q.Waiting && batsFrom q.Known 0 0 q.Batches)) = true then 0 else 64
theorem ordFrom_iff : ∀ (l : List TPayment) (o : Option TPayment), ordFrom o l = true ↔ (∀ p, p ∈ l → PayOk p) ∧ (∀ x, o = some x → ∀ p, p ∈ l → Bef x p) ∧ l.Pairwise Bef
  | [], o => by simp [ordFrom]
  | p :: l, o => by
    rw [ordFrom, Bool.and_eq_true, Bool.and_eq_true, ordFrom_iff l (some p), payB_iff, allO_iff, List.pairwise_cons]
    simp only [befB_iff, List.mem_cons]
    constructor
    · rintro ⟨h1, h2, h3, h4, h5⟩
      refine ⟨?_, ?_, h4 p rfl, h5⟩
      · rintro x (rfl | hx)
        · exact h1
        · exact h3 x hx
      · rintro x hx y (rfl | hy)
        · exact h2 x hx
        · exact (h2 x hx).trans (h4 p rfl y hy)
    · rintro ⟨h1, h2, h3, h4⟩
      refine ⟨h1 p (.inl rfl), fun x hx => h2 x hx p (.inl rfl), fun x hx => h1 x (.inr hx), ?_, h4⟩
      rintro x hx y hy
      cases hx
      exact h3 y hy
theorem distFrom_iff : ∀ (l pre : List TPayment), distFrom pre l = true ↔ (∀ p, p ∈ l → ∀ x, x ∈ pre → x.Warrant ≠ p.Warrant) ∧ (l.map (·.Warrant)).Nodup
  | [], pre => by simp [distFrom]
  | p :: l, pre => by
    rw [distFrom, Bool.and_eq_true, Bool.not_eq_true', distFrom_iff l, List.map_cons, List.nodup_cons, List.any_eq_false]
    simp only [decide_eq_true_eq, List.mem_append, List.mem_cons, List.not_mem_nil, or_false, List.mem_map, not_exists, not_and]
    constructor
    · rintro ⟨h1, h2, h3⟩
      refine ⟨?_, fun x hx e => h2 x hx p (.inr rfl) e.symm, h3⟩
      rintro x (rfl | hx) y hy
      · exact h1 y hy
      · exact h2 x hx y (.inl hy)
    · rintro ⟨h1, h2, h3⟩
      refine ⟨fun y hy => h1 p (.inl rfl) y hy, ?_, h3⟩
      rintro x hx y (hy | rfl)
      · exact h1 x (.inr hx) y hy
      · exact fun e => h2 x hx e.symm
structure AscOk (K : List Int) (l : List TPayment) : Prop where
  pay : ∀ p, p ∈ l → PayOk p
  ord : l.Pairwise Bef
  kn : ∀ p, p ∈ l → p.Warrant ∈ K
  nd : (l.map (·.Warrant)).Nodup
theorem ascB_iff {K : List Int} {l : List TPayment} : ascB K l = true ↔ AscOk K l := by
  rw [ascB, Bool.and_eq_true, Bool.and_eq_true, ordFrom_iff, distFrom_iff, List.all_eq_true]
  simp only [inK, decide_eq_true_eq]
  constructor
  · rintro ⟨⟨h1, _, h2⟩, h3, _, h4⟩
    exact ⟨h1, h2, h3, h4⟩
  · rintro ⟨h1, h2, h3, h4⟩
    exact ⟨⟨h1, by simp, h2⟩, h3, by simp, h4⟩
theorem knFrom_iff : ∀ (l : List Int) (o : Option Int), knFrom o l = true ↔ (∀ p, p ∈ l → 1 ≤ p ∧ p ≤ 1000000) ∧ (∀ x, o = some x → ∀ p, p ∈ l → x < p) ∧ l.Pairwise (· < ·)
  | [], o => by simp [knFrom]
  | p :: l, o => by
    rw [knFrom, Bool.and_eq_true, Bool.and_eq_true, knFrom_iff l (some p), amg_iff, allO_iff, List.pairwise_cons]
    simp only [decide_eq_true_eq, List.mem_cons]
    constructor
    · rintro ⟨h1, h2, h3, h4, h5⟩
      refine ⟨?_, ?_, h4 p rfl, h5⟩
      · rintro x (rfl | hx)
        · exact h1
        · exact h3 x hx
      · rintro x hx y (rfl | hy)
        · exact h2 x hx
        · exact Int.lt_trans (h2 x hx) (h4 p rfl y hy)
    · rintro ⟨h1, h2, h3, h4⟩
      refine ⟨h1 p (.inl rfl), fun x hx => h2 x hx p (.inl rfl), fun x hx => h1 x (.inr hx), ?_, h4⟩
      rintro x hx y hy
      cases hx
      exact h3 y hy
structure QOk (q : TQueue) : Prop where
  lw : q.Waiting.length ≤ 100
  lk : q.Known.length ≤ 200
  lb : q.Batches.length ≤ 200
  kn : ∀ w, w ∈ q.Known → 1 ≤ w ∧ w ≤ 1000000
  ks : q.Known.Pairwise (· < ·)
  asc : AscOk q.Known q.Waiting
  bats : batsFrom q.Known 0 0 q.Batches = true
theorem checkQ_iff {q : TQueue} : checkQ q = 0 ↔ QOk q := by
  unfold checkQ
  split
  · rename_i h
    exact ⟨fun e => absurd e (by decide), fun ⟨h1, h2, h3, _, _, _, _⟩ => by omega⟩
  · rename_i h
    split
    · rename_i h1
      rw [Bool.and_eq_true, Bool.and_eq_true, knFrom_iff, ascB_iff] at h1
      exact ⟨fun _ => ⟨by omega, by omega, by omega, h1.1.1, h1.1.2.2, h1.2.1, h1.2.2⟩, fun _ => rfl⟩
    · rename_i h1
      refine ⟨fun e => absurd e (by decide), fun ⟨_, _, _, h4, h5, h6, h7⟩ => absurd ?_ h1⟩
      rw [Bool.and_eq_true, Bool.and_eq_true, knFrom_iff, ascB_iff]
      exact ⟨⟨h4, by simp, h5⟩, h6, h7⟩
structure FitQ (q : TQueue) : Prop where
  w : q.Waiting.length ≤ 100000
  k : q.Known.length ≤ 100000
  b : q.Batches.length ≤ 100000
  each : ∀ b, b ∈ q.Batches → b.Payments.length ≤ 100000
theorem batsFrom_len {K : List Int} : ∀ {l : List TBatch} {i d : Int}, batsFrom K i d l = true → ∀ b, b ∈ l → 1 ≤ b.Payments.length ∧ b.Payments.length ≤ 10 ∧ AscOk K b.Payments ∧ busB b.Day = true ∧ d ≤ b.Day
  | [], _, _, _, b, hb => by cases hb
  | a :: l, i, d, h, b, hb => by
    rw [batsFrom, batB] at h
    simp only [Bool.and_eq_true, amg_iff, ascB_iff, decide_eq_true_eq] at h
    rcases List.mem_cons.1 hb with rfl | hb
    · obtain ⟨⟨_, h2, h3, h4, h5⟩, _⟩ := h
      exact ⟨by omega, by omega, h5, h3, h2⟩
    · obtain ⟨h1, h2, h3, h4, h5⟩ := batsFrom_len h.2 b hb
      exact ⟨h1, h2, h3, h4, by have := h.1.2.1; omega⟩
theorem QOk.fit {q : TQueue} (h : QOk q) : FitQ q := ⟨by have := h.lw; omega, by have := h.lk; omega, by have := h.lb; omega, fun b hb => by have := batsFrom_len h.bats b hb; omega⟩
abbrev zeroQ : TQueue := ⟨[], [], []⟩
abbrev zeroB : TBatch := ⟨0, 0, []⟩
def ins {α : Type} (lt : α → α → Bool) (l : List α) (a : α) : List α := l.takeWhile (fun x => lt x a) ++ a :: l.dropWhile (fun x => lt x a)
def ltB (a b : Int) : Bool := decide (a < b)
def waitQ (q : TQueue) (w : Int) : Int := idxI (fun p : TPayment => decide (p.Warrant = w)) q.Waiting
def addQ (q : TQueue) (p : TPayment) : TQueue × Int :=
  if checkQ q = 0 then (if payB p = true then (if p.Warrant ∈ q.Known then (zeroQ, 65) else if q.Waiting.length = 100 ∨ q.Known.length = 200 then (zeroQ, 3) else (⟨ins befB q.Waiting p, ins ltB q.Known p.Warrant, q.Batches⟩, 0)) else (zeroQ, 64)) else (zeroQ, checkQ q)
def againQ (q : TQueue) (p : TPayment) : TQueue × Int :=
  if checkQ q = 0 then (if payB p = true then (if p.Warrant ∈ q.Known then (if 0 ≤ waitQ q p.Warrant then (zeroQ, 65) else if q.Waiting.length = 100 then (zeroQ, 3) else (⟨ins befB q.Waiting p, q.Known, q.Batches⟩, 0)) else (zeroQ, 6)) else (zeroQ, 64)) else (zeroQ, checkQ q)
def dropQ (q : TQueue) (w : Int) : TQueue × Int :=
  if checkQ q = 0 then (if waitQ q w < 0 then (zeroQ, 6) else (⟨q.Waiting.eraseIdx (waitQ q w).toNat, q.Known, q.Batches⟩, 0)) else (zeroQ, checkQ q)
def readyQ (q : TQueue) (day : Int) : List TPayment := if checkQ q = 0 then q.Waiting.filter (fun p => decide (p.Due ≤ day)) else []
def lastQ (q : TQueue) : Int := match q.Batches.getLast? with
  | none => 0
  | some b => b.Day
def takenB (ws : List Int) (p : TPayment) : Bool := decide (p.Warrant ∈ ws)
def dueB (q : TQueue) (day : Int) (ws : List Int) : Bool := decide (ws.Nodup) && ws.all fun w => q.Waiting.any fun p => decide (p.Warrant = w) && decide (p.Due ≤ day)
def takeB (q : TQueue) (day : Int) (ws : List Int) : TBatch := ⟨q.Batches.length + 1, day, q.Waiting.filter (takenB ws)⟩
def takeQ (q : TQueue) (day : Int) (ws : List Int) : TQueue × TBatch × Int :=
  if checkQ q = 0 then (if busB day = true then (if day < lastQ q then (zeroQ, zeroB, 8) else if ws.length = 0 then (zeroQ, zeroB, 10) else if 10 < ws.length ∨ 200 ≤ q.Batches.length then (zeroQ, zeroB, 3) else if dueB q day ws = true then (⟨q.Waiting.filter (fun p => !takenB ws p), q.Known, q.Batches ++ [takeB q day ws]⟩, takeB q day ws, 0) else (zeroQ, zeroB, 6)) else (zeroQ, zeroB, 66)) else (zeroQ, zeroB, checkQ q)
def sumW (l : List TPayment) : Int := l.foldl (fun s p => IntKind.i64.wrap (s + p.Amount)) 0
open Go.PA
open Go.RowKit
theorem ins_split {α : Type} (lt : α → α → Bool) (l : List α) (a : α) : ∃ A B, l = A ++ B ∧ ins lt l a = A ++ a :: B ∧ (∀ x, x ∈ A → lt x a = true) ∧ ∀ x, B.head? = some x → lt x a = false := by
  refine ⟨l.takeWhile fun x => lt x a, l.dropWhile fun x => lt x a, by rw [List.takeWhile_append_dropWhile], rfl, fun x hx => ?_, fun x hx => ?_⟩
  · exact List.all_eq_true.1 (List.all_takeWhile (p := fun x => lt x a) (l := l)) x hx
  · have := List.head?_dropWhile_not (p := fun x => lt x a) (l := l)
    rw [hx] at this
    simpa using this
theorem ins_perm {α : Type} (lt : α → α → Bool) (l : List α) (a : α) : (ins lt l a).Perm (a :: l) := by
  obtain ⟨A, B, h1, h2, _⟩ := ins_split lt l a
  rw [h2, h1]
  exact List.perm_middle
theorem ins_len {α : Type} (lt : α → α → Bool) (l : List α) (a : α) : (ins lt l a).length = l.length + 1 := by
  rw [(ins_perm lt l a).length_eq]; rfl
theorem mem_ins {α : Type} {lt : α → α → Bool} {l : List α} {a x : α} : x ∈ ins lt l a ↔ x = a ∨ x ∈ l := by
  rw [(ins_perm lt l a).mem_iff, List.mem_cons]
theorem ins_sorted {α : Type} {lt : α → α → Bool} {R : α → α → Prop} (hR : ∀ x y, lt x y = true ↔ R x y) (tr : ∀ {x y z}, R x y → R y z → R x z) {l : List α} {a : α} (hl : l.Pairwise R) (tot : ∀ x, x ∈ l → R x a ∨ R a x) : (ins lt l a).Pairwise R := by
  obtain ⟨A, B, rfl, h2, h3, h4⟩ := ins_split lt l a
  rw [h2]
  rw [List.pairwise_append] at hl ⊢
  obtain ⟨p1, p2, p3⟩ := hl
  have ha : ∀ x, x ∈ B → R a x := by
    cases B with
    | nil => simp
    | cons b B =>
      have hb : R a b := (tot b (by simp)).resolve_left fun h => by
        have := h4 b rfl
        rw [(hR _ _).2 h] at this
        cases this
      intro x hx
      rcases List.mem_cons.1 hx with rfl | hx
      · exact hb
      · exact tr hb (List.rel_of_pairwise_cons p2 hx)
  refine ⟨p1, List.pairwise_cons.2 ⟨ha, p2⟩, fun x hx y hy => ?_⟩
  rcases List.mem_cons.1 hy with rfl | hy
  · exact (hR _ _).1 (h3 x hx)
  · exact p3 x hx y hy
theorem befB_bef (a b : TPayment) : befB a b = true ↔ Bef a b := befB_iff
theorem ltB_lt (a b : Int) : ltB a b = true ↔ a < b := by simp [ltB]
theorem waitQ_none {q : TQueue} {w : Int} : waitQ q w < 0 ↔ ∀ p, p ∈ q.Waiting → p.Warrant ≠ w := by
  unfold waitQ
  rcases idxI_spec (fun p : TPayment => decide (p.Warrant = w)) q.Waiting with ⟨h1, h2⟩ | ⟨i, a, h1, h2, h3, h4⟩
  · rw [h1]
    exact ⟨fun _ p hp => by simpa using h2 p hp, fun _ => by omega⟩
  · rw [h3]
    exact ⟨fun h => by omega, fun h => absurd (by simpa using h2) (h a (List.mem_of_getElem? h1))⟩
theorem waitQ_some {q : TQueue} {w : Int} (h : ¬ waitQ q w < 0) : ∃ (i : Nat) (p : TPayment), waitQ q w = i ∧ q.Waiting[i]? = some p ∧ p.Warrant = w ∧ i < q.Waiting.length := by
  unfold waitQ at *
  rcases idxI_spec (fun p : TPayment => decide (p.Warrant = w)) q.Waiting with ⟨h1, h2⟩ | ⟨i, a, h1, h2, h3, h4⟩
  · omega
  · exact ⟨i, a, h3, h1, by simpa using h2, (List.getElem?_eq_some_iff.1 h1).1⟩
theorem AscOk.mono {K K' : List Int} {l : List TPayment} (h : AscOk K l) (hk : ∀ w, w ∈ K → w ∈ K') : AscOk K' l := ⟨h.pay, h.ord, fun p hp => hk _ (h.kn p hp), h.nd⟩
theorem AscOk.sub {K : List Int} {l l' : List TPayment} (h : AscOk K l) (hs : l'.Sublist l) : AscOk K l' := ⟨fun p hp => h.pay p (hs.subset hp), h.ord.sublist hs, fun p hp => h.kn p (hs.subset hp), h.nd.sublist (hs.map _)⟩
theorem batB_mono {K K' : List Int} (hk : ∀ w, w ∈ K → w ∈ K') {i d : Int} {b : TBatch} (h : batB K i d b = true) : batB K' i d b = true := by
  unfold batB at *
  simp only [Bool.and_eq_true, ascB_iff] at h ⊢
  exact ⟨h.1, h.2.1, h.2.2.1, h.2.2.2.1, h.2.2.2.2.mono hk⟩
theorem batsFrom_mono {K K' : List Int} (hk : ∀ w, w ∈ K → w ∈ K') : ∀ {l : List TBatch} {i d : Int}, batsFrom K i d l = true → batsFrom K' i d l = true
  | [], _, _, _ => rfl
  | b :: l, i, d, h => by
    rw [batsFrom, Bool.and_eq_true] at h ⊢
    exact ⟨batB_mono hk h.1, batsFrom_mono hk h.2⟩
def lastFrom (d : Int) (l : List TBatch) : Int := match l.getLast? with
  | none => d
  | some b => b.Day
theorem lastFrom_cons (d : Int) (b : TBatch) (l : List TBatch) : lastFrom d (b :: l) = lastFrom b.Day l := by
  unfold lastFrom
  cases l with
  | nil => rfl
  | cons c l => rw [List.getLast?_cons_cons]; cases h : (c :: l).getLast? with
    | none => simp at h
    | some x => rfl
theorem batsFrom_snoc {K : List Int} {b : TBatch} : ∀ {l : List TBatch} {i d : Int}, batsFrom K i d l = true → batB K (i + l.length) (lastFrom d l) b = true → batsFrom K i d (l ++ [b]) = true
  | [], i, d, _, h => by
    have : batB K i d b = true := by simpa [lastFrom] using h
    simp [batsFrom, this]
  | c :: l, i, d, h, k => by
    rw [batsFrom, Bool.and_eq_true] at h
    rw [List.cons_append, batsFrom, Bool.and_eq_true]
    rw [lastFrom_cons, List.length_cons] at k
    exact ⟨h.1, batsFrom_snoc h.2 (by rw [show i + 1 + (l.length : Int) = i + ((l.length + 1 : Nat) : Int) by omega]; exact k)⟩
theorem zeroQ_ok : QOk zeroQ := checkQ_iff.1 (by decide)
theorem QOk.nod {q : TQueue} (h : QOk q) {w : Int} (hw : w ∉ q.Known) : ∀ p, p ∈ q.Waiting → p.Warrant ≠ w := fun p hp e => hw (e ▸ h.asc.kn p hp)
theorem AscOk.ins {K : List Int} {l : List TPayment} {p : TPayment} (h : AscOk K l) (hp : PayOk p) (hk : p.Warrant ∈ K) (hn : ∀ x, x ∈ l → x.Warrant ≠ p.Warrant) : AscOk K (ins befB l p) := by
  refine ⟨fun x hx => ?_, ins_sorted befB_bef Bef.trans h.ord fun x hx => Bef.tot (hn x hx), fun x hx => ?_, ?_⟩
  · rcases mem_ins.1 hx with rfl | hx
    · exact hp
    · exact h.pay x hx
  · rcases mem_ins.1 hx with rfl | hx
    · exact hk
    · exact h.kn x hx
  · refine (((ins_perm befB l p).map (·.Warrant)).nodup_iff).2 ?_
    rw [List.map_cons, List.nodup_cons]
    refine ⟨fun hm => ?_, h.nd⟩
    obtain ⟨x, hx, e⟩ := List.mem_map.1 hm
    exact hn x hx e
theorem addQ_ok {q x : TQueue} {p : TPayment} (h : addQ q p = (x, 0)) : QOk q ∧ PayOk p ∧ p.Warrant ∉ q.Known ∧ q.Waiting.length < 100 ∧ q.Known.length < 200 ∧ x = ⟨ins befB q.Waiting p, ins ltB q.Known p.Warrant, q.Batches⟩ ∧ QOk x := by
  unfold addQ at h
  split at h
  · rename_i c1
    split at h
    · rename_i c2
      split at h
      · simp at h
      · rename_i c3
        split at h
        · simp at h
        · rename_i c4
          have hq := checkQ_iff.1 c1
          have hp := (payB_iff p).1 c2
          have := hq.lw
          have := hq.lk
          have hm : ∀ w, w ∈ q.Known → w ∈ ins ltB q.Known p.Warrant := fun w hw => mem_ins.2 (.inr hw)
          simp only [Prod.mk.injEq, and_true] at h
          refine ⟨hq, hp, c3, by omega, by omega, h.symm, h ▸ ⟨?_, ?_, hq.lb, ?_, ?_, ?_, ?_⟩⟩
          · simp only [ins_len]; omega
          · simp only [ins_len]; omega
          · intro w hw
            rcases mem_ins.1 hw with rfl | hw
            · exact hp.warrant
            · exact hq.kn w hw
          · refine ins_sorted ltB_lt Int.lt_trans hq.ks fun x hx => ?_
            have : x ≠ p.Warrant := fun e => c3 (e ▸ hx)
            omega
          · exact (hq.asc.mono hm).ins hp (mem_ins.2 (.inl rfl)) (hq.nod c3)
          · exact batsFrom_mono hm hq.bats
    · simp at h
  · rename_i c1
    simp only [Prod.mk.injEq] at h
    exact absurd h.2 c1
theorem againQ_ok {q x : TQueue} {p : TPayment} (h : againQ q p = (x, 0)) : QOk q ∧ PayOk p ∧ p.Warrant ∈ q.Known ∧ (∀ y, y ∈ q.Waiting → y.Warrant ≠ p.Warrant) ∧ q.Waiting.length < 100 ∧ x = ⟨ins befB q.Waiting p, q.Known, q.Batches⟩ ∧ QOk x := by
  unfold againQ at h
  split at h
  · rename_i c1
    split at h
    · rename_i c2
      split at h
      · rename_i c3
        split at h
        · simp at h
        · rename_i c4
          split at h
          · simp at h
          · rename_i c5
            have hq := checkQ_iff.1 c1
            have hp := (payB_iff p).1 c2
            have := hq.lw
            have hn := waitQ_none.1 (show waitQ q p.Warrant < 0 by omega)
            simp only [Prod.mk.injEq, and_true] at h
            refine ⟨hq, hp, c3, hn, by omega, h.symm, h ▸ ⟨?_, hq.lk, hq.lb, hq.kn, hq.ks, ?_, hq.bats⟩⟩
            · simp only [ins_len]; omega
            · exact hq.asc.ins hp c3 hn
      · simp at h
    · simp at h
  · rename_i c1
    simp only [Prod.mk.injEq] at h
    exact absurd h.2 c1
theorem dropQ_ok {q x : TQueue} {w : Int} (h : dropQ q w = (x, 0)) : QOk q ∧ (∃ p, p ∈ q.Waiting ∧ p.Warrant = w) ∧ x = ⟨q.Waiting.eraseIdx (waitQ q w).toNat, q.Known, q.Batches⟩ ∧ QOk x := by
  unfold dropQ at h
  split at h
  · rename_i c1
    split at h
    · simp at h
    · rename_i c2
      have hq := checkQ_iff.1 c1
      obtain ⟨i, p, h1, h2, h3, h4⟩ := waitQ_some c2
      simp only [Prod.mk.injEq, and_true] at h
      refine ⟨hq, ⟨p, List.mem_of_getElem? h2, h3⟩, h.symm, h ▸ ⟨?_, hq.lk, hq.lb, hq.kn, hq.ks, hq.asc.sub (List.eraseIdx_sublist _ _), hq.bats⟩⟩
      have := (List.eraseIdx_sublist q.Waiting (waitQ q w).toNat).length_le
      have := hq.lw
      simp only
      omega
  · rename_i c1
    simp only [Prod.mk.injEq] at h
    exact absurd h.2 c1
theorem nodup_sub : ∀ (M ws : List Int), M.Nodup → (∀ x, x ∈ M → x ∈ ws) → M.length ≤ ws.length ∧ (M.length = ws.length → ws.Nodup ∧ ∀ x, x ∈ ws → x ∈ M)
  | [], ws, _, _ => ⟨by simp, fun h => by
      have : ws = [] := List.eq_nil_of_length_eq_zero h.symm
      subst this
      simp⟩
  | a :: M, ws, hn, hs => by
    have ha := hs a (by simp)
    have hp := List.perm_cons_erase ha
    rw [List.nodup_cons] at hn
    have hl : ws.length = (ws.erase a).length + 1 := hp.length_eq
    obtain ⟨i1, i2⟩ := nodup_sub M (ws.erase a) hn.2 fun x hx => (List.mem_erase_of_ne (fun e => hn.1 (by rw [← e]; exact hx))).2 (hs x (by simp [hx]))
    refine ⟨by simp only [List.length_cons]; omega, fun h => ?_⟩
    simp only [List.length_cons] at h
    obtain ⟨j1, j2⟩ := i2 (by omega)
    refine ⟨hp.nodup_iff.2 (List.nodup_cons.2 ⟨fun hm => hn.1 (j2 a hm), j1⟩), fun x hx => ?_⟩
    rcases List.mem_cons.1 (hp.mem_iff.1 hx) with rfl | hx
    · simp
    · exact List.mem_cons_of_mem _ (j2 x hx)
theorem uniqW {l : List TPayment} (h : (l.map (·.Warrant)).Nodup) {p p' : TPayment} (hp : p ∈ l) (hp' : p' ∈ l) (e : p.Warrant = p'.Warrant) : p = p' := by
  induction l with
  | nil => cases hp
  | cons a l ih =>
    rw [List.map_cons, List.nodup_cons] at h
    rcases List.mem_cons.1 hp with e1 | hp
    · rcases List.mem_cons.1 hp' with e2 | hp'
      · rw [e1, e2]
      · exact absurd (List.mem_map.2 ⟨p', hp', by rw [← e, e1]⟩) h.1
    · rcases List.mem_cons.1 hp' with e2 | hp'
      · exact absurd (List.mem_map.2 ⟨p, hp, by rw [e, e2]⟩) h.1
      · exact ih h.2 hp hp'
theorem dueB_iff {q : TQueue} {day : Int} {ws : List Int} : dueB q day ws = true ↔ ws.Nodup ∧ ∀ w, w ∈ ws → ∃ p, p ∈ q.Waiting ∧ p.Warrant = w ∧ p.Due ≤ day := by
  simp [dueB]
theorem dueB_filter {q : TQueue} {day : Int} {ws : List Int} (hn : (q.Waiting.map (·.Warrant)).Nodup) (h : dueB q day ws = true) : (q.Waiting.filter fun p => decide (p.Due ≤ day)).filter (takenB ws) = q.Waiting.filter (takenB ws) := by
  obtain ⟨_, h⟩ := dueB_iff.1 h
  rw [List.filter_filter]
  refine List.filter_congr fun p hp => ?_
  cases ht : takenB ws p
  · rfl
  · obtain ⟨p', h1, h2, h3⟩ := h p.Warrant (by simpa [takenB] using ht)
    have := uniqW hn h1 hp h2
    subst this
    simp [h3]
theorem dueB_len {q : TQueue} {day : Int} {ws : List Int} (hn : (q.Waiting.map (·.Warrant)).Nodup) : ((q.Waiting.filter fun p => decide (p.Due ≤ day)).filter (takenB ws)).length = ws.length ↔ dueB q day ws = true := by
  have hM := hn.sublist (((List.filter_sublist (p := takenB ws)).trans (List.filter_sublist (l := q.Waiting) (p := fun p => decide (p.Due ≤ day)))).map (·.Warrant))
  have hs : ∀ x, x ∈ ((q.Waiting.filter fun p => decide (p.Due ≤ day)).filter (takenB ws)).map (·.Warrant) → x ∈ ws := fun x hx => by
    obtain ⟨p, hp, rfl⟩ := List.mem_map.1 hx
    simpa [takenB] using (List.mem_filter.1 hp).2
  obtain ⟨h1, h2⟩ := nodup_sub _ ws hM hs
  rw [List.length_map] at h1 h2
  rw [dueB_iff]
  constructor
  · intro h
    obtain ⟨h3, h4⟩ := h2 h
    refine ⟨h3, fun w hw => ?_⟩
    obtain ⟨p, hp, e⟩ := List.mem_map.1 (h4 w hw)
    obtain ⟨hp, _⟩ := List.mem_filter.1 hp
    obtain ⟨hp, hd⟩ := List.mem_filter.1 hp
    exact ⟨p, hp, e, by simpa using hd⟩
  · rintro ⟨h3, h4⟩
    have := h3.length_le_of_subset (l₂ := ((q.Waiting.filter fun p => decide (p.Due ≤ day)).filter (takenB ws)).map (·.Warrant)) fun w hw => by
      obtain ⟨p, hp, e, hd⟩ := h4 w hw
      exact List.mem_map.2 ⟨p, List.mem_filter.2 ⟨List.mem_filter.2 ⟨hp, by simpa using hd⟩, by simpa [takenB, e] using hw⟩, e⟩
    rw [List.length_map] at this
    omega
theorem taken_len {q : TQueue} {day : Int} {ws : List Int} (hn : (q.Waiting.map (·.Warrant)).Nodup) (h : dueB q day ws = true) : (q.Waiting.filter (takenB ws)).length = ws.length := by
  rw [← dueB_filter hn h]
  exact (dueB_len hn).2 h
theorem takeQ_ok {q x : TQueue} {b : TBatch} {day : Int} {ws : List Int} (h : takeQ q day ws = (x, b, 0)) : QOk q ∧ busB day = true ∧ lastQ q ≤ day ∧ 1 ≤ ws.length ∧ ws.length ≤ 10 ∧ dueB q day ws = true ∧ x = ⟨q.Waiting.filter (fun p => !takenB ws p), q.Known, q.Batches ++ [takeB q day ws]⟩ ∧ b = takeB q day ws ∧ QOk x := by
  unfold takeQ at h
  split at h
  · rename_i c1
    split at h
    · rename_i c2
      split at h
      · simp at h
      · rename_i c3
        split at h
        · simp at h
        · rename_i c4
          split at h
          · simp at h
          · rename_i c5
            split at h
            · rename_i c6
              have hq := checkQ_iff.1 c1
              simp only [Prod.mk.injEq, and_true] at h
              refine ⟨hq, c2, by omega, by omega, by omega, c6, h.1.symm, h.2.symm, h.1 ▸ ⟨?_, hq.lk, ?_, hq.kn, hq.ks, hq.asc.sub List.filter_sublist, ?_⟩⟩
              · have := List.length_filter_le (fun p => !takenB ws p) q.Waiting
                have := hq.lw
                simp only
                omega
              · simp only [List.length_append, List.length_cons, List.length_nil]
                omega
              · refine batsFrom_snoc hq.bats ?_
                have := taken_len hq.asc.nd c6
                simp only [batB, takeB, Bool.and_eq_true, ascB_iff, amg_iff]
                refine ⟨decide_eq_true (by omega), decide_eq_true ?_, c2, by omega, hq.asc.sub List.filter_sublist⟩
                have : lastFrom 0 q.Batches = lastQ q := rfl
                omega
            · simp at h
    · simp at h
  · rename_i c1
    simp only [Prod.mk.injEq] at h
    exact absurd h.2.2 c1
open Go.PA
open Go.RowKit
abbrev itemsL (l : List TItem) : AV := .list 7 (encL TItem.cells l)
theorem imm_items (l : List TItem) : Imm (itemsL l) := imm_encL _ TItem.imm _
theorem cIt (x : TItem) : x.cells = [iv x.Payment.Warrant, iv x.Payment.Payee, iv x.Payment.Amount, iv x.Payment.Due, iv x.Payment.Sub, iv x.State, iv x.Attempts] := rfl
theorem imm_item (c : TItem) : Imm (.agg c.cells) := imm_agg.2 c.imm
theorem imm_desk (c : TDesk) : Imm (.agg c.cells) := imm_agg.2 c.imm
abbrev zeroD : TDesk := ⟨zeroA, zeroQ, []⟩
def wrt (x : TItem) : Int := x.Payment.Warrant
structure FitD (d : TDesk) : Prop where
  s : d.Account.Subs.length ≤ 100000
  e : d.Account.Entries.length ≤ 100000
  q : FitQ d.Queue
  i : d.Items.length ≤ 100000
def outE (p : TPayment) (e : TEntry) : Bool := decide (e.Ref = p.Warrant) && (decide (e.From = p.Sub) && decide (e.To = 0))
def inE (p : TPayment) (e : TEntry) : Bool := decide (e.Ref = p.Warrant) && (decide (e.From = 0) && decide (e.To = p.Sub))
def okE (p : TPayment) (e : TEntry) : Bool := !decide (e.Ref = p.Warrant) || (decide (e.Amount = p.Amount) && (decide (e.From = p.Sub) && decide (e.To = 0) || decide (e.From = 0) && decide (e.To = p.Sub)))
def goneB (x : TItem) : Bool := decide (x.State = 2) || decide (x.State = 3)
def goneN (x : TItem) : Nat := if goneB x = true then 1 else 0
def movedB (a : TAccount) (x : TItem) : Bool := a.Entries.all (okE x.Payment) && (decide ((a.Entries.countP (outE x.Payment) : Int) = x.Attempts) && decide ((a.Entries.countP (inE x.Payment) : Int) + goneN x = x.Attempts))
def hasW (w : Int) (p : TPayment) : Bool := decide (p.Warrant = w)
def sentN (q : TQueue) (w : Int) : Nat := q.Batches.countP fun b => b.Payments.any (hasW w)
def batN (q : TQueue) (w : Int) : Nat := (q.Batches.map fun b => b.Payments.countP (hasW w)).sum
def waitO (q : TQueue) (w : Int) : Option TPayment := q.Waiting.find? (hasW w)
def waitB (q : TQueue) (x : TItem) : Bool := match waitO q x.Payment.Warrant with
  | none => !decide (x.State = 1)
  | some w => decide (x.State = 1) && decide (w = x.Payment)
def attB (x : TItem) : Bool := amg x.Attempts 0 5 && (!(decide (x.Attempts = 5) && decide (x.State = 1)) && !(decide (x.Attempts = 0) && !(decide (x.State = 1) || decide (x.State = 5))))
def itemB (d : TDesk) (x : TItem) : Bool := payB x.Payment && ((balanceA d.Account x.Payment.Sub).2 && (amg x.State 1 5 && (attB x && (waitB d.Queue x && (decide ((batN d.Queue x.Payment.Warrant : Int) = x.Attempts) && movedB d.Account x)))))
def deskB (d : TDesk) : Bool := decide (d.Items.map wrt = d.Queue.Known) && d.Items.all (itemB d)
def checkD (d : TDesk) : Int := if checkA d.Account = 0 then (if checkQ d.Queue = 0 then (if deskB d = true then 0 else 68) else checkQ d.Queue) else checkA d.Account
def mostI (x : TItem) : Int := if x.State = 1 then 4 else 5
def leastI (x : TItem) : Int := if x.State = 1 then 0 else if x.State = 5 then 0 else 1
def rightB (d : TDesk) (x : TItem) : Bool := (balanceA d.Account x.Payment.Sub).2 && (payB x.Payment && (amg x.State 1 5 && (amg x.Attempts (leastI x) (mostI x) && (decide (decide (x.Payment ∈ d.Queue.Waiting) = decide (x.State = 1)) && (decide ((sentN d.Queue x.Payment.Warrant : Int) = x.Attempts) && movedB d.Account x)))))
def queuedB (x : TItem) : Bool := decide (x.State = 1)
def deskP (d : TDesk) : Bool := d.Items.all (rightB d) && (decide (d.Items.map wrt = d.Queue.Known) && decide (d.Items.countP queuedB = d.Queue.Waiting.length))
theorem attB_eq {x : TItem} : amg x.Attempts (leastI x) (mostI x) = attB x := by
  unfold attB mostI leastI
  by_cases h1 : x.State = 1
  · simp only [h1, if_true, decide_true, Bool.and_true, Bool.true_or, Bool.not_true, Bool.and_false, Bool.not_false, amg]
    rw [Bool.eq_iff_iff]
    simp only [Bool.and_eq_true, decide_eq_true_eq, Bool.not_eq_true', decide_eq_false_iff_not]
    omega
  · by_cases h5 : x.State = 5
    · simp [h5, amg]
    · simp only [h1, h5, if_false, decide_false, Bool.and_false, Bool.not_false, Bool.true_and, Bool.false_or, Bool.and_true, amg]
      rw [Bool.eq_iff_iff]
      simp only [Bool.and_eq_true, decide_eq_true_eq, Bool.not_eq_true', decide_eq_false_iff_not]
      omega
theorem batN_eq {q : TQueue} (h : QOk q) (w : Int) : batN q w = sentN q w := by
  have each : ∀ b, b ∈ q.Batches → (b.Payments.map (·.Warrant)).Nodup := fun b hb => (batsFrom_len h.bats b hb).2.2.1.nd
  have one : ∀ l : List TPayment, (l.map (·.Warrant)).Nodup → l.countP (hasW w) = if l.any (hasW w) = true then 1 else 0 := by
    intro l
    induction l with
    | nil => intro _; rfl
    | cons p l ih =>
      intro hn
      rw [List.map_cons, List.nodup_cons] at hn
      rw [List.countP_cons, List.any_cons, ih hn.2]
      by_cases hp : p.Warrant = w
      · have : l.any (hasW w) = false := by
          refine List.any_eq_false.2 fun x hx e => hn.1 (List.mem_map.2 ⟨x, hx, ?_⟩)
          have : x.Warrant = w := by simpa [hasW] using e
          omega
        have hw : hasW w p = true := by simp [hasW, hp]
        rw [this, hw]
        rfl
      · have : hasW w p = false := by simp [hasW, hp]
        rw [this]
        simp
  unfold batN sentN
  revert each
  generalize q.Batches = l
  intro each
  induction l with
  | nil => rfl
  | cons b l ih =>
    rw [List.map_cons, List.sum_cons, List.countP_cons, ih fun b hb => each b (List.mem_cons_of_mem _ hb), one _ (each b (by simp))]
    omega
theorem uniqI {l : List TItem} (h : (l.map wrt).Nodup) {x y : TItem} (hx : x ∈ l) (hy : y ∈ l) (e : x.Payment.Warrant = y.Payment.Warrant) : x = y := by
  induction l with
  | nil => cases hx
  | cons a l ih =>
    rw [List.map_cons, List.nodup_cons] at h
    rcases List.mem_cons.1 hx with e1 | hx
    · rcases List.mem_cons.1 hy with e2 | hy
      · rw [e1, e2]
      · exact absurd (List.mem_map.2 ⟨y, hy, by rw [wrt, ← e, e1]; rfl⟩) h.1
    · rcases List.mem_cons.1 hy with e2 | hy
      · exact absurd (List.mem_map.2 ⟨x, hx, by rw [wrt, e, e2]; rfl⟩) h.1
      · exact ih h.2 hx hy
theorem waitO_none {q : TQueue} {w : Int} : waitO q w = none ↔ ∀ p, p ∈ q.Waiting → p.Warrant ≠ w := by
  simp [waitO, hasW]
theorem waitO_some {q : TQueue} {w : Int} {p : TPayment} (h : waitO q w = some p) : p ∈ q.Waiting ∧ p.Warrant = w := ⟨List.mem_of_find?_eq_some h, by simpa [hasW] using List.find?_some h⟩
theorem waitO_mem {q : TQueue} (hn : (q.Waiting.map (·.Warrant)).Nodup) {p : TPayment} (h : p ∈ q.Waiting) : waitO q p.Warrant = some p := by
  cases hw : waitO q p.Warrant with
  | none => exact absurd rfl (waitO_none.1 hw p h)
  | some x =>
    obtain ⟨h1, h2⟩ := waitO_some hw
    rw [uniqW hn h1 h h2]
theorem sorted_nodup {l : List Int} (h : l.Pairwise (· < ·)) : l.Nodup := h.imp fun h => by omega
theorem nodup_map_of {l : List TItem} (h : (l.map wrt).Nodup) : ∀ f : TItem → Bool, (((l.filter f).map (·.Payment)).map (·.Warrant)).Nodup := fun f => by
  rw [List.map_map]
  exact h.sublist (List.filter_sublist.map _)
theorem nodup_of_map {α β : Type} {f : α → β} {l : List α} (h : (l.map f).Nodup) : l.Nodup := (List.pairwise_map.1 h).imp fun hab e => hab (congrArg f e)
theorem wait_all {q : TQueue} {l : List TItem} (hq : QOk q) (hk : l.map wrt = q.Known) (hw : ∀ x, x ∈ l → (x.Payment ∈ q.Waiting ↔ x.State = 1)) (hc : l.countP queuedB = q.Waiting.length) : ∀ p, p ∈ q.Waiting → ∃ x, x ∈ l ∧ x.State = 1 ∧ x.Payment = p := by
  have hnk : (l.map wrt).Nodup := hk ▸ sorted_nodup hq.ks
  intro p hp
  by_cases h : p ∈ (l.filter queuedB).map (·.Payment)
  · obtain ⟨x, hx, e⟩ := List.mem_map.1 h
    obtain ⟨h1, h2⟩ := List.mem_filter.1 hx
    exact ⟨x, h1, by simpa [queuedB] using h2, e⟩
  · exfalso
    have hn : (p :: (l.filter queuedB).map (·.Payment)).Nodup := List.nodup_cons.2 ⟨h, nodup_of_map (nodup_map_of hnk queuedB)⟩
    have := hn.length_le_of_subset (l₂ := q.Waiting) fun y hy => by
      rcases List.mem_cons.1 hy with rfl | hy
      · exact hp
      · obtain ⟨x, hx, rfl⟩ := List.mem_map.1 hy
        obtain ⟨h1, h2⟩ := List.mem_filter.1 hx
        exact (hw x h1).2 (by simpa [queuedB] using h2)
    rw [List.length_cons, List.length_map, ← List.countP_eq_length_filter] at this
    omega
theorem waitB_iff {q : TQueue} {l : List TItem} (hq : QOk q) (hk : l.map wrt = q.Known) : ((∀ x, x ∈ l → waitB q x = true) ↔ (∀ x, x ∈ l → (x.Payment ∈ q.Waiting ↔ x.State = 1)) ∧ l.countP queuedB = q.Waiting.length) := by
  have hnk : (l.map wrt).Nodup := hk ▸ sorted_nodup hq.ks
  have hnd := hq.asc.nd
  constructor
  · intro h
    have h1 : ∀ x, x ∈ l → (x.Payment ∈ q.Waiting ↔ x.State = 1) := fun x hx => by
      have := h x hx
      unfold waitB at this
      cases hw : waitO q x.Payment.Warrant with
      | none =>
        rw [hw] at this
        have h1 := waitO_none.1 hw
        exact ⟨fun hm => absurd rfl (h1 _ hm), fun e => by simp [e] at this⟩
      | some w =>
        rw [hw] at this
        simp only [Bool.and_eq_true, decide_eq_true_eq] at this
        exact ⟨fun _ => this.1, fun _ => this.2 ▸ (waitO_some hw).1⟩
    refine ⟨h1, ?_⟩
    rw [List.countP_eq_length_filter]
    have a := (nodup_of_map (nodup_map_of hnk queuedB)).length_le_of_subset (l₂ := q.Waiting) fun y hy => by
      obtain ⟨x, hx, rfl⟩ := List.mem_map.1 hy
      obtain ⟨h2, h3⟩ := List.mem_filter.1 hx
      exact (h1 x h2).2 (by simpa [queuedB] using h3)
    have b := (nodup_of_map hnd).length_le_of_subset (l₂ := (l.filter queuedB).map (·.Payment)) fun p hp => by
      have hw := hq.asc.kn p hp
      rw [← hk] at hw
      obtain ⟨x, hx, e⟩ := List.mem_map.1 hw
      have hb := h x hx
      have e : x.Payment.Warrant = p.Warrant := e
      rw [waitB, e, waitO_mem hnd hp] at hb
      simp only [Bool.and_eq_true, decide_eq_true_eq] at hb
      exact List.mem_map.2 ⟨x, List.mem_filter.2 ⟨hx, by simp [queuedB, hb.1]⟩, hb.2.symm⟩
    rw [List.length_map] at a b
    omega
  · rintro ⟨h, hc⟩ x hx
    have hall := wait_all hq hk h hc
    unfold waitB
    cases hw : waitO q x.Payment.Warrant with
    | none =>
      have h1 := waitO_none.1 hw
      simp only [Bool.not_eq_true', decide_eq_false_iff_not]
      exact fun e => h1 _ ((h x hx).2 e) rfl
    | some w =>
      obtain ⟨h1, h2⟩ := waitO_some hw
      obtain ⟨y, hy, hs, e⟩ := hall w h1
      have : x = y := uniqI hnk hx hy (by rw [← h2, e])
      subst this
      simp [hs, e]
theorem deskP_eq {d : TDesk} (hq : QOk d.Queue) : deskP d = deskB d := by
  rw [Bool.eq_iff_iff]
  unfold deskP deskB rightB itemB
  simp only [Bool.and_eq_true, List.all_eq_true, decide_eq_true_eq, attB_eq, batN_eq hq, decide_eq_decide]
  constructor
  · rintro ⟨h1, h2, h3⟩
    have hw := (waitB_iff hq h2).2 ⟨fun x hx => (h1 x hx).2.2.2.2.1, h3⟩
    exact ⟨h2, fun x hx => ⟨(h1 x hx).2.1, (h1 x hx).1, (h1 x hx).2.2.1, (h1 x hx).2.2.2.1, hw x hx, (h1 x hx).2.2.2.2.2⟩⟩
  · rintro ⟨h2, h1⟩
    obtain ⟨hw, hc⟩ := (waitB_iff hq h2).1 fun x hx => (h1 x hx).2.2.2.2.1
    exact ⟨fun x hx => ⟨(h1 x hx).2.1, (h1 x hx).1, (h1 x hx).2.2.1, (h1 x hx).2.2.2.1, hw x hx, (h1 x hx).2.2.2.2.2⟩, h2, hc⟩
def refB (w : Int) (e : TEntry) : Bool := decide (e.Ref = w)
def openD (a : TAccount) : TDesk × Int := if checkA a = 0 then (if (a.Entries.any fun e => !refB 0 e) = true then (zeroD, 68) else (⟨a, zeroQ, []⟩, 0)) else (zeroD, checkA a)
def ltI (x y : TItem) : Bool := decide (x.Payment.Warrant < y.Payment.Warrant)
def posI (l : List TItem) (w : Int) : Int := idxI (fun x => decide (x.Payment.Warrant = w)) l
def orderD (d : TDesk) (p : TPayment) : TDesk × Int :=
  if checkD d = 0 then (if (addQ d.Queue p).2 = 0 then (if (balanceA d.Account p.Sub).2 = true then (if d.Account.Entries.any (refB p.Warrant) = true then (zeroD, 65) else (⟨d.Account, (addQ d.Queue p).1, ins ltI d.Items ⟨p, 1, 0⟩⟩, 0)) else (zeroD, 60)) else (zeroD, (addQ d.Queue p).2)) else (zeroD, checkD d)
structure Done1 where
  a : TAccount
  q : TQueue
  x : TItem
  e : Int
def changeD (d : TDesk) (w st : Int) (f : TDesk → TItem → Done1) : TDesk × Int :=
  if checkD d = 0 then (match d.Items[(posI d.Items w).toNat]? with
    | none => (zeroD, 6)
    | some x => if posI d.Items w < 0 then (zeroD, 6) else if x.State = st then (if (f d x).e = 0 then (⟨(f d x).a, (f d x).q, d.Items.set (posI d.Items w).toNat (f d x).x⟩, 0) else (zeroD, (f d x).e)) else (zeroD, 67)) else (zeroD, checkD d)
def recallF (w : Int) (d : TDesk) (x : TItem) : Done1 := ⟨d.Account, (dropQ d.Queue w).1, ⟨x.Payment, 5, x.Attempts⟩, (dropQ d.Queue w).2⟩
def settleF (d : TDesk) (x : TItem) : Done1 := ⟨d.Account, d.Queue, ⟨x.Payment, 3, x.Attempts⟩, 0⟩
def returnF (w day : Int) (d : TDesk) (x : TItem) : Done1 := ⟨(postA d.Account (nextE d.Account day 0 x.Payment.Sub x.Payment.Amount w)).1, d.Queue, ⟨x.Payment, 4, x.Attempts⟩, (postA d.Account (nextE d.Account day 0 x.Payment.Sub x.Payment.Amount w)).2⟩
def duePay (p : TPayment) (due : Int) : TPayment := ⟨p.Warrant, p.Payee, p.Amount, due, p.Sub⟩
def againF (due : Int) (d : TDesk) (x : TItem) : Done1 := if x.Attempts = 5 then ⟨d.Account, d.Queue, x, 3⟩ else ⟨d.Account, (againQ d.Queue (duePay x.Payment due)).1, ⟨duePay x.Payment due, 1, x.Attempts⟩, (againQ d.Queue (duePay x.Payment due)).2⟩
def recallD (d : TDesk) (w : Int) : TDesk × Int := changeD d w 1 (recallF w)
def settleD (d : TDesk) (w : Int) : TDesk × Int := changeD d w 2 settleF
def returnD (d : TDesk) (w day : Int) : TDesk × Int := changeD d w 2 (returnF w day)
def againD (d : TDesk) (w due : Int) : TDesk × Int := changeD d w 4 (againF due)
def sendGo (day : Int) : List TPayment → TAccount → List Int → Bool → TAccount × List Int × Bool
  | [], a, ws, full => (a, ws, full)
  | p :: l, a, ws, full => if ws.length = 10 then (a, ws, full) else
    if (postA a (nextE a day p.Sub 0 p.Amount p.Warrant)).2 = 0 then sendGo day l (postA a (nextE a day p.Sub 0 p.Amount p.Warrant)).1 (ws ++ [p.Warrant]) full else sendGo day l a ws (full || decide ((postA a (nextE a day p.Sub 0 p.Amount p.Warrant)).2 = 3))
def sentI (ws : List Int) (x : TItem) : TItem := if x.Payment.Warrant ∈ ws then ⟨x.Payment, 2, x.Attempts + 1⟩ else x
def lastDay (a : TAccount) : Int := (lastE a).Day
def goD (d : TDesk) (day : Int) : TAccount × List Int × Bool := sendGo day (readyQ d.Queue day) d.Account [] false
def sendD (d : TDesk) (day : Int) : TDesk × TBatch × Int :=
  if checkD d = 0 then (if busB day = true then (if day < lastQ d.Queue ∨ day < lastDay d.Account then (zeroD, zeroB, 8) else
    if (goD d day).2.1.length = 0 then (zeroD, zeroB, if (goD d day).2.2 = true then 3 else 10) else
    if (takeQ d.Queue day (goD d day).2.1).2.2 = 0 then (⟨(goD d day).1, (takeQ d.Queue day (goD d day).2.1).1, d.Items.map (sentI (goD d day).2.1)⟩, (takeQ d.Queue day (goD d day).2.1).2.1, 0) else (zeroD, zeroB, (takeQ d.Queue day (goD d day).2.1).2.2)) else (zeroD, zeroB, 66)) else (zeroD, zeroB, checkD d)
structure DOk (d : TDesk) : Prop where
  a : checkA d.Account = 0
  q : QOk d.Queue
  k : d.Items.map wrt = d.Queue.Known
  i : ∀ x, x ∈ d.Items → itemB d x = true
theorem checkD_iff {d : TDesk} : checkD d = 0 ↔ DOk d := by
  unfold checkD
  split
  · rename_i h1
    split
    · rename_i h2
      split
      · rename_i h3
        rw [deskB, Bool.and_eq_true, decide_eq_true_eq, List.all_eq_true] at h3
        exact ⟨fun _ => ⟨h1, checkQ_iff.1 h2, h3.1, h3.2⟩, fun _ => rfl⟩
      · rename_i h3
        refine ⟨fun e => absurd e (by decide), fun h => absurd ?_ h3⟩
        rw [deskB, Bool.and_eq_true, decide_eq_true_eq, List.all_eq_true]
        exact ⟨h.k, h.i⟩
    · rename_i h2
      exact ⟨fun e => absurd e h2, fun h => absurd (checkQ_iff.2 h.q) h2⟩
  · rename_i h1
    exact ⟨fun e => absurd e h1, fun h => absurd h.a h1⟩
open Go.PA
open Go.RowKit
theorem valid_pf (n : Int) : PFun Tryz.prog none none 139 [iv n] (· = bv (vB n)) := by
  refine pfun_intro Tryz.func139 rfl (by simp [Tryz.f139]) (by kernel_rfl) ?_
  intro E hP hr hs hW hN
  by_cases h1 : 0 ≤ n <;> by_cases h2 : n ≤ 1000000000000 <;> simp -dsimp -implicitDefEqProofs [-getElem?_pos, go_sem, hP, h1, h2, vB, amongB]
theorem among_pf (n lo hi : Int) : PFun Tryz.prog none none 175 [iv n, iv lo, iv hi] (· = bv (amongB n lo hi)) := by
  refine pfun_intro Tryz.func175 rfl (by simp [Tryz.f175]) (by kernel_rfl) ?_
  intro E hP hr hs hW hN
  by_cases h1 : lo ≤ n <;> by_cases h2 : n ≤ hi <;> simp -dsimp -implicitDefEqProofs [-getElem?_pos, go_sem, hP, h1, h2, amongB]
theorem positive_pf (n : Int) : PFun Tryz.prog none none 201 [iv n] (· = bv (decide (0 < n) && vB n)) := by
  refine pfun_intro Tryz.func201 rfl (by simp [Tryz.f201]) (by kernel_rfl) ?_
  intro E hP hr hs hW hN
  by_cases h1 : 0 < n
  · have d1 : decide (0 < n) = true := decide_eq_true h1
    simp -dsimp -implicitDefEqProofs [-getElem?_pos, go_sem, hP, d1]
    refine callB_pure (valid_pf n) hP en_139 (args_same (by simp -dsimp -implicitDefEqProofs [-getElem?_pos, go_sem])) .sc ?_
    simp -dsimp -implicitDefEqProofs [-getElem?_pos, go_sem, hP, d1]
  · simp -dsimp -implicitDefEqProofs [-getElem?_pos, go_sem, hP, h1]
theorem numbers_pf (l : List TSub) (hl : l.length ≤ 100000) : PFun Tryz.prog none none 141 [subsL l] (· = numsL (ids l)) := by
  refine pfun_intro Tryz.func141 rfl (by simp [Tryz.f141]) (by kernel_rfl) ?_
  intro E hP hr hs hW hN
  simp -dsimp -implicitDefEqProofs [-getElem?_pos, go_sem, hP]
  refine aloop_own 3 3 1 (by simp -dsimp -implicitDefEqProofs [-getElem?_pos, go_sem]) ?_
  obtain ⟨I, hI⟩ : ∃ I : Nat → St → Prop, I = fun m s => ∃ k id : Nat, k ≤ l.length ∧ m = l.length - k ∧ s.t 6 = subsL l ∧ s.t 7 = iv l.length ∧ s.t 8 = iv k ∧ s.t 3 = .sref id 0 k ∧ s.H[id]? = some (some ⟨3, 1, encL encI (ids (l.take k))⟩) := ⟨_, rfl⟩
  refine aloopF 3 hW I (l.length) (by rw [hN]; rfl) ?_ ?_
  · rw [hI]
    exact ⟨0, 0, by omega, by omega, by simp -dsimp -implicitDefEqProofs [-getElem?_pos, go_sem], by simp -dsimp -implicitDefEqProofs [-getElem?_pos, go_sem], by simp -dsimp -implicitDefEqProofs [-getElem?_pos, go_sem], by simp -dsimp -implicitDefEqProofs [-getElem?_pos, go_sem], by simp -dsimp -implicitDefEqProofs [-getElem?_pos, go_sem, ids]⟩
  intro m s hs'
  rw [hI] at hs'
  obtain ⟨k, id, hk, hm, t6, t7, t8, t3, hH⟩ := hs'
  have hlt := (List.getElem?_eq_some_iff.1 hH).1
  have hz : (ids (l.take k)).length = k := by rw [ids_len]; simp; omega
  simp -dsimp -implicitDefEqProofs [-getElem?_pos, go_sem, hP, t7, t8]
  refine condP (fun h => ?_) (fun h => ?_)
  · have hk : k < l.length := by simpa using h
    obtain ⟨a, ha⟩ : ∃ a, l[k]? = some a := ⟨_, List.getElem?_eq_getElem hk⟩
    have wk := wrap_in ((k : Int) + 1) (by omega)
    have e1 : ids (l.take (k + 1)) = ids (l.take k) ++ [a.ID] := by rw [List.take_add_one, ha]; simp [ids]
    simp -dsimp -implicitDefEqProofs [-getElem?_pos, go_sem, hP, t6, t8, t3, ha, TSub.cells, hH, hz, hlt, wk]
    refine ⟨by omega, by omega, ?_⟩
    refine ⟨l.length - (k + 1), by omega, ?_⟩
    rw [hI]
    exact ⟨k + 1, s.H.length + 1, by omega, rfl, by simp -dsimp -implicitDefEqProofs [-getElem?_pos, go_sem, t6], by simp -dsimp -implicitDefEqProofs [-getElem?_pos, go_sem, t7], by simp -dsimp -implicitDefEqProofs [-getElem?_pos, go_sem], by simp -dsimp -implicitDefEqProofs [-getElem?_pos, go_sem], by rw [e1, ← encL_snoc]; simp -dsimp -implicitDefEqProofs [-getElem?_pos, go_sem, encI]⟩
  · have hk : k = l.length := by simp at h; omega
    subst hk
    refine frz id _ 3 1 (encL encI (ids l)) t3 (by rw [hH, List.take_length]) (by rw [encL_len, ids_len]) (imm_nums _) ?_
    simp -dsimp -implicitDefEqProofs [-getElem?_pos, go_sem, hP]
    exact done_imm (imm_nums _) rfl
set_option maxHeartbeats 1000000 in
theorem numbered_pf (l : List Int) (hl : l.length ≤ 100000) : PFun Tryz.prog none none 140 [numsL l] (· = bv (numB l)) := by
  refine pfun_intro Tryz.func140 rfl (by simp [Tryz.f140]) (by kernel_rfl) ?_
  intro E hP hr hs hW hN
  simp -dsimp -implicitDefEqProofs [-getElem?_pos, go_sem, hP]
  obtain ⟨I, hI⟩ : ∃ I : Nat → St → Prop, I = fun m s => ∃ (k : Nat) (p : Int), k ≤ l.length ∧ m = l.length - k ∧ ascA 0 l = ascA p (l.drop k) ∧ (k = 0 → p = 0) ∧ (∀ j x, k = j + 1 → l[j]? = some x → p = x) ∧ s.t 0 = numsL l ∧ s.t 5 = numsL l ∧ s.t 6 = iv l.length ∧ s.t 7 = iv k := ⟨_, rfl⟩
  refine aloop0 I (l.length) (by rw [hN]; rfl) ?_ ?_
  · rw [hI]
    exact ⟨0, 0, by omega, by omega, by simp, by simp, by omega, by simp -dsimp -implicitDefEqProofs [-getElem?_pos, go_sem], by simp -dsimp -implicitDefEqProofs [-getElem?_pos, go_sem], by simp -dsimp -implicitDefEqProofs [-getElem?_pos, go_sem], by simp -dsimp -implicitDefEqProofs [-getElem?_pos, go_sem]⟩
  intro m s hs'
  rw [hI] at hs'
  obtain ⟨k, p, hk, hm, hasc, hp0, hp1, t0, t5, t6, t7⟩ := hs'
  simp -dsimp -implicitDefEqProofs [-getElem?_pos, go_sem, hP, t6, t7]
  refine condP (fun h => ?_) (fun h => ?_)
  · have hk : k < l.length := by simpa using h
    obtain ⟨x, hx⟩ : ∃ x, l[k]? = some x := ⟨_, List.getElem?_eq_getElem hk⟩
    have wk := wrap_in ((k : Int) + 1) (by omega)
    have hdr : l.drop k = x :: l.drop (k + 1) := by
      obtain ⟨h2, h3⟩ := List.getElem?_eq_some_iff.1 hx
      rw [List.drop_eq_getElem_cons h2, h3]
    rw [hdr, ascA] at hasc
    have fin : ∀ s' : St, (amongB x 1 1000 && decide (p < x)) = true → s'.t 0 = s.t 0 → s'.t 5 = s.t 5 → s'.t 6 = s.t 6 → s'.t 7 = iv ((k : Int) + 1) → ∃ n', n' < m ∧ I n' s' := fun s' hc e0 e5 e6 e7 => by
      refine ⟨l.length - (k + 1), by omega, ?_⟩
      rw [hI]
      simp only [Bool.and_eq_true] at hc
      refine ⟨k + 1, x, by omega, rfl, by rw [hasc, hc.1, hc.2]; simp, by omega, fun j y hj hy => ?_, by rw [e0, t0], by rw [e5, t5], by rw [e6, t6], by rw [e7]; simp⟩
      have : j = k := by omega
      subst this
      rw [hx] at hy
      exact Option.some.inj hy
    have bad : (amongB x 1 1000 && decide (p < x)) = false → numB l = false := fun h => by
      rw [numB, hasc, ← Bool.and_assoc (amongB _ _ _), h]; simp
    simp -dsimp -implicitDefEqProofs [-getElem?_pos, go_sem, hP, t5, t7, hx, encI]
    refine callB_pure (among_pf x 1 1000) hP en_175 (args_same (by simp -dsimp -implicitDefEqProofs [-getElem?_pos, go_sem])) .sc ?_
    by_cases c1 : amongB x 1 1000 = true
    rotate_left
    · have : numB l = false := bad (by simp [c1])
      simp -dsimp -implicitDefEqProofs [-getElem?_pos, go_sem, hP, c1, this]
    rcases Nat.eq_zero_or_pos k with hk0 | hkp
    · have d1 : decide (0 < k) = false := decide_eq_false (by omega)
      simp -dsimp -implicitDefEqProofs [-getElem?_pos, go_sem, hP, c1, d1, t7, wk]
      exact fin _ (by have := hp0 hk0; have := amongB_iff.1 c1; simp [c1]; omega) (by simp -dsimp -implicitDefEqProofs [-getElem?_pos, go_sem]) (by simp -dsimp -implicitDefEqProofs [-getElem?_pos, go_sem]) (by simp -dsimp -implicitDefEqProofs [-getElem?_pos, go_sem]) (by simp -dsimp -implicitDefEqProofs [-getElem?_pos, go_sem])
    · obtain ⟨j, rfl⟩ : ∃ j, k = j + 1 := ⟨k - 1, by omega⟩
      obtain ⟨y, hy⟩ : ∃ y, l[j]? = some y := ⟨_, List.getElem?_eq_getElem (by omega)⟩
      have d1 : decide ((0 : Int) < (j : Int) + 1) = true := decide_eq_true (by omega)
      have wj := wrap_in ((j : Int) + 1 - 1) (by omega)
      rw [Int.add_sub_cancel] at wj
      have hpy := hp1 j y rfl hy
      have wk' := wrap_in ((j : Int) + 1 + 1) (by omega)
      by_cases c3 : x ≤ y
      · have : numB l = false := bad (by simp [c1]; omega)
        simp -dsimp -implicitDefEqProofs [-getElem?_pos, go_sem, hP, c1, d1, t0, Int.add_sub_cancel, wj, hy, encI, c3, this]
      · simp -dsimp -implicitDefEqProofs [-getElem?_pos, go_sem, hP, c1, d1, t0, Int.add_sub_cancel, wj, hy, encI, c3, t7, wk']
        exact fin _ (by simp [c1]; omega) (by simp -dsimp -implicitDefEqProofs [-getElem?_pos, go_sem]) (by simp -dsimp -implicitDefEqProofs [-getElem?_pos, go_sem]) (by simp -dsimp -implicitDefEqProofs [-getElem?_pos, go_sem]) (by simp -dsimp -implicitDefEqProofs [-getElem?_pos, go_sem])
  · have hk : k = l.length := by simp at h; omega
    subst hk
    rw [List.drop_length] at hasc
    have hasc : ascA 0 l = true := hasc
    cases l with
    | nil => simp -dsimp -implicitDefEqProofs [-getElem?_pos, go_sem, hP, t0, numB]
    | cons x l =>
      have : numB (x :: l) = decide (x = 1) := by rw [numB, hasc]; simp
      simp -dsimp -implicitDefEqProofs [-getElem?_pos, go_sem, hP, t0, this, encI]
structure Teller (H : Heap) (p q : Nat) (credit n d : Int) (l : List TSub) : Prop where
  ne : p ≠ q
  obj : H[p]? = some (some ⟨198, 4, [[iv credit, iv n, iv d, .sref q 0 l.length]]⟩)
  subs : H[q]? = some (some ⟨170, 2, encL TSub.cells l⟩)
theorem Teller.kept {H H' : Heap} {p q : Nat} {credit n d : Int} {l : List TSub} {X : List Nat} (h : Teller H p q credit n d l) (hk : Kept X H H') (hp : p ∉ X) (hq : q ∉ X) : Teller H' p q credit n d l :=
  ⟨h.ne, hk _ _ hp h.obj, hk _ _ hq h.subs⟩
theorem Teller.ltp {H : Heap} {p q : Nat} {credit n d : Int} {l : List TSub} (h : Teller H p q credit n d l) : p < H.length := (List.getElem?_eq_some_iff.1 h.obj).1
theorem Teller.ltq {H : Heap} {p q : Nat} {credit n d : Int} {l : List TSub} (h : Teller H p q credit n d l) : q < H.length := (List.getElem?_eq_some_iff.1 h.subs).1
theorem isid_m {row src : Option Nat} (g : FuncId) (fn : Func) (hg : True) (a : TSub) (H : Heap) (b : Nat) (id : Int) (hb : H[b]? = some (some ⟨3, 1, [[iv id]]⟩)) :
    MFun Tryz.prog row src 224 [.agg a.cells, .ref b 0 0] H (fun r H' => r = bv (decide (a.ID = id)) ∧ Kept [] H H') := by
  refine mfun_intro Tryz.func224 rfl (by simp [Tryz.f224]) (by kernel_rfl) (⟨_, H, rfl, kept_refl _ _⟩) ?_
  intro E hP hr hs hN
  have hlt := (List.getElem?_eq_some_iff.1 hb).1
  simp -dsimp -implicitDefEqProofs [-getElem?_pos, go_sem, hP, TSub.cells, hb, hlt]
  exact kept_push _ (kept_refl _ _)
theorem place_m {row src : Option Nat} {H : Heap} {p q : Nat} {credit n d : Int} {l : List TSub} (h : Teller H p q credit n d l) (hl : l.length ≤ 100000) (id : Int) :
    MFun Tryz.prog row src 213 [.ref p 0 0, iv id] H (fun r H' => r = iv (placeI l id) ∧ Kept [] H H') := by
  refine mfun_intro Tryz.func213 rfl (by simp [Tryz.f213]) (by kernel_rfl) (⟨_, H, rfl, kept_refl _ _⟩) ?_
  intro E hP hr hs hN
  have ho := h.obj
  have hlt := h.ltp
  simp -dsimp -implicitDefEqProofs [-getElem?_pos, go_sem, hP, ho, hlt]
  refine callB_m (by rw [hr, hs]; exact index_m_sub l (.sref q 0 l.length) _ 224 [.ref H.length 0 0] (fun s => decide (s.ID = id)) (.inr (.inr ⟨q, 170, by rw [encL_len], by rw [List.getElem?_append_left h.ltq]; exact h.subs⟩)) (by omega) en_224 (fun a _ H' hk => isid_m 0 default trivial a H' _ id (hk _ _ (by simp) (by simp)))) hP en_184 ?_
  rintro r H' ⟨rfl, hk⟩
  simp -dsimp -implicitDefEqProofs [-getElem?_pos, go_sem, hP]
  exact ⟨rfl, (kept_push _ (kept_refl _ _)).trans hk⟩
theorem known_m {row src : Option Nat} {H : Heap} {p q : Nat} {credit n d : Int} {l : List TSub} (h : Teller H p q credit n d l) (hl : l.length ≤ 100000) (id : Int) :
    MFun Tryz.prog row src 202 [.ref p 0 0, iv id] H (fun r H' => r = bv (knownB l id) ∧ Kept [] H H') := by
  refine mfun_intro Tryz.func202 rfl (by simp [Tryz.f202]) (by kernel_rfl) (⟨_, H, rfl, kept_refl _ _⟩) ?_
  intro E hP hr hs hN
  by_cases h0 : id = 0
  · have d0 : decide (id = 0) = true := decide_eq_true h0
    simp -dsimp -implicitDefEqProofs [-getElem?_pos, go_sem, hP, d0, knownB]
    exact kept_refl _ _
  · simp -dsimp -implicitDefEqProofs [-getElem?_pos, go_sem, hP, h0, knownB]
    refine callB_m (by rw [hr, hs]; exact place_m h hl id) hP en_213 ?_
    rintro r H' ⟨rfl, hk⟩
    simp -dsimp -implicitDefEqProofs [-getElem?_pos, go_sem, hP, h0, knownB]
    exact hk
theorem agree_two {H H' : Heap} {X : List Nat} {p q : Nat} {o o' : AObj} (hk : Kept X H H') (hp : H[p]? = some (some o)) (hq : H[q]? = some (some o')) (np : p ∉ X) (nq : q ∉ X) : Agree (fun i => decide (i = p) || decide (i = q)) H H' := fun i hi => by
  simp only [Bool.or_eq_true, decide_eq_true_eq] at hi
  rcases hi with rfl | rfl
  · rw [hp, hk _ _ np hp]
  · rw [hq, hk _ _ nq hq]
theorem add_m {row src : Option Nat} {H : Heap} {p q : Nat} {credit n d : Int} {l : List TSub} (h : Teller H p q credit n d l) (hl : l.length ≤ 100000) (hc : 0 ≤ credit ∧ credit ≤ 1000000000000) (hn : (ids l).Nodup) (h0 : 0 ∉ ids l) (hok : okAll credit l = true)
    (id amt : Int) (hid : id = 0 ∨ id ∈ ids l) (ham : -1000000000000 ≤ amt ∧ amt ≤ 1000000000000) :
    MFun Tryz.prog row src 203 [.ref p 0 0, iv id, iv amt] H (fun r H' => r = bv (okAt credit (adj l id amt) id) ∧ Teller H' p q credit n d (adj l id amt) ∧ Kept [q] H H') := by
  have hadj : (adj l id amt).length = l.length := adj_len _ _ _
  refine mfun_intro Tryz.func203 rfl (by simp [Tryz.f203]) (by kernel_rfl) (⟨_, H.set q (some ⟨170, 2, encL TSub.cells (adj l id amt)⟩), rfl, ⟨h.ne, by rw [List.getElem?_set_ne h.ne.symm, hadj]; exact h.obj, by rw [List.getElem?_set_self h.ltq]⟩, kept_set _ (by simp) (kept_refl _ _)⟩) ?_
  intro E hP hr hs hN
  by_cases hz : id = 0
  · subst hz
    have e1 : adj l 0 amt = l := adj_none h0
    have e2 : okAt credit l 0 = true := okAt_none h0
    simp -dsimp -implicitDefEqProofs [-getElem?_pos, go_sem, hP, e1, e2]
    exact ⟨h, kept_refl _ _⟩
  have hm : id ∈ ids l := hid.resolve_left hz
  have ho := h.obj
  have hlt := h.ltp
  rcases placeI_spec l id with ⟨_, h2⟩ | ⟨i, a, hi, ha, hp, _⟩
  · exact absurd hm h2
  simp -dsimp -implicitDefEqProofs [-getElem?_pos, go_sem, hP, hz, ho, hlt]
  have hq := h.subs
  refine adrawB (fun i => decide (i = p) || decide (i = q)) [] hP (by kernel_rfl) (by kernel_rfl) ?_
  simp -dsimp -implicitDefEqProofs [-getElem?_pos, go_sem, hP, ho, hlt, restr_get]
  refine callB_m (by rw [hr, hs]; exact place_m h hl id) hP en_213 ?_
  rintro r H' ⟨rfl, hk⟩
  simp -dsimp -implicitDefEqProofs [-getElem?_pos, go_sem, hP, hp]
  have h' := h.kept hk (by simp) (by simp)
  have ho' := h'.obj
  have hq' := h'.subs
  have hil := (List.getElem?_eq_some_iff.1 hi).1
  have hlq := h'.ltq
  have hlp := h'.ltp
  have hne : ¬ q = p := fun e => h.ne e.symm
  have bnd := okSub_bounds hc (List.all_eq_true.1 hok a (List.mem_of_getElem? hi))
  have wa := wrap_in (a.Balance + amt) (by omega)
  have set1 : (encL TSub.cells l).set i [iv a.ID, iv (a.Balance + amt)] = encL TSub.cells (adj l id amt) := by
    rw [← ha, ← set_adj hn hi, ← encL_set]
    rfl
  have g1 : (adj l id amt)[i]? = some ⟨a.ID, a.Balance + amt⟩ := by rw [adj_get, hi, ← ha]; simp
  have o1 : okAt credit (adj l id amt) id = okSub credit ⟨a.ID, a.Balance + amt⟩ := by
    rw [← ha] at g1 ⊢
    exact okAt_get (by rw [adj_ids]; exact hn) g1
  have fin : ∀ H'', Kept [] (H'.set q (some ⟨170, 2, encL TSub.cells (adj l id amt)⟩)) H'' → Teller H'' p q credit n d (adj l id amt) ∧ Kept [q] H H'' := fun H'' hk2 => by
    have t : Teller (H'.set q (some ⟨170, 2, encL TSub.cells (adj l id amt)⟩)) p q credit n d (adj l id amt) := ⟨h.ne, by rw [List.getElem?_set_ne h.ne.symm, hadj]; exact ho', by rw [List.getElem?_set_self hlq]⟩
    exact ⟨t.kept hk2 (by simp) (by simp), (kept_set _ (by simp) (hk.mono (by simp))).trans (hk2.mono (by simp))⟩
  simp -dsimp -implicitDefEqProofs [-getElem?_pos, go_sem, hP, hz, restr_get, hq', hil]
  refine ⟨agree_two hk ho hq (by simp) (by simp), ?_⟩
  by_cases h1 : id = 1
  · have d1 : decide (id = 1) = true := decide_eq_true h1
    have wn := wrap_in (-credit) (by omega)
    simp -dsimp -implicitDefEqProofs [-getElem?_pos, go_sem, hP, hp, hil, hq', hi, TSub.cells, wa, hlq, set1, d1, ho', hne, hlp, wn, g1]
    refine callB_pure (among_pf (a.Balance + amt) (-credit) 1000000000000000) hP en_175 (args_same (by simp -dsimp -implicitDefEqProofs [-getElem?_pos, go_sem])) .sc ?_
    simp -dsimp -implicitDefEqProofs [-getElem?_pos, go_sem, hP]
    refine ⟨?_, fin _ (kept_refl _ _)⟩
    rw [o1]
    simp [okSub, amongB, ha, h1]
  · simp -dsimp -implicitDefEqProofs [-getElem?_pos, go_sem, hP, hp, hil, hq', hi, TSub.cells, wa, hlq, set1, h1, g1]
    refine callB_pure (among_pf (a.Balance + amt) 0 1000000000000000) hP en_175 (args_same (by simp -dsimp -implicitDefEqProofs [-getElem?_pos, go_sem])) .sc ?_
    simp -dsimp -implicitDefEqProofs [-getElem?_pos, go_sem, hP]
    refine ⟨?_, fin _ (kept_refl _ _)⟩
    rw [o1]
    simp [okSub, amongB, ha, h1]
set_option maxHeartbeats 1000000 in
theorem tpost_m {row src : Option Nat} {H : Heap} {p q : Nat} {credit n d : Int} {l : List TSub} (h : Teller H p q credit n d l) (hl : l.length ≤ 100000) (hc : 0 ≤ credit ∧ credit ≤ 1000000000000) (hn : (ids l).Nodup) (h0 : 0 ∉ ids l) (hok : okAll credit l = true)
    (hnn : 0 ≤ n ∧ n ≤ 100000) (e : TEntry) :
    MFun Tryz.prog row src 177 [.ref p 0 0, .agg e.cells] H (fun r H' => r = iv (postS credit n d l e).1 ∧ ((postS credit n d l e).1 = 0 → Teller H' p q credit e.Number e.Day (postS credit n d l e).2) ∧ Kept [p, q] H H') := by
  have post : ∃ r H', r = iv (postS credit n d l e).1 ∧ ((postS credit n d l e).1 = 0 → Teller H' p q credit e.Number e.Day (postS credit n d l e).2) ∧ Kept [p, q] H H' :=
    ⟨_, (H.set q (some ⟨170, 2, encL TSub.cells (postS credit n d l e).2⟩)).set p (some ⟨198, 4, [[iv credit, iv e.Number, iv e.Day, .sref q 0 (postS credit n d l e).2.length]]⟩), rfl, fun _ => ⟨h.ne, by rw [List.getElem?_set_self (by simp; exact h.ltp)], by rw [List.getElem?_set_ne h.ne, List.getElem?_set_self h.ltq]⟩, kept_set _ (by simp) (kept_set _ (by simp) (kept_refl _ _))⟩
  obtain ⟨C, hC⟩ : ∃ C : AV → Heap → Prop, C = fun r H' => r = iv (postS credit n d l e).1 ∧ ((postS credit n d l e).1 = 0 → Teller H' p q credit e.Number e.Day (postS credit n d l e).2) ∧ Kept [p, q] H H' := ⟨_, rfl⟩
  rw [← hC]
  have post : ∃ r H', C r H' := hC ▸ post
  refine mfun_intro Tryz.func177 rfl (by simp [Tryz.f177]) (by kernel_rfl) (post) ?_
  intro E hP hr hs hN
  have ho := h.obj
  have hlt := h.ltp
  have wn := wrap_in (n + 1) (by omega)
  have bad : ∀ (c : Int) (H'' : Heap), (postS credit n d l e).1 = c → c ≠ 0 → Kept [p, q] H H'' → C (iv c) H'' := fun c H'' h1 h2 h3 => by
    rw [hC]
    exact ⟨by rw [h1], fun h4 => absurd (h1.symm.trans h4) h2, h3⟩
  have kb := kept_push (X := [p, q]) (some ⟨94, 6, [[iv e.Number, iv e.Day, iv e.From, iv e.To, iv e.Amount, iv e.Ref]]⟩) (kept_refl [p, q] H)
  have hB : Teller (H ++ [some ⟨94, 6, [[iv e.Number, iv e.Day, iv e.From, iv e.To, iv e.Amount, iv e.Ref]]⟩]) p q credit n d l := h.kept (X := []) (kept_push _ (kept_refl _ _)) (by simp) (by simp)
  simp -dsimp -implicitDefEqProofs [-getElem?_pos, go_sem, hP, cE]
  refine adrawB (fun _ => true) [] hP (by kernel_rfl) (by kernel_rfl) ?_
  simp -dsimp -implicitDefEqProofs [-getElem?_pos, go_sem, hP, ho, hlt, wn]
  by_cases c1 : e.Number = n + 1
  rotate_left
  · have b1 : badNum n e = true := by simp [badNum, c1]
    simp -dsimp -implicitDefEqProofs [-getElem?_pos, go_sem, hP, c1]
    exact bad 65 _ (by rw [postS, if_pos b1]) (by omega) kb
  have b1 : ¬ badNum n e = true := by simp [badNum, c1]
  have d1 : decide (e.Number = n + 1) = true := decide_eq_true c1
  simp -dsimp -implicitDefEqProofs [-getElem?_pos, go_sem, hP, d1]
  refine adrawB (fun _ => true) [] hP (by kernel_rfl) (by kernel_rfl) ?_
  simp -dsimp -implicitDefEqProofs [-getElem?_pos, go_sem, hP, ho, hlt]
  refine callB_pure (among_pf e.Day d 36000) hP en_175 (args_same (by simp -dsimp -implicitDefEqProofs [-getElem?_pos, go_sem])) .sc ?_
  by_cases c2 : amongB e.Day d 36000 = true
  rotate_left
  · have b2 : badDay d e = true := by simp [badDay, c2]
    simp -dsimp -implicitDefEqProofs [-getElem?_pos, go_sem, hP, c2, agree_refl]
    exact bad 8 _ (by rw [postS, if_neg b1, if_pos b2]) (by omega) kb
  have b2 : ¬ badDay d e = true := by simp [badDay, c2]
  simp -dsimp -implicitDefEqProofs [-getElem?_pos, go_sem, hP, c2, agree_refl]
  refine callB_pure (positive_pf e.Amount) hP en_201 (args_same (by simp -dsimp -implicitDefEqProofs [-getElem?_pos, go_sem])) .sc ?_
  by_cases c3 : (decide (0 < e.Amount) && vB e.Amount) = true
  rotate_left
  · have b3 : badAmt e = true := by simp [badAmt, c3]
    have c3 : (decide (0 < e.Amount) && vB e.Amount) = false := by simpa using c3
    simp -dsimp -implicitDefEqProofs [-getElem?_pos, go_sem, hP, c3]
    exact bad 2 _ (by rw [postS, if_neg b1, if_neg b2, if_pos b3]) (by omega) kb
  simp -dsimp -implicitDefEqProofs [-getElem?_pos, go_sem, hP, c3]
  refine callB_pure (among_pf e.Ref 0 1000000) hP en_175 (args_same (by simp -dsimp -implicitDefEqProofs [-getElem?_pos, go_sem])) .sc ?_
  by_cases c4 : amongB e.Ref 0 1000000 = true
  rotate_left
  · have b3 : badAmt e = true := by simp [badAmt, c4]
    simp -dsimp -implicitDefEqProofs [-getElem?_pos, go_sem, hP, c3, c4]
    exact bad 2 _ (by rw [postS, if_neg b1, if_neg b2, if_pos b3]) (by omega) kb
  have b3 : ¬ badAmt e = true := by simp [badAmt, c3, c4]
  have am : 0 < e.Amount ∧ e.Amount ≤ 1000000000000 := by
    simp only [Bool.and_eq_true, decide_eq_true_eq, vB, amongB_iff] at c3
    omega
  have p60 : badSub l e = true → (postS credit n d l e).1 = 60 := fun h => by rw [postS, if_neg b1, if_neg b2, if_neg b3, if_pos h]
  simp -dsimp -implicitDefEqProofs [-getElem?_pos, go_sem, hP, c3, c4]
  by_cases c5 : e.From = e.To
  · have d5 : decide (e.From = e.To) = true := decide_eq_true c5
    simp -dsimp -implicitDefEqProofs [-getElem?_pos, go_sem, hP, d5]
    exact bad 60 _ (p60 (by simp [badSub, c5])) (by omega) kb
  simp -dsimp -implicitDefEqProofs [-getElem?_pos, go_sem, hP, c5]
  refine callB_m (by rw [hr, hs]; exact known_m hB hl e.From) hP en_202 ?_
  rintro r H1 ⟨rfl, hk1⟩
  have h1 := hB.kept hk1 (by simp) (by simp)
  have o1 := hk1 H.length ⟨94, 6, [[iv e.Number, iv e.Day, iv e.From, iv e.To, iv e.Amount, iv e.Ref]]⟩ (by simp) (by simp)
  have l1 := (List.getElem?_eq_some_iff.1 o1).1
  by_cases c6 : knownB l e.From = true
  rotate_left
  · simp -dsimp -implicitDefEqProofs [-getElem?_pos, go_sem, hP, c5, c6]
    exact bad 60 _ (p60 (by simp [badSub, c6])) (by omega) (kb.trans (hk1.mono (by simp)))
  simp -dsimp -implicitDefEqProofs [-getElem?_pos, go_sem, hP, c5, c6, o1, l1]
  refine callB_m (by rw [hr, hs]; exact known_m h1 hl e.To) hP en_202 ?_
  rintro r H2 ⟨rfl, hk2⟩
  have h2 := h1.kept hk2 (by simp) (by simp)
  have o2 := hk2 _ _ (by simp) o1
  have l2 := (List.getElem?_eq_some_iff.1 o2).1
  have k2 := kb.trans ((hk1.trans hk2).mono (Y := [p, q]) (by simp))
  by_cases c7 : knownB l e.To = true
  rotate_left
  · simp -dsimp -implicitDefEqProofs [-getElem?_pos, go_sem, hP, c5, c6, c7]
    exact bad 60 _ (p60 (by simp [badSub, c7])) (by omega) k2
  have b4 : ¬ badSub l e = true := by simp [badSub, c5, c6, c7]
  have pS : postS credit n d l e = if okAt credit (adj l e.From (-e.Amount)) e.From = false then (61, adj l e.From (-e.Amount)) else
      if okAt credit (adj (adj l e.From (-e.Amount)) e.To e.Amount) e.To = false then (61, adj (adj l e.From (-e.Amount)) e.To e.Amount) else (0, adj (adj l e.From (-e.Amount)) e.To e.Amount) := by
    rw [postS, if_neg b1, if_neg b2, if_neg b3, if_neg b4]
  have wa := wrap_in (-e.Amount) (by omega)
  simp -dsimp -implicitDefEqProofs [-getElem?_pos, go_sem, hP, c5, c6, c7, o2, l2, wa]
  refine callB_m (by rw [hr, hs]; exact add_m h2 hl hc hn h0 hok e.From (-e.Amount) ((knownB_iff _ _).1 c6) (by omega)) hP en_203 ?_
  rintro r H3 ⟨rfl, h3, hk3⟩
  have nq : ¬ H.length = q := by have := h.ltq; omega
  have np : ¬ H.length = p := by have := h.ltp; omega
  have o3 := hk3 _ _ (by simp [nq]) o2
  have l3 := (List.getElem?_eq_some_iff.1 o3).1
  have k3 := k2.trans (hk3.mono (Y := [p, q]) (by simp))
  by_cases c8 : okAt credit (adj l e.From (-e.Amount)) e.From = true
  rotate_left
  · have c8 : okAt credit (adj l e.From (-e.Amount)) e.From = false := by simpa using c8
    simp -dsimp -implicitDefEqProofs [-getElem?_pos, go_sem, hP, c8]
    exact bad 61 _ (by rw [pS, if_pos c8]) (by omega) k3
  rw [if_neg (by simp [c8])] at pS
  simp -dsimp -implicitDefEqProofs [-getElem?_pos, go_sem, hP, c8, o3, l3]
  refine callB_m (by rw [hr, hs]; exact add_m h3 (by rw [adj_len]; omega) hc (by rw [adj_ids]; exact hn) (by rw [adj_ids]; exact h0) (okAll_adj hok c8) e.To e.Amount (by rw [adj_ids]; exact (knownB_iff _ _).1 c7) (by omega)) hP en_203 ?_
  rintro r H4 ⟨rfl, h4, hk4⟩
  have o4 := hk4 _ _ (by simp [nq]) o3
  have l4 := (List.getElem?_eq_some_iff.1 o4).1
  have k4 := k3.trans (hk4.mono (Y := [p, q]) (by simp))
  by_cases c9 : okAt credit (adj (adj l e.From (-e.Amount)) e.To e.Amount) e.To = true
  rotate_left
  · have c9 : okAt credit (adj (adj l e.From (-e.Amount)) e.To e.Amount) e.To = false := by simpa using c9
    simp -dsimp -implicitDefEqProofs [-getElem?_pos, go_sem, hP, c8, c9]
    exact bad 61 _ (by rw [pS, if_pos c9]) (by omega) k4
  rw [if_neg (by simp [c9])] at pS
  have ho4 := h4.obj
  have hp4 := h4.ltp
  simp -dsimp -implicitDefEqProofs [-getElem?_pos, go_sem, hP, c8, c9]
  refine adrawB (fun i => decide (i = H.length)) [6, 7, 9, 10, 11] hP (by kernel_rfl) (by kernel_rfl) ?_
  simp -dsimp -implicitDefEqProofs [-getElem?_pos, go_sem, hP, o4, l4, ho4, hp4]
  refine ⟨fun i hi => ?_, ?_⟩
  · simp only [decide_eq_true_eq] at hi
    subst hi
    rw [List.getElem?_set_ne (Ne.symm np)]
  rw [hC, pS]
  refine ⟨rfl, fun _ => ⟨h.ne, by rw [List.getElem?_set_self hp4], by rw [List.getElem?_set_ne h.ne]; exact h4.subs⟩, kept_set _ (by simp) k4⟩
set_option maxHeartbeats 1000000 in
theorem fresh_m {row src : Option Nat} (a : TAccount) (H : Heap) (hl : a.Subs.length ≤ 100000) (hne : a.Subs ≠ []) :
    MFun Tryz.prog row src 176 [.agg a.cells] H (fun r H' => ∃ p q, r = .ref p 0 0 ∧ H.length ≤ p ∧ H.length ≤ q ∧ Teller H' p q a.Credit 0 0 (zeroS a.Subs) ∧ Kept [] H H') := by
  obtain ⟨C, hC⟩ : ∃ C : AV → Heap → Prop, C = fun r H' => ∃ p q, r = .ref p 0 0 ∧ H.length ≤ p ∧ H.length ≤ q ∧ Teller H' p q a.Credit 0 0 (zeroS a.Subs) ∧ Kept [] H H' := ⟨_, rfl⟩
  rw [← hC]
  have ex : ∃ r H', C r H' := ⟨.ref H.length 0 0, H ++ [some ⟨198, 4, [[iv a.Credit, iv 0, iv 0, .sref (H.length + 1) 0 (zeroS a.Subs).length]]⟩, some ⟨170, 2, encL TSub.cells (zeroS a.Subs)⟩], by
    rw [hC]
    exact ⟨H.length, H.length + 1, rfl, Nat.le_refl _, by omega, ⟨by omega, by simp, by rw [List.getElem?_append_right (by omega)]; simp⟩, kept_app _ _ _⟩⟩
  refine mfun_intro Tryz.func176 rfl (by simp [Tryz.f176]) (by kernel_rfl) (ex) ?_
  intro E hP hr hs hN
  simp -dsimp -implicitDefEqProofs [-getElem?_pos, go_sem, hP, cA]
  obtain ⟨I, hI⟩ : ∃ I : Nat → St → Prop, I = fun m s => ∃ (k : Nat) (x : AV), k ≤ a.Subs.length ∧ m = a.Subs.length - k ∧ s.t 3 = .ref (H.length + 1) 0 0 ∧ s.t 11 = subsL a.Subs ∧ s.t 12 = iv a.Subs.length ∧ s.t 13 = iv k ∧ s.H[H.length + 1]? = some (some ⟨198, 4, [[iv a.Credit, iv 0, iv 0, x]]⟩) ∧ Grown (H.length + 2) s.H x 170 2 (encL TSub.cells (zeroS (a.Subs.take k))) ∧ Kept [] H s.H := ⟨_, rfl⟩
  refine aloop0 I (a.Subs.length) (by rw [hN]; rfl) ?_ ?_
  · rw [hI]
    exact ⟨0, .nil, by omega, by omega, by simp -dsimp -implicitDefEqProofs [-getElem?_pos, go_sem], by simp -dsimp -implicitDefEqProofs [-getElem?_pos, go_sem], by simp -dsimp -implicitDefEqProofs [-getElem?_pos, go_sem], by simp -dsimp -implicitDefEqProofs [-getElem?_pos, go_sem], by simp -dsimp -implicitDefEqProofs [-getElem?_pos, go_sem], .inl ⟨rfl, rfl⟩, by simp -dsimp -implicitDefEqProofs [-getElem?_pos, go_sem]; exact kept_app _ _ _⟩
  intro m s hs'
  rw [hI] at hs'
  obtain ⟨k, x, hk, hm, t3, t11, t12, t13, h1, hg, hK⟩ := hs'
  have lt1 := (List.getElem?_eq_some_iff.1 h1).1
  simp -dsimp -implicitDefEqProofs [-getElem?_pos, go_sem, hP, t12, t13]
  refine condP (fun h => ?_) (fun h => ?_)
  · have hk : k < a.Subs.length := by simpa using h
    obtain ⟨y, hy⟩ : ∃ y, a.Subs[k]? = some y := ⟨_, List.getElem?_eq_getElem hk⟩
    have wk := wrap_in ((k : Int) + 1) (by omega)
    have e1 : zeroS (a.Subs.take (k + 1)) = zeroS (a.Subs.take k) ++ [⟨y.ID, 0⟩] := by rw [List.take_add_one, hy]; simp [zeroS]
    have nl : (zeroS (a.Subs.take k)).length = k := by rw [zeroS_len, List.length_take]; omega
    simp -dsimp -implicitDefEqProofs [-getElem?_pos, go_sem, hP, t11, t13, hy, TSub.cells]
    rcases hg with ⟨rfl, hg⟩ | ⟨id, h2, rfl, hg⟩
    · refine adrawB (fun i => decide (i = H.length + 1) || decide (i = s.H.length)) [12] hP (by kernel_rfl) (by kernel_rfl) ?_
      simp -dsimp -implicitDefEqProofs [-getElem?_pos, go_sem, hP, t3, h1, lt1, t13, wk]
      refine ⟨fun i hi => ?_, a.Subs.length - (k + 1), by omega, ?_⟩
      · simp only [Bool.or_eq_true, decide_eq_true_eq] at hi
        rcases hi with rfl | rfl <;> simp [-getElem?_pos, List.getElem?_append, lt1] <;> rfl
      rw [hI]
      refine ⟨k + 1, .sref (s.H.length + 1) 0 1, by omega, rfl, by simp -dsimp -implicitDefEqProofs [-getElem?_pos, go_sem, t3], by simp -dsimp -implicitDefEqProofs [-getElem?_pos, go_sem, t11], by simp -dsimp -implicitDefEqProofs [-getElem?_pos, go_sem, t12], by simp -dsimp -implicitDefEqProofs [-getElem?_pos, go_sem], by simp -dsimp -implicitDefEqProofs [-getElem?_pos, go_sem, lt1], .inr ⟨s.H.length + 1, by omega, ?_, ?_⟩, ?_⟩
      · rw [e1, ← encL_snoc, hg]; rfl
      · rw [e1, ← encL_snoc, hg]
        simp -dsimp -implicitDefEqProofs [-getElem?_pos, go_sem, TSub.cells]
      · simp -dsimp -implicitDefEqProofs [-getElem?_pos, go_sem]
        exact (kept_new _ (by omega) hK).trans (kept_app _ _ _)
    · have ne1 : ¬ id = H.length + 1 := by omega
      have lti := (List.getElem?_eq_some_iff.1 hg).1
      have ne2 : ¬ id = s.H.length := by omega
      refine adrawB (fun i => decide (i = H.length + 1) || decide (i = s.H.length)) [12] hP (by kernel_rfl) (by kernel_rfl) ?_
      simp -dsimp -implicitDefEqProofs [-getElem?_pos, go_sem, hP, t3, h1, lt1, t13, wk, hg, lti, ne1, nl]
      refine ⟨by omega, by omega, fun i hi => ?_, a.Subs.length - (k + 1), by omega, ?_⟩
      · simp only [Bool.or_eq_true, decide_eq_true_eq] at hi
        rcases hi with rfl | rfl <;> simp [-getElem?_pos, List.getElem?_append, List.getElem?_set, lt1, ne1, ne2] <;> rfl
      rw [hI]
      refine ⟨k + 1, .sref (s.H.length + 1) 0 (k + 1), by omega, rfl, by simp -dsimp -implicitDefEqProofs [-getElem?_pos, go_sem, t3], by simp -dsimp -implicitDefEqProofs [-getElem?_pos, go_sem, t11], by simp -dsimp -implicitDefEqProofs [-getElem?_pos, go_sem, t12], by simp -dsimp -implicitDefEqProofs [-getElem?_pos, go_sem], by simp -dsimp -implicitDefEqProofs [-getElem?_pos, go_sem, lt1, ne1], .inr ⟨s.H.length + 1, by omega, ?_, ?_⟩, ?_⟩
      · rw [encL_len, zeroS_len, List.length_take]
        congr 1
        omega
      · rw [e1, ← encL_snoc]
        simp -dsimp -implicitDefEqProofs [-getElem?_pos, go_sem, TSub.cells]
      · simp -dsimp -implicitDefEqProofs [-getElem?_pos, go_sem]
        exact ((kept_new _ (by omega) (kept_new _ (by omega) hK)).trans (kept_app _ _ _))
  · have hk : k = a.Subs.length := by simp at h; omega
    subst hk
    rw [List.take_length] at hg
    simp -dsimp -implicitDefEqProofs [-getElem?_pos, go_sem, hP, t3]
    rw [hC]
    rcases hg with ⟨rfl, hg⟩ | ⟨id, h2, rfl, hg⟩
    · exfalso
      apply hne
      have := congrArg List.length hg
      rw [encL_len, zeroS_len] at this
      exact List.eq_nil_of_length_eq_zero this
    · exact ⟨H.length + 1, id, rfl, by omega, by omega, ⟨by omega, by rw [h1, encL_len], hg⟩, hK⟩
open Go.PA
open Go.RowKit
theorem kept_high {H H' H'' : Heap} {X : List Nat} (h : Kept [] H H') (k : Kept X H' H'') (hX : ∀ i, i ∈ X → H.length ≤ i) : Kept [] H H'' := fun j o _ ho => by
  refine k j o (fun hj => ?_) (h j o (by simp) ho)
  have := hX j hj
  have := (List.getElem?_eq_some_iff.1 ho).1
  omega
def replayW (a : TAccount) (w : TEntry → Bool) : Option (Int × Int × List TSub) := replayS a.Credit 0 0 (zeroS a.Subs) (a.Entries.takeWhile w)
set_option maxHeartbeats 1000000 in
theorem replay_m {row src : Option Nat} (a : TAccount) (H : Heap) (g : FuncId) (caps : List AV) (w : TEntry → Bool) (hl : a.Subs.length ≤ 100000) (he : a.Entries.length ≤ 100000) (hne : a.Subs ≠ []) (hc : 0 ≤ a.Credit ∧ a.Credit ≤ 1000000000000) (hn : (ids a.Subs).Nodup) (h0 : 0 ∉ ids a.Subs)
    (hen : enterable Tryz.prog g = true) (hg : ∀ e, e ∈ a.Entries → ∀ H', Kept [] H H' → MFun Tryz.prog row src g (.agg e.cells :: caps) H' (fun r H'' => r = bv (w e) ∧ Kept [] H' H'')) :
    MFun Tryz.prog row src 142 [.agg a.cells, .fn g caps] H (fun r H' => ∃ p q, r = .tup [.ref p 0 0, bv (replayW a w).isSome] ∧ H.length ≤ p ∧ H.length ≤ q ∧ (∀ x, replayW a w = some x → Teller H' p q a.Credit x.1 x.2.1 x.2.2) ∧ Kept [] H H') := by
  obtain ⟨C, hC⟩ : ∃ C : AV → Heap → Prop, C = fun r H' => ∃ p q, r = .tup [.ref p 0 0, bv (replayW a w).isSome] ∧ H.length ≤ p ∧ H.length ≤ q ∧ (∀ x, replayW a w = some x → Teller H' p q a.Credit x.1 x.2.1 x.2.2) ∧ Kept [] H H' := ⟨_, rfl⟩
  rw [← hC]
  obtain ⟨R, hR⟩ : ∃ R, R = replayW a w := ⟨_, rfl⟩
  rw [← hR] at hC
  have ex : ∃ r H', C r H' := by
    rw [hC]
    cases R with
    | none => exact ⟨_, H, H.length, H.length, rfl, Nat.le_refl _, Nat.le_refl _, by simp, kept_refl _ _⟩
    | some x => exact ⟨_, H ++ [some ⟨198, 4, [[iv a.Credit, iv x.1, iv x.2.1, .sref (H.length + 1) 0 x.2.2.length]]⟩, some ⟨170, 2, encL TSub.cells x.2.2⟩], H.length, H.length + 1, rfl, Nat.le_refl _, by omega, fun y hy => by
        simp only [Option.some.injEq] at hy
        subst hy
        exact ⟨by omega, by simp, by rw [List.getElem?_append_right (by omega)]; simp⟩, kept_app _ _ _⟩
  refine mfun_intro Tryz.func142 rfl (by simp [Tryz.f142]) (by kernel_rfl) (ex) ?_
  intro E hP hr hs hN
  have ia : Imm (.agg [iv a.Credit, subsL a.Subs, entsL a.Entries]) := imm_acc a
  have fr := fun (row src : Option Nat) (H : Heap) => fresh_m (row := row) (src := src) a H hl hne
  rw [cA] at fr
  simp -dsimp -implicitDefEqProofs [-getElem?_pos, go_sem, hP, cA]
  refine callB_m (fr _ _ _) hP en_176 ?_
  rintro r H1 ⟨p, q, rfl, hp, hq, ht, hk1⟩
  have ob := hk1 H.length ⟨28, 3, [[iv a.Credit, subsL a.Subs, entsL a.Entries]]⟩ (by simp) (by simp)
  have lb := (List.getElem?_eq_some_iff.1 ob).1
  rw [List.length_append, List.length_singleton] at hp hq
  simp -dsimp -implicitDefEqProofs [-getElem?_pos, go_sem, hP, ob, lb]
  obtain ⟨I, hI⟩ : ∃ I : Nat → St → Prop, I = fun m s => ∃ (k : Nat) (d : Int) (l : List TSub), k ≤ a.Entries.length ∧ m = a.Entries.length - k ∧ R = replayS a.Credit k d l ((a.Entries.drop k).takeWhile w) ∧ okAll a.Credit l = true ∧ ids l = ids a.Subs ∧ Teller s.H p q a.Credit k d l ∧ Kept [] H s.H ∧ s.t 1 = .fn g caps ∧ s.t 6 = .ref p 0 0 ∧ s.t 12 = entsL a.Entries ∧ s.t 13 = iv a.Entries.length ∧ s.t 14 = iv k := ⟨_, rfl⟩
  refine aloop0 I (a.Entries.length) (by rw [hN]; rfl) ?_ ?_
  · rw [hI]
    exact ⟨0, 0, zeroS a.Subs, by omega, by omega, by rw [hR]; simp [replayW], zeroS_all hc.1 _, zeroS_ids _, by simp -dsimp -implicitDefEqProofs [-getElem?_pos, go_sem]; exact ht, by simp -dsimp -implicitDefEqProofs [-getElem?_pos, go_sem]; exact (kept_app _ _ _).trans hk1, by simp -dsimp -implicitDefEqProofs [-getElem?_pos, go_sem], by simp -dsimp -implicitDefEqProofs [-getElem?_pos, go_sem], by simp -dsimp -implicitDefEqProofs [-getElem?_pos, go_sem], by simp -dsimp -implicitDefEqProofs [-getElem?_pos, go_sem], by simp -dsimp -implicitDefEqProofs [-getElem?_pos, go_sem]⟩
  clear ht hk1 ob lb
  intro m s hs'
  rw [hI] at hs'
  obtain ⟨k, d, l, hk, hm, hRr, hok, hids, ht, hK, t1, t6, t12, t13, t14⟩ := hs'
  have fin : ∀ b : Bool, R.isSome = b → (∀ x, R = some x → Teller s.H p q a.Credit x.1 x.2.1 x.2.2) → C (.tup [.ref p 0 0, bv b]) s.H := fun b hb hx => by
    rw [hC]
    exact ⟨p, q, by rw [hb], by omega, by omega, hx, hK⟩
  simp -dsimp -implicitDefEqProofs [-getElem?_pos, go_sem, hP, t13, t14]
  refine condP (fun h => ?_) (fun h => ?_)
  · have hk : k < a.Entries.length := by simpa using h
    obtain ⟨e, hee⟩ : ∃ e, a.Entries[k]? = some e := ⟨_, List.getElem?_eq_getElem hk⟩
    have wk := wrap_in ((k : Int) + 1) (by omega)
    have hd : a.Entries.drop k = e :: a.Entries.drop (k + 1) := by
      rw [List.getElem?_eq_getElem hk] at hee
      rw [List.drop_eq_getElem_cons hk, Option.some.inj hee]
    rw [hd] at hRr
    have hge := hg e (List.mem_of_getElem? hee) _ (hK.trans (kept_push (some ⟨94, 6, [[iv e.Number, iv e.Day, iv e.From, iv e.To, iv e.Amount, iv e.Ref]]⟩) (kept_refl _ s.H)))
    rw [cE] at hge
    simp -dsimp -implicitDefEqProofs [-getElem?_pos, go_sem, hP, t12, t14, hee, cE, t1]
    refine callB_m (by rw [hr, hs]; exact hge) hP hen ?_
    rintro r H2 ⟨rfl, hk2⟩
    have o2 := hk2 s.H.length ⟨94, 6, [[iv e.Number, iv e.Day, iv e.From, iv e.To, iv e.Amount, iv e.Ref]]⟩ (by simp) (by simp)
    have l2 := (List.getElem?_eq_some_iff.1 o2).1
    have k2 : Kept [] s.H H2 := (kept_app _ _ _).trans hk2
    by_cases hw : w e = true
    rotate_left
    · rw [List.takeWhile_cons_of_neg hw] at hRr
      simp -dsimp -implicitDefEqProofs [-getElem?_pos, go_sem, hP, hw, t6]
      rw [hC]
      have hRr : R = some ((k : Int), d, l) := hRr
      refine ⟨p, q, by rw [hRr]; rfl, by omega, by omega, fun x hx => ?_, hK.trans k2⟩
      rw [hRr] at hx
      simp only [Option.some.injEq] at hx
      subst hx
      exact ht.kept k2 (by simp) (by simp)
    rw [List.takeWhile_cons_of_pos hw, replayS] at hRr
    have tp := tpost_m (row := row) (src := src) (ht.kept k2 (by simp) (by simp)) (by rw [← ids_len, hids, ids_len]; omega) hc (by rw [hids]; exact hn) (by rw [hids]; exact h0) hok (by omega) e
    rw [cE] at tp
    simp -dsimp -implicitDefEqProofs [-getElem?_pos, go_sem, hP, hw, t6, o2, l2]
    refine callB_m (by rw [hr, hs]; exact tp) hP en_177 ?_
    rintro r H3 ⟨rfl, ht3, hk3⟩
    have K3 : Kept [] H H3 := kept_high (hK.trans k2) hk3 (fun i hi => by simp at hi; omega)
    by_cases hp0 : (postS a.Credit k d l e).1 = 0
    · rw [if_pos hp0] at hRr
      obtain ⟨q1, q2, q3, _⟩ := postS_ok hp0
      simp -dsimp -implicitDefEqProofs [-getElem?_pos, go_sem, hP, hp0, t14, wk]
      refine ⟨a.Entries.length - (k + 1), by omega, ?_⟩
      rw [hI]
      rw [q1] at hRr
      refine ⟨k + 1, e.Day, (postS a.Credit k d l e).2, by omega, rfl, hRr, postS_all hp0 hok, (postS_ids _ _ _ _ _).trans hids, ?_, by simp -dsimp -implicitDefEqProofs [-getElem?_pos, go_sem]; exact K3, by simp -dsimp -implicitDefEqProofs [-getElem?_pos, go_sem, t1], by simp -dsimp -implicitDefEqProofs [-getElem?_pos, go_sem, t6], by simp -dsimp -implicitDefEqProofs [-getElem?_pos, go_sem, t12], by simp -dsimp -implicitDefEqProofs [-getElem?_pos, go_sem, t13], by simp -dsimp -implicitDefEqProofs [-getElem?_pos, go_sem]⟩
      simp -dsimp -implicitDefEqProofs [-getElem?_pos, go_sem]
      have := ht3 hp0
      rw [q1] at this
      exact this
    · rw [if_neg hp0] at hRr
      simp -dsimp -implicitDefEqProofs [-getElem?_pos, go_sem, hP, hp0, t6]
      rw [hC]
      exact ⟨p, q, by rw [hRr]; rfl, by omega, by omega, fun x hx => (by rw [hRr] at hx; cases hx), K3⟩
  · have hk : k = a.Entries.length := by simp at h; omega
    subst hk
    rw [List.drop_length] at hRr
    have hRr : R = some ((a.Entries.length : Int), d, l) := hRr
    simp -dsimp -implicitDefEqProofs [-getElem?_pos, go_sem, hP, t6]
    refine fin true (by rw [hRr]; rfl) fun x hx => ?_
    rw [hRr] at hx
    simp only [Option.some.injEq] at hx
    subst hx
    exact ht
theorem all_m {row src : Option Nat} (e : TEntry) (H : Heap) : MFun Tryz.prog row src 143 [.agg e.cells] H (fun r H' => r = bv true ∧ Kept [] H H') := by
  refine mfun_intro Tryz.func143 rfl (by simp [Tryz.f143]) (by kernel_rfl) (⟨_, H, rfl, kept_refl _ _⟩) ?_
  intro E hP hr hs hN
  simp -dsimp -implicitDefEqProofs [-getElem?_pos, go_sem, hP, TEntry.cells]
  exact kept_app _ _ _
theorem takeWhile_true {α : Type} (l : List α) : l.takeWhile (fun _ => true) = l := takeWhile_all _ _ fun _ _ => rfl
theorem check_prog {a : TAccount} (h1 : ¬ (20 < a.Subs.length ∨ 400 < a.Entries.length)) (h2 : (vB a.Credit && numB (ids a.Subs)) = true) :
    checkA a = (replayW a fun _ => true).elim 62 (fun r => if r.2.2 = a.Subs then 0 else 62) := by
  have h3 : ¬ (!vB a.Credit || !numB (ids a.Subs)) = true := by
    simp only [Bool.and_eq_true] at h2
    simp [h2.1, h2.2]
  rw [checkA, if_neg h1, if_neg h3, replayW, takeWhile_true]
  cases replayS a.Credit 0 0 (zeroS a.Subs) a.Entries <;> rfl
set_option maxHeartbeats 1000000 in
theorem check_pf (a : TAccount) (hl : a.Subs.length ≤ 100000) (he : a.Entries.length ≤ 100000) : PFun Tryz.prog none none 89 [.agg a.cells] (· = iv (checkA a)) := by
  refine pfun_intro Tryz.func89 rfl (by simp [Tryz.f89]) (by kernel_rfl) ?_
  intro E hP hr hs hW hN
  by_cases c1 : 20 < a.Subs.length
  · have d1 : decide ((20 : Int) < a.Subs.length) = true := decide_eq_true (by omega)
    have : checkA a = 3 := by rw [checkA, if_pos (.inl c1)]
    simp -dsimp -implicitDefEqProofs [-getElem?_pos, go_sem, hP, cA, d1, this]
  have d1 : decide ((20 : Int) < a.Subs.length) = false := decide_eq_false (by omega)
  by_cases c2 : 400 < a.Entries.length
  · have d2 : decide ((400 : Int) < a.Entries.length) = true := decide_eq_true (by omega)
    have : checkA a = 3 := by rw [checkA, if_pos (.inr c2)]
    simp -dsimp -implicitDefEqProofs [-getElem?_pos, go_sem, hP, cA, d1, d2, this]
  have d2 : decide ((400 : Int) < a.Entries.length) = false := decide_eq_false (by omega)
  simp -dsimp -implicitDefEqProofs [-getElem?_pos, go_sem, hP, cA, d1, d2]
  refine callB_pure (valid_pf a.Credit) hP en_139 (args_same (by simp -dsimp -implicitDefEqProofs [-getElem?_pos, go_sem])) .sc ?_
  by_cases c3 : vB a.Credit = true
  rotate_left
  · have : checkA a = 62 := by rw [checkA, if_neg (by omega), if_pos (by simp [c3])]
    simp -dsimp -implicitDefEqProofs [-getElem?_pos, go_sem, hP, c3, this]
  simp -dsimp -implicitDefEqProofs [-getElem?_pos, go_sem, hP, c3]
  refine callB_is ((numbers_pf a.Subs hl).lift _ _) hP en_141 (by simp [imm_subs]) (imm_nums _) ?_
  simp -dsimp -implicitDefEqProofs [-getElem?_pos, go_sem, hP, c3]
  refine callB_pure (numbered_pf (ids a.Subs) (by rw [ids_len]; omega)) hP en_140 (args_imm (imm_nums _) (args_nil.2 trivial)) .sc ?_
  by_cases c4 : numB (ids a.Subs) = true
  rotate_left
  · have : checkA a = 62 := by rw [checkA, if_neg (by omega), if_pos (by simp [c4])]
    simp -dsimp -implicitDefEqProofs [-getElem?_pos, go_sem, hP, c3, c4, this]
  obtain ⟨hnd, hz0, hhd⟩ := numB_facts c4
  have hcr : 0 ≤ a.Credit ∧ a.Credit ≤ 1000000000000 := by simpa [vB, amongB] using c3
  have hchk := check_prog (a := a) (by omega) (by simp [c3, c4])
  have hne : a.Subs ≠ [] := fun h => by rw [h] at hhd; simp [ids] at hhd
  have rp := fun (H : Heap) => replay_m (row := none) (src := none) a H 143 [] (fun _ => true) hl he hne hcr hnd hz0 en_143 (fun e _ H' _ => all_m e H')
  rw [cA] at rp
  simp -dsimp -implicitDefEqProofs [-getElem?_pos, go_sem, hP, c3, c4]
  refine callB_m (by rw [hr, hs]; exact rp _) hP en_142 ?_
  rintro r H1 ⟨p, q, rfl, hp, hq, ht, hk⟩
  have ob := hk 0 ⟨28, 3, [[iv a.Credit, subsL a.Subs, entsL a.Entries]]⟩ (by simp) (by simp)
  have lb := (List.getElem?_eq_some_iff.1 ob).1
  cases hR : replayW a fun _ => true with
  | none =>
    rw [hR] at hchk
    have hchk : checkA a = 62 := hchk
    simp -dsimp -implicitDefEqProofs [-getElem?_pos, go_sem, hP, hchk]
    refine adrawB (fun _ => true) [] hP (by kernel_rfl) (by kernel_rfl) ?_
    simp -dsimp -implicitDefEqProofs [-getElem?_pos, go_sem, hP]
    exact hchk.symm
  | some x =>
    rw [hR] at hchk
    have hchk : checkA a = if x.2.2 = a.Subs then 0 else 62 := hchk
    have t := ht x hR
    have t1 := t.obj
    have t2 := t.ltp
    have t3 := t.subs
    have il : x.2.2.length = a.Subs.length := by
      have := (replayS_keeps a.Credit _ 0 0 (zeroS a.Subs) x (zeroS_all hcr.1 _) hR).2.1
      rw [← ids_len x.2.2, this, ids_len, zeroS_len]
    simp -dsimp -implicitDefEqProofs [-getElem?_pos, go_sem, hP]
    refine adrawB (fun _ => true) [] hP (by kernel_rfl) (by kernel_rfl) ?_
    simp -dsimp -implicitDefEqProofs [-getElem?_pos, go_sem, hP, t1, t2, ob, lb]
    refine callB_pure (listEq_pf_subs x.2.2 a.Subs (by omega) hl) hP en_144 (args_sref t3 (by rw [encL_len]) (imm_subs _) (args_imm (imm_subs _) (args_nil.2 trivial))) .sc ?_
    by_cases c5 : x.2.2 = a.Subs
    · rw [if_pos c5] at hchk
      have d5 : decide (x.2.2 = a.Subs) = true := decide_eq_true c5
      simp -dsimp -implicitDefEqProofs [-getElem?_pos, go_sem, hP, d5, hchk]
    · rw [if_neg c5] at hchk
      simp -dsimp -implicitDefEqProofs [-getElem?_pos, go_sem, hP, c5, hchk]
open Go.PA
open Go.RowKit
theorem total_pf (a : TAccount) (hl : a.Subs.length ≤ 100000) (he : a.Entries.length ≤ 100000) : PFun Tryz.prog none none 57 [.agg a.cells] (· = iv (totalA a)) := by
  refine pfun_intro Tryz.func57 rfl (by simp [Tryz.f57]) (by kernel_rfl) ?_
  intro E hP hr hs hW hN
  have ck := check_pf a hl he
  rw [cA] at ck
  have ia : Imm (.agg [iv a.Credit, subsL a.Subs, entsL a.Entries]) := imm_acc a
  simp -dsimp -implicitDefEqProofs [-getElem?_pos, go_sem, hP, cA]
  refine callB_is (ck.lift _ _) hP en_89 (by simp [ia]) .sc ?_
  by_cases c1 : checkA a = 0
  rotate_left
  · have : totalA a = 0 := by rw [totalA, if_neg c1]
    simp -dsimp -implicitDefEqProofs [-getElem?_pos, go_sem, hP, c1, this]
  have tA : totalA a = sumB a.Subs := by rw [totalA, if_pos c1]
  obtain ⟨k1, k2, k3, k4, k5⟩ := check_ok c1
  obtain ⟨q1, q2, q3, q4⟩ := check_keeps c1
  simp -dsimp -implicitDefEqProofs [-getElem?_pos, go_sem, hP, c1]
  obtain ⟨I, hI⟩ : ∃ I : Nat → St → Prop, I = fun m s => ∃ k : Nat, k ≤ a.Subs.length ∧ m = a.Subs.length - k ∧ s.t 3 = iv (sumB (a.Subs.take k)) ∧ s.t 10 = subsL a.Subs ∧ s.t 11 = iv a.Subs.length ∧ s.t 12 = iv k := ⟨_, rfl⟩
  refine aloop0 I (a.Subs.length) (by rw [hN]; rfl) ?_ ?_
  · rw [hI]
    exact ⟨0, by omega, by omega, by simp -dsimp -implicitDefEqProofs [-getElem?_pos, go_sem, sumB], by simp -dsimp -implicitDefEqProofs [-getElem?_pos, go_sem], by simp -dsimp -implicitDefEqProofs [-getElem?_pos, go_sem], by simp -dsimp -implicitDefEqProofs [-getElem?_pos, go_sem]⟩
  intro m s hs'
  rw [hI] at hs'
  obtain ⟨k, hk, hm, t3, t10, t11, t12⟩ := hs'
  simp -dsimp -implicitDefEqProofs [-getElem?_pos, go_sem, hP, t11, t12]
  refine condP (fun h => ?_) (fun h => ?_)
  · have hk : k < a.Subs.length := by simpa using h
    obtain ⟨x, hx⟩ : ∃ x, a.Subs[k]? = some x := ⟨_, List.getElem?_eq_getElem hk⟩
    have wk := wrap_in ((k : Int) + 1) (by omega)
    have e1 : a.Subs.take (k + 1) = a.Subs.take k ++ [x] := by rw [List.take_add_one, hx]; rfl
    have b1 := sumB_bound k3 _ (okAll_take q1 (k + 1))
    have b2 : (a.Subs.take (k + 1)).length ≤ 20 := by rw [List.length_take]; omega
    rw [e1, sumB_snoc, ← e1] at b1
    have ws := wrap_in (sumB (a.Subs.take k) + x.Balance) (by omega)
    simp -dsimp -implicitDefEqProofs [-getElem?_pos, go_sem, hP, t10, t12, hx, TSub.cells, t3, ws, wk]
    refine ⟨a.Subs.length - (k + 1), by omega, ?_⟩
    rw [hI]
    exact ⟨k + 1, by omega, rfl, by simp -dsimp -implicitDefEqProofs [-getElem?_pos, go_sem]; rw [e1, sumB_snoc], by simp -dsimp -implicitDefEqProofs [-getElem?_pos, go_sem, t10], by simp -dsimp -implicitDefEqProofs [-getElem?_pos, go_sem, t11], by simp -dsimp -implicitDefEqProofs [-getElem?_pos, go_sem]⟩
  · have hk : k = a.Subs.length := by simp at h; omega
    subst hk
    rw [List.take_length] at t3
    simp -dsimp -implicitDefEqProofs [-getElem?_pos, go_sem, hP, t3, tA]
theorem isidB_m {row src : Option Nat} (a : TSub) (H : Heap) (b : Nat) (id : Int) (hb : H[b]? = some (some ⟨3, 1, [[iv id]]⟩)) :
    MFun Tryz.prog row src 185 [.agg a.cells, .ref b 0 0] H (fun r H' => r = bv (decide (a.ID = id)) ∧ Kept [] H H') := by
  refine mfun_intro Tryz.func185 rfl (by simp [Tryz.f185]) (by kernel_rfl) (⟨_, H, rfl, kept_refl _ _⟩) ?_
  intro E hP hr hs hN
  have hlt := (List.getElem?_eq_some_iff.1 hb).1
  simp -dsimp -implicitDefEqProofs [-getElem?_pos, go_sem, hP, TSub.cells, hb, hlt]
  exact kept_push _ (kept_refl _ _)
theorem balance_pf (a : TAccount) (id : Int) (hl : a.Subs.length ≤ 100000) (he : a.Entries.length ≤ 100000) : PFun Tryz.prog none none 151 [.agg a.cells, iv id] (· = .tup [iv (balanceA a id).1, bv (balanceA a id).2]) := by
  refine pfun_intro Tryz.func151 rfl (by simp [Tryz.f151]) (by kernel_rfl) ?_
  intro E hP hr hs hW hN
  have ck := check_pf a hl he
  rw [cA] at ck
  have ia : Imm (.agg [iv a.Credit, subsL a.Subs, entsL a.Entries]) := imm_acc a
  simp -dsimp -implicitDefEqProofs [-getElem?_pos, go_sem, hP, cA]
  refine callB_m (by rw [hr, hs]; exact index_m_sub a.Subs (subsL a.Subs) _ 185 [.ref 1 0 0] (fun s => decide (s.ID = id)) (.inl rfl) (by omega) en_185 (fun a _ H' hk => isidB_m a H' 1 id (hk _ _ (by simp) (by simp)))) hP en_184 ?_
  rintro r H1 ⟨rfl, hk⟩
  have ob := hk 0 ⟨28, 3, [[iv a.Credit, subsL a.Subs, entsL a.Entries]]⟩ (by simp) (by simp)
  have lb := (List.getElem?_eq_some_iff.1 ob).1
  rcases find_place (l := a.Subs) (id := id) with ⟨h1, h2⟩ | ⟨i, s, h1, h2, h3⟩
  · have : balanceA a id = (0, false) := by
      rw [balanceA, h2]
      split <;> rfl
    have h1 : idxI (fun s : TSub => decide (s.ID = id)) a.Subs = -1 := h1
    simp -dsimp -implicitDefEqProofs [-getElem?_pos, go_sem, hP, h1]
    refine done_imm (imm_pair .sc .sc) ?_
    rw [this]
  · have h1 : idxI (fun s : TSub => decide (s.ID = id)) a.Subs = (i : Int) := h1
    have hi := (List.getElem?_eq_some_iff.1 h2).1
    have d1 : decide ((i : Int) < 0) = false := decide_eq_false (by omega)
    simp -dsimp -implicitDefEqProofs [-getElem?_pos, go_sem, hP, h1, d1, ob, lb]
    refine callB_is (ck.lift _ _) hP en_89 (by simp [ia]) .sc ?_
    by_cases c1 : checkA a = 0
    · have : balanceA a id = (s.Balance, true) := by rw [balanceA, if_pos c1, h3]
      simp -dsimp -implicitDefEqProofs [-getElem?_pos, go_sem, hP, h1, d1, c1, h2, TSub.cells, ob, lb]
      refine done_imm (imm_pair .sc .sc) ?_
      rw [this]
    · have : balanceA a id = (0, false) := by rw [balanceA, if_neg c1]
      simp -dsimp -implicitDefEqProofs [-getElem?_pos, go_sem, hP, h1, d1, c1]
      refine done_imm (imm_pair .sc .sc) ?_
      rw [this]
open Go.PA
open Go.RowKit
theorem index_pf_pay (l : List TPayment) (g : FuncId) (caps : List AV) (p : TPayment → Bool) (hl : l.length ≤ 1000000) (hen : enterable Tryz.prog g = true) (hcap : ∀ a, a ∈ caps → Imm a)
    (hg : ∀ a, a ∈ l → PFun Tryz.prog none none g (.agg (TPayment.cells a) :: caps) (· = bv (p a))) :
    PFun Tryz.prog none none 204 [.list 5 (encL TPayment.cells l), .fn g caps] (· = iv (idxI p l)) := by
  refine pfun_intro Tryz.func204 rfl (by simp [Tryz.f204]) (by kernel_rfl) ?_
  intro E hP hr hs hW hN
  simp -dsimp -implicitDefEqProofs [-getElem?_pos, go_sem, hP]
  obtain ⟨I, hI⟩ : ∃ I : Nat → St → Prop, I = fun m s => ∃ k : Nat, k ≤ l.length ∧ m = l.length - k ∧ idxI p l = idxFrom p k (l.drop k) ∧ s.t 0 = .list 5 (encL TPayment.cells l) ∧ s.t 1 = .fn g caps ∧ s.t 7 = iv l.length ∧ s.t 8 = iv k := ⟨_, rfl⟩
  refine aloop0 I (l.length) (by rw [hN]; rfl) ?_ ?_
  · rw [hI]
    exact ⟨0, by omega, by omega, by simp [idxI], by simp -dsimp -implicitDefEqProofs [-getElem?_pos, go_sem], by simp -dsimp -implicitDefEqProofs [-getElem?_pos, go_sem], by simp -dsimp -implicitDefEqProofs [-getElem?_pos, go_sem], by simp -dsimp -implicitDefEqProofs [-getElem?_pos, go_sem]⟩
  intro m s hs'
  rw [hI] at hs'
  obtain ⟨k, hk, hm, hi, t0, t1, t7, t8⟩ := hs'
  simp -dsimp -implicitDefEqProofs [-getElem?_pos, go_sem, hP, t7, t8]
  refine condP (fun h => ?_) (fun h => ?_)
  · have hk : k < l.length := by simpa using h
    obtain ⟨a, ha⟩ : ∃ a, l[k]? = some a := ⟨_, List.getElem?_eq_getElem hk⟩
    have wk := wrap_in ((k : Int) + 1) (by omega)
    have hz : (TPayment.cells a).take 5 = TPayment.cells a := List.take_of_length_le (by rw [TPayment.len]; omega)
    have hd : l.drop k = a :: l.drop (k + 1) := by
      rw [List.getElem?_eq_getElem hk] at ha
      rw [List.drop_eq_getElem_cons hk, Option.some.inj ha]
    simp -dsimp -implicitDefEqProofs [-getElem?_pos, go_sem, hP, t8, t1, t0, ha, TPayment.len, hz]
    refine callB_is ((hg a (List.mem_of_getElem? ha)).lift _ _) hP hen (fun x hx => ?_) .sc ?_
    · rcases List.mem_cons.1 hx with rfl | hx
      · exact imm_agg.2 (TPayment.imm a)
      · exact hcap x hx
    rw [hd] at hi
    simp only [idxFrom] at hi
    simp -dsimp -implicitDefEqProofs [-getElem?_pos, go_sem, hP]
    refine condP (fun hp => ?_) (fun hp => ?_)
    · rw [if_pos hp] at hi
      simp -dsimp -implicitDefEqProofs [-getElem?_pos, go_sem, hP]
      exact hi.symm
    · rw [hp, if_neg (by simp)] at hi
      simp -dsimp -implicitDefEqProofs [-getElem?_pos, go_sem, hP, t8, wk]
      refine ⟨l.length - (k + 1), by omega, ?_⟩
      rw [hI]
      exact ⟨k + 1, by omega, rfl, hi, by simp -dsimp -implicitDefEqProofs [-getElem?_pos, go_sem, t0], by simp -dsimp -implicitDefEqProofs [-getElem?_pos, go_sem, t1], by simp -dsimp -implicitDefEqProofs [-getElem?_pos, go_sem, t7], by simp -dsimp -implicitDefEqProofs [-getElem?_pos, go_sem]⟩
  · have hk : k = l.length := by simp at h; omega
    subst hk
    rw [List.drop_length] at hi
    simp -dsimp -implicitDefEqProofs [-getElem?_pos, go_sem, hP]
    exact hi.symm
theorem contains_pf_pay (l : List TPayment) (g : FuncId) (caps : List AV) (p : TPayment → Bool) (hl : l.length ≤ 1000000) (hen : enterable Tryz.prog g = true) (hcap : ∀ a, a ∈ caps → Imm a)
    (hg : ∀ a, a ∈ l → PFun Tryz.prog none none g (.agg (TPayment.cells a) :: caps) (· = bv (p a))) :
    PFun Tryz.prog none none 180 [.list 5 (encL TPayment.cells l), .fn g caps] (· = bv (l.any p)) := by
  refine pfun_intro Tryz.func180 rfl (by simp [Tryz.f180]) (by kernel_rfl) ?_
  intro E hP hr hs hW hN
  obtain ⟨w, hw⟩ : ∃ w, w = l.any p := ⟨_, rfl⟩
  rw [← hw]
  have hi : ∀ a, a ∈ [AV.list 5 (encL TPayment.cells l), .fn g caps] → Imm a := fun a ha => by
    simp only [List.mem_cons, List.not_mem_nil, or_false] at ha
    rcases ha with rfl | rfl
    · exact imm_encL _ TPayment.imm _
    · exact imm_fn.2 hcap
  simp -dsimp -implicitDefEqProofs [-getElem?_pos, go_sem, hP]
  refine callB_is ((index_pf_pay l g caps p hl hen hcap hg).lift _ _) hP en_204 hi .sc ?_
  rcases idxI_spec p l with ⟨h1, h2⟩ | ⟨i, a, h1, h2, h3, _⟩
  · have : w = false := by rw [hw]; exact List.any_eq_false.2 fun a ha => by simp [h2 a ha]
    simp -dsimp -implicitDefEqProofs [-getElem?_pos, go_sem, hP, h1, this]
  · have d : decide ((0 : Int) ≤ (i : Int)) = true := decide_eq_true (by omega)
    have : w = true := by rw [hw]; exact List.any_eq_true.2 ⟨a, List.mem_of_getElem? h1, h2⟩
    simp -dsimp -implicitDefEqProofs [-getElem?_pos, go_sem, hP, h3, d, this]
open Go.PA
open Go.RowKit
open Go.PA
open Go.RowKit
theorem indexInt_pf (l : List Int) (v : Int) (hl : l.length ≤ 1000000) : PFun Tryz.prog none none 205 [intsL l, iv v] (· = iv (idxI (fun x => decide (v = x)) l)) := by
  refine pfun_intro Tryz.func205 rfl (by simp [Tryz.f205]) (by kernel_rfl) ?_
  intro E hP hr hs hW hN
  simp -dsimp -implicitDefEqProofs [-getElem?_pos, go_sem, hP, intsL]
  obtain ⟨I, hI⟩ : ∃ I : Nat → St → Prop, I = fun m s => ∃ k : Nat, k ≤ l.length ∧ m = l.length - k ∧ idxI (fun x => decide (v = x)) l = idxFrom (fun x => decide (v = x)) k (l.drop k) ∧ s.t 0 = intsL l ∧ s.t 1 = iv v ∧ s.t 7 = iv l.length ∧ s.t 8 = iv k := ⟨_, rfl⟩
  refine aloop0 I (l.length) (by rw [hN]; rfl) ?_ ?_
  · rw [hI]
    exact ⟨0, by omega, by omega, by simp [idxI], by simp -dsimp -implicitDefEqProofs [-getElem?_pos, go_sem, intsL], by simp -dsimp -implicitDefEqProofs [-getElem?_pos, go_sem], by simp -dsimp -implicitDefEqProofs [-getElem?_pos, go_sem], by simp -dsimp -implicitDefEqProofs [-getElem?_pos, go_sem]⟩
  intro m s hs'
  rw [hI] at hs'
  obtain ⟨k, hk, hm, hi, t0, t1, t7, t8⟩ := hs'
  simp -dsimp -implicitDefEqProofs [-getElem?_pos, go_sem, hP, t7, t8]
  refine condP (fun h => ?_) (fun h => ?_)
  · have hk : k < l.length := by simpa using h
    obtain ⟨a, ha⟩ : ∃ a, l[k]? = some a := ⟨_, List.getElem?_eq_getElem hk⟩
    have wk := wrap_in ((k : Int) + 1) (by omega)
    have hd : l.drop k = a :: l.drop (k + 1) := by
      rw [List.getElem?_eq_getElem hk] at ha
      rw [List.drop_eq_getElem_cons hk, Option.some.inj ha]
    rw [hd] at hi
    simp only [idxFrom] at hi
    simp -dsimp -implicitDefEqProofs [-getElem?_pos, go_sem, hP, t8, t1, t0, ha, intsL]
    by_cases hp : v = a
    · rw [if_pos (by simpa using hp)] at hi
      simp -dsimp -implicitDefEqProofs [-getElem?_pos, go_sem, hP, hp]
      rw [hp] at hi
      exact hi.symm
    · rw [if_neg (by simpa using hp)] at hi
      simp -dsimp -implicitDefEqProofs [-getElem?_pos, go_sem, hP, t8, wk, hp]
      refine ⟨l.length - (k + 1), by omega, ?_⟩
      rw [hI]
      exact ⟨k + 1, by omega, rfl, hi, by simp -dsimp -implicitDefEqProofs [-getElem?_pos, go_sem, t0], by simp -dsimp -implicitDefEqProofs [-getElem?_pos, go_sem, t1], by simp -dsimp -implicitDefEqProofs [-getElem?_pos, go_sem, t7], by simp -dsimp -implicitDefEqProofs [-getElem?_pos, go_sem]⟩
  · have hk : k = l.length := by simp at h; omega
    subst hk
    rw [List.drop_length] at hi
    simp -dsimp -implicitDefEqProofs [-getElem?_pos, go_sem, hP]
    exact hi.symm
theorem imm_ints (l : List Int) : Imm (intsL l) := by simp [go_sem, intsL]
theorem containsInt_pf (l : List Int) (v : Int) (hl : l.length ≤ 1000000) : PFun Tryz.prog none none 182 [intsL l, iv v] (· = bv (decide (v ∈ l))) := by
  refine pfun_intro Tryz.func182 rfl (by simp [Tryz.f182]) (by kernel_rfl) ?_
  intro E hP hr hs hW hN
  simp -dsimp -implicitDefEqProofs [-getElem?_pos, go_sem, hP]
  refine callB_is ((indexInt_pf l v hl).lift _ _) hP en_205 (by simp [imm_ints, imm_sc]) .sc ?_
  rcases idxI_spec (fun x => decide (v = x)) l with ⟨h1, h2⟩ | ⟨i, a, h1, h2, h3, _⟩
  · have : decide (v ∈ l) = false := decide_eq_false fun hv => by simpa using h2 v hv
    simp -dsimp -implicitDefEqProofs [-getElem?_pos, go_sem, hP, h1, this]
  · have d : decide ((0 : Int) ≤ (i : Int)) = true := decide_eq_true (by omega)
    have hva : v = a := by simpa using h2
    have : decide (v ∈ l) = true := decide_eq_true (hva ▸ List.mem_of_getElem? h1)
    simp -dsimp -implicitDefEqProofs [-getElem?_pos, go_sem, hP, h3, d, this]
open Go.PA
open Go.RowKit
theorem prev_at {α β : Type} {f : α → β} {l : List α} {k : Nat} {p : α} (hp : l[k]? = some p) : ∀ j x, k + 1 = j + 1 → l[j]? = some x → f p = f x := fun j x hj hx => by
  cases (show k = j by omega)
  rw [hp] at hx
  cases hx
  rfl
theorem bamong_pf (n lo hi : Int) : PFun Tryz.prog none none 179 [iv n, iv lo, iv hi] (· = bv (amg n lo hi)) := by
  refine pfun_intro Tryz.func179 rfl (by simp [Tryz.f179]) (by kernel_rfl) ?_
  intro E hP hr hs hW hN
  by_cases h1 : lo ≤ n <;> by_cases h2 : n ≤ hi <;> simp -dsimp -implicitDefEqProofs [-getElem?_pos, go_sem, hP, h1, h2, amg]
theorem bpay_pf (p : TPayment) : PFun Tryz.prog none none 152 [.agg p.cells] (· = bv (payB p)) := by
  refine pfun_intro Tryz.func152 rfl (by simp [Tryz.f152]) (by kernel_rfl) ?_
  intro E hP hr hs hW hN
  simp -dsimp -implicitDefEqProofs [-getElem?_pos, go_sem, hP, cPy]
  refine callB_pure (bamong_pf p.Warrant 1 1000000) hP en_179 (args_same (by simp -dsimp -implicitDefEqProofs [-getElem?_pos, go_sem])) .sc ?_
  cases h1 : amg p.Warrant 1 1000000
  · simp -dsimp -implicitDefEqProofs [-getElem?_pos, go_sem, hP, payB, h1]
  simp -dsimp -implicitDefEqProofs [-getElem?_pos, go_sem, hP]
  refine callB_pure (bamong_pf p.Payee 1 1000000) hP en_179 (args_same (by simp -dsimp -implicitDefEqProofs [-getElem?_pos, go_sem])) .sc ?_
  cases h2 : amg p.Payee 1 1000000
  · simp -dsimp -implicitDefEqProofs [-getElem?_pos, go_sem, hP, payB, h1, h2]
  simp -dsimp -implicitDefEqProofs [-getElem?_pos, go_sem, hP]
  refine callB_pure (bamong_pf p.Amount 1 1000000000000) hP en_179 (args_same (by simp -dsimp -implicitDefEqProofs [-getElem?_pos, go_sem])) .sc ?_
  cases h3 : amg p.Amount 1 1000000000000
  · simp -dsimp -implicitDefEqProofs [-getElem?_pos, go_sem, hP, payB, h1, h2, h3]
  simp -dsimp -implicitDefEqProofs [-getElem?_pos, go_sem, hP]
  refine callB_pure (bamong_pf p.Due 0 35990) hP en_179 (args_same (by simp -dsimp -implicitDefEqProofs [-getElem?_pos, go_sem])) .sc ?_
  cases h4 : amg p.Due 0 35990
  · simp -dsimp -implicitDefEqProofs [-getElem?_pos, go_sem, hP, payB, h1, h2, h3, h4]
  simp -dsimp -implicitDefEqProofs [-getElem?_pos, go_sem, hP]
  refine callB_pure (bamong_pf p.Sub 1 1000) hP en_179 (args_same (by simp -dsimp -implicitDefEqProofs [-getElem?_pos, go_sem])) .sc ?_
  simp -dsimp -implicitDefEqProofs [-getElem?_pos, go_sem, hP, payB, h1, h2, h3, h4]
def cmpP (a b : TPayment) : Int := orI [cmpI a.Due b.Due, cmpI a.Warrant b.Warrant]
theorem cmpP_lt {a b : TPayment} : cmpP a b < 0 ↔ Bef a b := by
  simp only [cmpP, orI, cmpI, Bef]
  repeat' split
  all_goals omega
theorem cmpP_ge {a b : TPayment} (h : ¬ Bef a b) : 0 ≤ cmpP a b := by
  have := mt cmpP_lt.1 h
  omega
theorem bcompare_pf (a b : TPayment) : PFun Tryz.prog none none 178 [.agg a.cells, .agg b.cells] (· = iv (cmpP a b)) := by
  refine pfun_intro Tryz.func178 rfl (by simp [Tryz.f178]) (by kernel_rfl) ?_
  intro E hP hr hs hW hN
  simp -dsimp -implicitDefEqProofs [-getElem?_pos, go_sem, hP, cPy]
  refine adrawB (fun _ => true) [] hP (by kernel_rfl) (by kernel_rfl) ?_
  simp -dsimp -implicitDefEqProofs [-getElem?_pos, go_sem, hP]
  refine callB_pure (compare_pf a.Due b.Due) hP en_70 (args_same (by simp -dsimp -implicitDefEqProofs [-getElem?_pos, go_sem])) .sc ?_
  simp -dsimp -implicitDefEqProofs [-getElem?_pos, go_sem, hP]
  refine callB_pure (compare_pf a.Warrant b.Warrant) hP en_70 (args_same (by simp -dsimp -implicitDefEqProofs [-getElem?_pos, go_sem])) .sc ?_
  simp -dsimp -implicitDefEqProofs [-getElem?_pos, go_sem, hP]
  refine callB_pure (or_pf [cmpI a.Due b.Due, cmpI a.Warrant b.Warrant] (by simp)) hP en_96 (args_same (by simp -dsimp -implicitDefEqProofs [-getElem?_pos, go_sem])) .sc ?_
  simp -dsimp -implicitDefEqProofs [-getElem?_pos, go_sem, hP, cmpP]
theorem bordered_pf (l : List TPayment) (hl : l.length ≤ 1000000) : PFun Tryz.prog none none 145 [paysL l] (· = bv (ordFrom none l)) := by
  refine pfun_intro Tryz.func145 rfl (by simp [Tryz.f145]) (by kernel_rfl) ?_
  intro E hP hr hs hW hN
  obtain ⟨R, hR⟩ : ∃ R, R = ordFrom none l := ⟨_, rfl⟩
  rw [← hR]
  simp -dsimp -implicitDefEqProofs [-getElem?_pos, go_sem, hP]
  obtain ⟨I, hI⟩ : ∃ I : Nat → St → Prop, I = fun m s => ∃ (k : Nat) (o : Option TPayment), k ≤ l.length ∧ m = l.length - k ∧ R = ordFrom o (l.drop k) ∧ (k = 0 → o = none) ∧ (∀ j x, k = j + 1 → l[j]? = some x → o = some x) ∧ s.t 0 = paysL l ∧ s.t 5 = paysL l ∧ s.t 6 = iv l.length ∧ s.t 7 = iv k := ⟨_, rfl⟩
  refine aloop0 I (l.length) (by rw [hN]; rfl) ?_ ?_
  · rw [hI]
    exact ⟨0, none, by omega, by omega, by rw [hR]; rfl, by simp, by omega, by simp -dsimp -implicitDefEqProofs [-getElem?_pos, go_sem], by simp -dsimp -implicitDefEqProofs [-getElem?_pos, go_sem], by simp -dsimp -implicitDefEqProofs [-getElem?_pos, go_sem], by simp -dsimp -implicitDefEqProofs [-getElem?_pos, go_sem]⟩
  intro m s hs'
  rw [hI] at hs'
  obtain ⟨k, o, hk, hm, hq, ho0, ho1, t0, t5, t6, t7⟩ := hs'
  simp -dsimp -implicitDefEqProofs [-getElem?_pos, go_sem, hP, t6, t7]
  refine condP (fun h => ?_) (fun h => ?_)
  · have hk : k < l.length := by simpa using h
    obtain ⟨p, hp⟩ : ∃ p, l[k]? = some p := ⟨_, List.getElem?_eq_getElem hk⟩
    have wk := wrap_in ((k : Int) + 1) (by omega)
    have ip := imm_pay p
    have py := bpay_pf p
    rw [cPy] at py ip
    rw [drop_at hp, ordFrom] at hq
    simp -dsimp -implicitDefEqProofs [-getElem?_pos, go_sem, hP, t5, t7, hp, cPy]
    refine adrawB (fun _ => true) [] hP (by kernel_rfl) (by kernel_rfl) ?_
    simp -dsimp -implicitDefEqProofs [-getElem?_pos, go_sem, hP]
    refine callB_is (py.lift _ _) hP en_152 (by simpa using ip) .sc ?_
    cases h1 : payB p
    · rw [h1, Bool.false_and] at hq
      simp -dsimp -implicitDefEqProofs [-getElem?_pos, go_sem, hP, h1, hq]
    rw [h1, Bool.true_and] at hq
    rcases Nat.eq_zero_or_pos k with k0 | k0
    · rw [ho0 k0, allO, Bool.true_and] at hq
      have k0' : ¬ 0 < k := by omega
      have hjk : decide ((0 : Int) < (k : Int)) = false := decide_eq_false (by omega)
      simp -dsimp -implicitDefEqProofs [-getElem?_pos, go_sem, hP, h1, t7, k0', hjk, wk]
      refine ⟨l.length - (k + 1), by omega, ?_⟩
      rw [hI]
      exact ⟨k + 1, some p, by omega, rfl, hq, by omega, prev_at (f := some) hp, by simp -dsimp -implicitDefEqProofs [-getElem?_pos, go_sem, t0], by simp -dsimp -implicitDefEqProofs [-getElem?_pos, go_sem, t5], by simp -dsimp -implicitDefEqProofs [-getElem?_pos, go_sem, t6], by simp -dsimp -implicitDefEqProofs [-getElem?_pos, go_sem]⟩
    · obtain ⟨j, hj⟩ : ∃ j, k = j + 1 := ⟨k - 1, by omega⟩
      obtain ⟨x, hx⟩ : ∃ x, l[j]? = some x := ⟨_, List.getElem?_eq_getElem (by omega)⟩
      have hox := ho1 j x hj hx
      have hjk : decide ((0 : Int) < (k : Int)) = true := decide_eq_true (by omega)
      have wj : IntKind.i64.wrap ((k : Int) - 1) = (j : Int) := by rw [wrap_in _ (by omega)]; omega
      have cm := bcompare_pf x p
      have ix := imm_pay x
      rw [cPy, cPy] at cm
      rw [cPy] at ix
      rw [hox, allO] at hq
      simp -dsimp -implicitDefEqProofs [-getElem?_pos, go_sem, hP, h1, t7, k0, hjk, wj, t0, hx, cPy]
      refine callB_is (cm.lift _ _) hP en_178 (by simpa using ⟨ix, ip⟩) .sc ?_
      by_cases c : Bef x p
      · have c1 := cmpP_lt.2 c
        have d1 : decide (0 ≤ cmpP x p) = false := decide_eq_false (by omega)
        rw [befB_iff.2 c, Bool.true_and] at hq
        simp -dsimp -implicitDefEqProofs [-getElem?_pos, go_sem, hP, h1, t7, k0, hjk, wj, t0, hx, cPy, d1, wk]
        refine ⟨l.length - (k + 1), by omega, ?_⟩
        rw [hI]
        exact ⟨k + 1, some p, by omega, rfl, hq, by omega, prev_at (f := some) hp, by simp -dsimp -implicitDefEqProofs [-getElem?_pos, go_sem, t0], by simp -dsimp -implicitDefEqProofs [-getElem?_pos, go_sem, t5], by simp -dsimp -implicitDefEqProofs [-getElem?_pos, go_sem, t6], by simp -dsimp -implicitDefEqProofs [-getElem?_pos, go_sem]⟩
      · have c1 := cmpP_ge c
        have d1 : decide (0 ≤ cmpP x p) = true := decide_eq_true c1
        have cb : befB x p = false := by simpa [befB] using c
        rw [cb, Bool.false_and] at hq
        simp -dsimp -implicitDefEqProofs [-getElem?_pos, go_sem, hP, h1, t7, k0, hjk, wj, t0, hx, cPy, d1, hq]
  · have hk : k = l.length := by simp at h; omega
    subst hk
    rw [List.drop_length, ordFrom] at hq
    simp -dsimp -implicitDefEqProofs [-getElem?_pos, go_sem, hP, hq]
theorem bknown_pf (l : List Int) (hl : l.length ≤ 1000000) : PFun Tryz.prog none none 146 [intsL l] (· = bv (knFrom none l)) := by
  refine pfun_intro Tryz.func146 rfl (by simp [Tryz.f146]) (by kernel_rfl) ?_
  intro E hP hr hs hW hN
  obtain ⟨R, hR⟩ : ∃ R, R = knFrom none l := ⟨_, rfl⟩
  rw [← hR]
  simp -dsimp -implicitDefEqProofs [-getElem?_pos, go_sem, hP, intsL]
  obtain ⟨I, hI⟩ : ∃ I : Nat → St → Prop, I = fun m s => ∃ (k : Nat) (o : Option Int), k ≤ l.length ∧ m = l.length - k ∧ R = knFrom o (l.drop k) ∧ (k = 0 → o = none) ∧ (∀ j x, k = j + 1 → l[j]? = some x → o = some x) ∧ s.t 0 = intsL l ∧ s.t 5 = intsL l ∧ s.t 6 = iv l.length ∧ s.t 7 = iv k := ⟨_, rfl⟩
  refine aloop0 I (l.length) (by rw [hN]; rfl) ?_ ?_
  · rw [hI]
    exact ⟨0, none, by omega, by omega, by rw [hR]; rfl, by simp, by omega, by simp -dsimp -implicitDefEqProofs [-getElem?_pos, go_sem, intsL], by simp -dsimp -implicitDefEqProofs [-getElem?_pos, go_sem, intsL], by simp -dsimp -implicitDefEqProofs [-getElem?_pos, go_sem], by simp -dsimp -implicitDefEqProofs [-getElem?_pos, go_sem]⟩
  intro m s hs'
  rw [hI] at hs'
  obtain ⟨k, o, hk, hm, hq, ho0, ho1, t0, t5, t6, t7⟩ := hs'
  simp -dsimp -implicitDefEqProofs [-getElem?_pos, go_sem, hP, t6, t7]
  refine condP (fun h => ?_) (fun h => ?_)
  · have hk : k < l.length := by simpa using h
    obtain ⟨p, hp⟩ : ∃ p, l[k]? = some p := ⟨_, List.getElem?_eq_getElem hk⟩
    have wk := wrap_in ((k : Int) + 1) (by omega)
    rw [drop_at hp, knFrom] at hq
    simp -dsimp -implicitDefEqProofs [-getElem?_pos, go_sem, hP, t5, t7, intsL, hp]
    refine callB_pure (bamong_pf p 1 1000000) hP en_179 (args_same (by simp -dsimp -implicitDefEqProofs [-getElem?_pos, go_sem])) .sc ?_
    cases h1 : amg p 1 1000000
    · rw [h1, Bool.false_and] at hq
      simp -dsimp -implicitDefEqProofs [-getElem?_pos, go_sem, hP, h1, hq]
    rw [h1, Bool.true_and] at hq
    rcases Nat.eq_zero_or_pos k with k0 | k0
    · rw [ho0 k0, allO, Bool.true_and] at hq
      have k0' : ¬ 0 < k := by omega
      have hjk : decide ((0 : Int) < (k : Int)) = false := decide_eq_false (by omega)
      simp -dsimp -implicitDefEqProofs [-getElem?_pos, go_sem, hP, h1, t7, k0', hjk, wk]
      refine ⟨l.length - (k + 1), by omega, ?_⟩
      rw [hI]
      exact ⟨k + 1, some p, by omega, rfl, hq, by omega, prev_at (f := some) hp, by simp -dsimp -implicitDefEqProofs [-getElem?_pos, go_sem, t0], by simp -dsimp -implicitDefEqProofs [-getElem?_pos, go_sem, t5], by simp -dsimp -implicitDefEqProofs [-getElem?_pos, go_sem, t6], by simp -dsimp -implicitDefEqProofs [-getElem?_pos, go_sem]⟩
    · obtain ⟨j, hj⟩ : ∃ j, k = j + 1 := ⟨k - 1, by omega⟩
      obtain ⟨x, hx⟩ : ∃ x, l[j]? = some x := ⟨_, List.getElem?_eq_getElem (by omega)⟩
      have hox := ho1 j x hj hx
      have hjk : decide ((0 : Int) < (k : Int)) = true := decide_eq_true (by omega)
      have wj : IntKind.i64.wrap ((k : Int) - 1) = (j : Int) := by rw [wrap_in _ (by omega)]; omega
      rw [hox, allO] at hq
      by_cases c : x < p
      · have d1 : decide (p ≤ x) = false := decide_eq_false (by omega)
        rw [decide_eq_true c, Bool.true_and] at hq
        simp -dsimp -implicitDefEqProofs [-getElem?_pos, go_sem, hP, h1, t7, k0, hjk, wj, t0, intsL, hx, d1, wk]
        refine ⟨l.length - (k + 1), by omega, ?_⟩
        rw [hI]
        exact ⟨k + 1, some p, by omega, rfl, hq, by omega, prev_at (f := some) hp, by simp -dsimp -implicitDefEqProofs [-getElem?_pos, go_sem, t0], by simp -dsimp -implicitDefEqProofs [-getElem?_pos, go_sem, t5], by simp -dsimp -implicitDefEqProofs [-getElem?_pos, go_sem, t6], by simp -dsimp -implicitDefEqProofs [-getElem?_pos, go_sem]⟩
      · have d1 : decide (p ≤ x) = true := decide_eq_true (by omega)
        rw [decide_eq_false c, Bool.false_and] at hq
        simp -dsimp -implicitDefEqProofs [-getElem?_pos, go_sem, hP, h1, t7, k0, hjk, wj, t0, intsL, hx, d1, hq]
  · have hk : k = l.length := by simp at h; omega
    subst hk
    rw [List.drop_length, knFrom] at hq
    simp -dsimp -implicitDefEqProofs [-getElem?_pos, go_sem, hP, hq]
open Go.PA
open Go.RowKit
theorem strange1_pf (p : TPayment) (q : TQueue) (hl : q.Known.length ≤ 1000000) : PFun Tryz.prog none none 181 [.agg p.cells, .iref q.cells] (· = bv (!inK q.Known p)) := by
  refine pfun_intro Tryz.func181 rfl (by simp [Tryz.f181]) (by kernel_rfl) ?_
  intro E hP hr hs hW hN
  simp -dsimp -implicitDefEqProofs [-getElem?_pos, go_sem, hP, cPy, cQu]
  refine callB_is ((containsInt_pf q.Known p.Warrant hl).lift _ _) hP en_182 (by simp [imm_ints, imm_sc]) .sc ?_
  simp -dsimp -implicitDefEqProofs [-getElem?_pos, go_sem, hP, inK]
theorem bstrange_pf (q : TQueue) (l : List TPayment) (hq : q.Known.length ≤ 1000000) (hl : l.length ≤ 1000000) : PFun Tryz.prog none none 147 [.agg q.cells, paysL l] (· = bv (!l.all (inK q.Known))) := by
  refine pfun_intro Tryz.func147 rfl (by simp [Tryz.f147]) (by kernel_rfl) ?_
  intro E hP hr hs hW hN
  have iq := q.imm
  have ip := imm_pays l
  simp -dsimp -implicitDefEqProofs [-getElem?_pos, go_sem, hP, cQu, intsL]
  refine callB_pure (contains_pf_pay l 181 [.iref q.cells] (fun p => !inK q.Known p) hl en_181 (by simp [imm_iref]; exact q.imm) fun p _ => strange1_pf p q hq) hP en_180 (args_imm ip (args_fnc (cs := [.ref 0 0 0]) (by simp -dsimp -implicitDefEqProofs [-getElem?_pos, go_sem, viewR_ref, cQu, intsL]) (by simp [imm_iref]; exact q.imm) (args_nil.2 trivial))) .sc ?_
  have e : l.any (fun p => !inK q.Known p) = !l.all (inK q.Known) := by rw [List.not_all_eq_any_not]
  simp -dsimp -implicitDefEqProofs [-getElem?_pos, go_sem, hP, e]
theorem getM_put {β : Type} (l : List (Int × β)) (k a : Int) (v : β) : getM (putM l k v) a = if a = k then some v else getM l a := by
  induction l with
  | nil =>
    simp only [putM, getM]
    by_cases h : a = k
    · subst h; simp
    · rw [if_neg (fun e => h e.symm), if_neg h]
  | cons e l ih =>
    simp only [putM]
    by_cases h : e.1 = k
    · rw [if_pos h]
      simp only [getM]
      by_cases h' : a = k
      · subst h'; simp
      · rw [if_neg (fun e => h' e.symm), if_neg h', if_neg (fun e' => h' (e'.symm.trans h))]
    · rw [if_neg h]
      simp only [getM, ih]
      by_cases h' : e.1 = a
      · rw [if_pos h', if_pos h', if_neg (fun e' => h (h'.trans e'))]
      · rw [if_neg h', if_neg h']
def seenM (l : List TPayment) : List (Int × Bool) := l.foldl (fun m p => putM m p.Warrant true) []
theorem seen_from (w : Int) : ∀ (l : List TPayment) (m : List (Int × Bool)), (getM (l.foldl (fun m p => putM m p.Warrant true) m) w).getD false = ((getM m w).getD false || l.any fun x => decide (x.Warrant = w))
  | [], m => by simp
  | p :: l, m => by
    rw [List.foldl_cons, seen_from w l, getM_put, List.any_cons]
    by_cases h : w = p.Warrant
    · simp [h]
    · have h' : ¬ p.Warrant = w := fun e => h e.symm
      simp [h, h']
theorem seen_get (l : List TPayment) (w : Int) : (getM (seenM l) w).getD false = l.any fun x => decide (x.Warrant = w) := by
  rw [seenM, seen_from]
  simp [getM]
theorem seen_snoc (l : List TPayment) (p : TPayment) : putM (seenM l) p.Warrant true = seenM (l ++ [p]) := by
  rw [seenM, seenM, List.foldl_append]
  rfl
theorem btwice_pf (l : List TPayment) (hl : l.length ≤ 1000000) : PFun Tryz.prog none none 148 [paysL l] (· = bv (!distFrom [] l)) := by
  refine pfun_intro Tryz.func148 rfl (by simp [Tryz.f148]) (by kernel_rfl) ?_
  intro E hP hr hs hW hN
  obtain ⟨R, hR⟩ : ∃ R, R = distFrom [] l := ⟨_, rfl⟩
  rw [← hR]
  simp -dsimp -implicitDefEqProofs [-getElem?_pos, go_sem, hP]
  obtain ⟨I, hI⟩ : ∃ I : Nat → St → Prop, I = fun m s => ∃ k : Nat, k ≤ l.length ∧ m = l.length - k ∧ R = distFrom (l.take k) (l.drop k) ∧ s.t 3 = .mref 0 ∧ s.t 7 = paysL l ∧ s.t 8 = iv l.length ∧ s.t 9 = iv k ∧ s.H[0]? = some (some ⟨0, 2, encK valB (seenM (l.take k))⟩) := ⟨_, rfl⟩
  refine aloop0 I (l.length) (by rw [hN]; rfl) ?_ ?_
  · rw [hI]
    exact ⟨0, by omega, by omega, by rw [hR]; rfl, by simp -dsimp -implicitDefEqProofs [-getElem?_pos, go_sem], by simp -dsimp -implicitDefEqProofs [-getElem?_pos, go_sem], by simp -dsimp -implicitDefEqProofs [-getElem?_pos, go_sem], by simp -dsimp -implicitDefEqProofs [-getElem?_pos, go_sem], by simp -dsimp -implicitDefEqProofs [-getElem?_pos, go_sem]; rfl⟩
  intro m s hs'
  rw [hI] at hs'
  obtain ⟨k, hk, hm, hq, t3, t7, t8, t9, hH⟩ := hs'
  have lt0 := (List.getElem?_eq_some_iff.1 hH).1
  simp -dsimp -implicitDefEqProofs [-getElem?_pos, go_sem, hP, t8, t9]
  refine condP (fun h => ?_) (fun h => ?_)
  · have hk : k < l.length := by simpa using h
    obtain ⟨p, hp⟩ : ∃ p, l[k]? = some p := ⟨_, List.getElem?_eq_getElem hk⟩
    have wk := wrap_in ((k : Int) + 1) (by omega)
    rw [drop_at hp, distFrom] at hq
    have sg := seen_get (l.take k) p.Warrant
    have ss := seen_snoc (l.take k) p
    rw [← take_at hp] at ss hq
    generalize seenM (l.take k) = M at sg ss hH
    generalize (l.take k).any (fun x => decide (x.Warrant = p.Warrant)) = y at sg hq
    cases y
    · rw [Bool.not_false, Bool.true_and] at hq
      simp -dsimp -implicitDefEqProofs [-getElem?_pos, go_sem, hP, t7, t9, hp, cPy, t3, lt0, hH, sg]
      simp -dsimp -implicitDefEqProofs [-getElem?_pos, go_sem, hP, t3, lt0, hH, wk, t9, ss]
      refine ⟨l.length - (k + 1), by omega, ?_⟩
      rw [hI]
      exact ⟨k + 1, by omega, rfl, hq, by simp -dsimp -implicitDefEqProofs [-getElem?_pos, go_sem, t3], by simp -dsimp -implicitDefEqProofs [-getElem?_pos, go_sem, t7], by simp -dsimp -implicitDefEqProofs [-getElem?_pos, go_sem, t8], by simp -dsimp -implicitDefEqProofs [-getElem?_pos, go_sem], by simp -dsimp -implicitDefEqProofs [-getElem?_pos, go_sem, lt0]⟩
    · rw [Bool.not_true, Bool.false_and] at hq
      simp -dsimp -implicitDefEqProofs [-getElem?_pos, go_sem, hP, t7, t9, hp, cPy, t3, lt0, hH, sg, hq]
  · have hk : k = l.length := by simp at h; omega
    subst hk
    rw [List.drop_length, distFrom] at hq
    simp -dsimp -implicitDefEqProofs [-getElem?_pos, go_sem, hP, hq]
theorem cvalid_pf (d : Int) : PFun Tryz.prog none none 66 [iv d] (· = bv (amg d 0 36000)) := by
  refine pfun_intro Tryz.func66 rfl (by simp [Tryz.f66]) (by kernel_rfl) ?_
  intro E hP hr hs hW hN
  by_cases h1 : 0 ≤ d <;> by_cases h2 : d ≤ 36000 <;> simp -dsimp -implicitDefEqProofs [-getElem?_pos, go_sem, hP, h1, h2, amg]
theorem r02valid_pf (d : Int) : PFun Tryz.prog none none 103 [iv d] (· = bv (amg d 0 36000)) := by
  refine pfun_intro Tryz.func103 rfl (by simp [Tryz.f103]) (by kernel_rfl) ?_
  intro E hP hr hs hW hN
  by_cases h1 : 0 ≤ d <;> by_cases h2 : d ≤ 36000 <;> simp -dsimp -implicitDefEqProofs [-getElem?_pos, go_sem, hP, h1, h2, amg]
theorem cbusiness_pf (d : Int) : PFun Tryz.prog none none 155 [iv d] (· = bv (busB d)) := by
  refine pfun_intro Tryz.func155 rfl (by simp [Tryz.f155]) (by kernel_rfl) ?_
  intro E hP hr hs hW hN
  simp -dsimp -implicitDefEqProofs [-getElem?_pos, go_sem, hP]
  refine callB_pure (cvalid_pf d) hP en_66 (args_same (by simp -dsimp -implicitDefEqProofs [-getElem?_pos, go_sem])) .sc ?_
  cases h : amg d 0 36000
  · simp -dsimp -implicitDefEqProofs [-getElem?_pos, go_sem, hP, h, busB]
  have hd := amg_iff.1 h
  have e : d.tmod 7 = d % 7 := Int.tmod_eq_emod_of_nonneg (by omega)
  have w := wrap_in (d % 7) (by omega)
  simp -dsimp -implicitDefEqProofs [-getElem?_pos, go_sem, hP, h, busB, e, w]
theorem r02business_pf (d : Int) : PFun Tryz.prog none none 46 [iv d] (· = bv (busB d)) := by
  refine pfun_intro Tryz.func46 rfl (by simp [Tryz.f46]) (by kernel_rfl) ?_
  intro E hP hr hs hW hN
  simp -dsimp -implicitDefEqProofs [-getElem?_pos, go_sem, hP]
  refine callB_pure (r02valid_pf d) hP en_103 (args_same (by simp -dsimp -implicitDefEqProofs [-getElem?_pos, go_sem])) .sc ?_
  cases h : amg d 0 36000
  · simp -dsimp -implicitDefEqProofs [-getElem?_pos, go_sem, hP, h, busB]
  have hd := amg_iff.1 h
  have e : d.tmod 7 = d % 7 := Int.tmod_eq_emod_of_nonneg (by omega)
  have w := wrap_in (d % 7) (by omega)
  simp -dsimp -implicitDefEqProofs [-getElem?_pos, go_sem, hP, h, busB, e, w]
open Go.PA
open Go.RowKit
set_option maxHeartbeats 1000000 in
theorem bsent_pf (q : TQueue) (hf : FitQ q) : PFun Tryz.prog none none 149 [.agg q.cells] (· = bv (batsFrom q.Known 0 0 q.Batches)) := by
  refine pfun_intro Tryz.func149 rfl (by simp [Tryz.f149]) (by kernel_rfl) ?_
  intro E hP hr hs hW hN
  have iq := imm_que q
  obtain ⟨R, hR⟩ : ∃ R, R = batsFrom q.Known 0 0 q.Batches := ⟨_, rfl⟩
  rw [← hR]
  have str := bstrange_pf q
  rw [cQu] at iq str
  simp only [intsL] at iq str
  have hk9 := hf.k
  have hb9 := hf.b
  obtain ⟨l, hl⟩ : ∃ l, l = q.Batches := ⟨_, rfl⟩
  have each : ∀ b, b ∈ l → b.Payments.length ≤ 100000 := hl ▸ hf.each
  rw [← hl] at hR hb9 str iq
  simp -dsimp -implicitDefEqProofs [-getElem?_pos, go_sem, hP, cQu, intsL, ← hl]
  obtain ⟨I, hI⟩ : ∃ I : Nat → St → Prop, I = fun m s => ∃ (k : Nat) (d : Int), k ≤ l.length ∧ m = l.length - k ∧ R = batsFrom q.Known k d (l.drop k) ∧ s.t 1 = .ref 0 0 0 ∧ s.t 3 = iv d ∧ s.t 7 = batsL l ∧ s.t 8 = iv l.length ∧ s.t 9 = iv k ∧ s.H[0]? = some (some ⟨32, 3, [[paysL q.Waiting, .list 1 (q.Known.map fun x => [iv x]), batsL l]]⟩) := ⟨_, rfl⟩
  refine aloop0 I (l.length) (by rw [hN]; rfl) ?_ ?_
  · rw [hI]
    exact ⟨0, 0, by omega, by omega, by rw [hR]; rfl, by simp -dsimp -implicitDefEqProofs [-getElem?_pos, go_sem], by simp -dsimp -implicitDefEqProofs [-getElem?_pos, go_sem], by simp -dsimp -implicitDefEqProofs [-getElem?_pos, go_sem], by simp -dsimp -implicitDefEqProofs [-getElem?_pos, go_sem], by simp -dsimp -implicitDefEqProofs [-getElem?_pos, go_sem], by simp -dsimp -implicitDefEqProofs [-getElem?_pos, go_sem]⟩
  intro m s hs'
  rw [hI] at hs'
  obtain ⟨k, d, hk, hm, hq, t1, t3, t7, t8, t9, h0⟩ := hs'
  have lt0 := (List.getElem?_eq_some_iff.1 h0).1
  simp -dsimp -implicitDefEqProofs [-getElem?_pos, go_sem, hP, t8, t9]
  refine condP (fun h => ?_) (fun h => ?_)
  · have hk : k < l.length := by simpa using h
    obtain ⟨b, hb⟩ : ∃ b, l[k]? = some b := ⟨_, List.getElem?_eq_getElem hk⟩
    have hbl := each b (List.mem_of_getElem? hb)
    have wk := wrap_in ((k : Int) + 1) (by omega)
    have ip := imm_pays b.Payments
    rw [drop_at hb, batsFrom, batB] at hq
    simp -dsimp -implicitDefEqProofs [-getElem?_pos, go_sem, hP, t7, t9, hb, cBt]
    by_cases c1 : b.Number = (k : Int) + 1
    rotate_left
    · rw [decide_eq_false c1, Bool.false_and, Bool.false_and] at hq
      have d1 := decide_eq_false c1
      simp -dsimp -implicitDefEqProofs [-getElem?_pos, go_sem, hP, wk, c1, d1, hq]
    rw [decide_eq_true c1, Bool.true_and] at hq
    by_cases c2 : d ≤ b.Day
    rotate_left
    · rw [decide_eq_false c2, Bool.false_and, Bool.false_and] at hq
      have d2 : decide (b.Day < d) = true := decide_eq_true (by omega)
      simp -dsimp -implicitDefEqProofs [-getElem?_pos, go_sem, hP, wk, c1, t3, d2, hq]
    rw [decide_eq_true c2, Bool.true_and] at hq
    have d2 : decide (b.Day < d) = false := decide_eq_false (by omega)
    simp -dsimp -implicitDefEqProofs [-getElem?_pos, go_sem, hP, wk, c1, t3, d2]
    refine callB_pure (cbusiness_pf b.Day) hP en_155 (args_same (by simp -dsimp -implicitDefEqProofs [-getElem?_pos, go_sem])) .sc ?_
    cases c3 : busB b.Day
    · rw [c3, Bool.false_and, Bool.false_and] at hq
      simp -dsimp -implicitDefEqProofs [-getElem?_pos, go_sem, hP, c3, hq]
    rw [c3, Bool.true_and] at hq
    simp -dsimp -implicitDefEqProofs [-getElem?_pos, go_sem, hP, c3]
    refine callB_pure (bamong_pf b.Payments.length 1 10) hP en_179 (args_same (by simp -dsimp -implicitDefEqProofs [-getElem?_pos, go_sem])) .sc ?_
    cases c4 : amg b.Payments.length 1 10
    · rw [c4, Bool.false_and, Bool.false_and] at hq
      simp -dsimp -implicitDefEqProofs [-getElem?_pos, go_sem, hP, c4, hq]
    rw [c4, Bool.true_and, ascB] at hq
    simp -dsimp -implicitDefEqProofs [-getElem?_pos, go_sem, hP, c4]
    refine callB_is ((bordered_pf b.Payments (by omega)).lift _ _) hP en_145 (by simpa using ip) .sc ?_
    cases c5 : ordFrom none b.Payments
    · rw [c5, Bool.false_and, Bool.false_and] at hq
      simp -dsimp -implicitDefEqProofs [-getElem?_pos, go_sem, hP, c5, hq]
    rw [c5, Bool.true_and] at hq
    simp -dsimp -implicitDefEqProofs [-getElem?_pos, go_sem, hP, c5, t1, h0, lt0]
    refine callB_is ((str b.Payments (by omega) (by omega)).lift _ _) hP en_147 (by simpa using ⟨iq, ip⟩) .sc ?_
    cases c6 : b.Payments.all (inK q.Known)
    · rw [c6, Bool.false_and, Bool.false_and] at hq
      simp -dsimp -implicitDefEqProofs [-getElem?_pos, go_sem, hP, c6, hq]
    rw [c6, Bool.true_and] at hq
    simp -dsimp -implicitDefEqProofs [-getElem?_pos, go_sem, hP, c6]
    refine callB_is ((btwice_pf b.Payments (by omega)).lift _ _) hP en_148 (by simpa using ip) .sc ?_
    cases c7 : distFrom [] b.Payments
    · rw [c7, Bool.false_and] at hq
      simp -dsimp -implicitDefEqProofs [-getElem?_pos, go_sem, hP, c7, hq]
    rw [c7, Bool.true_and] at hq
    simp -dsimp -implicitDefEqProofs [-getElem?_pos, go_sem, hP, c7, t9, wk]
    refine ⟨l.length - (k + 1), by omega, ?_⟩
    rw [hI]
    exact ⟨k + 1, b.Day, by omega, rfl, hq, by simp -dsimp -implicitDefEqProofs [-getElem?_pos, go_sem, t1], by simp -dsimp -implicitDefEqProofs [-getElem?_pos, go_sem], by simp -dsimp -implicitDefEqProofs [-getElem?_pos, go_sem, t7], by simp -dsimp -implicitDefEqProofs [-getElem?_pos, go_sem, t8], by simp -dsimp -implicitDefEqProofs [-getElem?_pos, go_sem], by simp -dsimp -implicitDefEqProofs [-getElem?_pos, go_sem, lt0, h0]⟩
  · have hk : k = l.length := by simp at h; omega
    subst hk
    rw [List.drop_length, batsFrom] at hq
    simp -dsimp -implicitDefEqProofs [-getElem?_pos, go_sem, hP, hq]
set_option maxHeartbeats 1000000 in
theorem bcheck_pf (q : TQueue) (hf : FitQ q) : PFun Tryz.prog none none 90 [.agg q.cells] (· = iv (checkQ q)) := by
  refine pfun_intro Tryz.func90 rfl (by simp [Tryz.f90]) (by kernel_rfl) ?_
  intro E hP hr hs hW hN
  have iq := imm_que q
  have iw := imm_pays q.Waiting
  have ik := imm_ints q.Known
  obtain ⟨R, hR⟩ : ∃ R, R = checkQ q := ⟨_, rfl⟩
  rw [← hR]
  have str := bstrange_pf q
  have sen := bsent_pf q hf
  have knn := bknown_pf q.Known (by have := hf.k; omega)
  rw [cQu] at iq str sen
  simp only [intsL] at iq str sen knn ik
  have hk9 := hf.k
  have hb9 := hf.b
  have hw9 := hf.w
  rw [checkQ] at hR
  by_cases c1 : 100 < q.Waiting.length
  · have d1 : decide ((100 : Int) < (q.Waiting.length : Int)) = true := decide_eq_true (by omega)
    rw [if_pos (.inl c1)] at hR
    simp -dsimp -implicitDefEqProofs [-getElem?_pos, go_sem, hP, cQu, intsL, c1, d1, hR]
  have d1 : decide ((100 : Int) < (q.Waiting.length : Int)) = false := decide_eq_false (by omega)
  by_cases c2 : 200 < q.Known.length
  · have d2 : decide ((200 : Int) < (q.Known.length : Int)) = true := decide_eq_true (by omega)
    rw [if_pos (.inr (.inl c2))] at hR
    simp -dsimp -implicitDefEqProofs [-getElem?_pos, go_sem, hP, cQu, intsL, c1, d1, c2, d2, hR]
  have d2 : decide ((200 : Int) < (q.Known.length : Int)) = false := decide_eq_false (by omega)
  by_cases c3 : 200 < q.Batches.length
  · have d3 : decide ((200 : Int) < (q.Batches.length : Int)) = true := decide_eq_true (by omega)
    rw [if_pos (.inr (.inr c3))] at hR
    simp -dsimp -implicitDefEqProofs [-getElem?_pos, go_sem, hP, cQu, intsL, c1, d1, c2, d2, c3, d3, hR]
  have d3 : decide ((200 : Int) < (q.Batches.length : Int)) = false := decide_eq_false (by omega)
  rw [if_neg (by omega), ascB] at hR
  simp -dsimp -implicitDefEqProofs [-getElem?_pos, go_sem, hP, cQu, intsL, d1, d2, d3]
  refine callB_is ((bordered_pf q.Waiting (by omega)).lift _ _) hP en_145 (by simpa using iw) .sc ?_
  cases c5 : ordFrom none q.Waiting
  · rw [c5, Bool.false_and, Bool.false_and, Bool.and_false, if_neg (by simp)] at hR
    simp -dsimp -implicitDefEqProofs [-getElem?_pos, go_sem, hP, c5, hR]
  rw [c5, Bool.true_and] at hR
  simp -dsimp -implicitDefEqProofs [-getElem?_pos, go_sem, hP, c5]
  refine callB_is (knn.lift _ _) hP en_146 (by simpa using ik) .sc ?_
  cases c4 : knFrom none q.Known
  · rw [c4, Bool.false_and, if_neg (by simp)] at hR
    simp -dsimp -implicitDefEqProofs [-getElem?_pos, go_sem, hP, c4, hR]
  rw [c4, Bool.true_and] at hR
  simp -dsimp -implicitDefEqProofs [-getElem?_pos, go_sem, hP, c4]
  refine callB_is ((str q.Waiting (by omega) (by omega)).lift _ _) hP en_147 (by simpa using ⟨iq, iw⟩) .sc ?_
  cases c6 : q.Waiting.all (inK q.Known)
  · rw [c6, Bool.false_and, Bool.false_and, if_neg (by simp)] at hR
    simp -dsimp -implicitDefEqProofs [-getElem?_pos, go_sem, hP, c6, hR]
  rw [c6, Bool.true_and] at hR
  simp -dsimp -implicitDefEqProofs [-getElem?_pos, go_sem, hP, c6]
  refine callB_is ((btwice_pf q.Waiting (by omega)).lift _ _) hP en_148 (by simpa using iw) .sc ?_
  cases c7 : distFrom [] q.Waiting
  · rw [c7, Bool.false_and, if_neg (by simp)] at hR
    simp -dsimp -implicitDefEqProofs [-getElem?_pos, go_sem, hP, c7, hR]
  rw [c7, Bool.true_and] at hR
  simp -dsimp -implicitDefEqProofs [-getElem?_pos, go_sem, hP, c7]
  refine callB_is (sen.lift _ _) hP en_149 (by simpa using iq) .sc ?_
  cases c8 : batsFrom q.Known 0 0 q.Batches
  · rw [c8, if_neg (by simp)] at hR
    simp -dsimp -implicitDefEqProofs [-getElem?_pos, go_sem, hP, c8, hR]
  rw [c8, if_pos rfl] at hR
  simp -dsimp -implicitDefEqProofs [-getElem?_pos, go_sem, hP, c8, hR]
end Go.Proofs.YtpjecipdklcjbaaGreatDoor
