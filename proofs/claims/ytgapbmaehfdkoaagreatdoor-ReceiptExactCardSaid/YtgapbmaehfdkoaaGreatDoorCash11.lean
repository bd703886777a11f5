/- Receipts: an income is taken in, by the reference. -/
import Derived.Test.YtgapbmaehfdkoaaGreatDoorCash10
set_option linter.unusedSimpArgs false
set_option linter.unusedVariables false
namespace Go.Proofs.YtgapbmaehfdkoaaGreatDoor
open Go.PA
open Go.RowKit

/-- The oldest open claim meets the income: the others stay, or nothing is loose any more. -/
theorem openK_meet {d : TCash} {i k : Nat} {r : List Nat} {p lo : Int} {y : TIncome} (hl : d.Loose[i]? = some lo) (h0 : 0 < lo) (hy : d.Incomes[i]? = some y) (hk : openK d.Claims p = k :: r) :
    ∃ x, d.Claims[k]? = some x ∧ 0 < x.Open ∧ (openK (meet d i k).Claims p = r ∨ (meet d i k).Loose[i]? = some 0) := by
  have hmem : k ∈ openK d.Claims p := by rw [hk]; simp
  obtain ⟨x, hx, _, hxo⟩ := openK_mem.1 hmem
  have nd := openK_nodup d.Claims p
  rw [hk, List.nodup_cons] at nd
  have hn : ¬ min lo x.Open = 0 := by omega
  have em := meet_at hl hx hy hn
  refine ⟨x, hx, hxo, ?_⟩
  by_cases hle : lo ≤ x.Open
  · refine .inr ?_
    rw [em]
    show (d.Loose.set i _)[i]? = some 0
    rw [List.getElem?_set_self (List.getElem?_eq_some_iff.1 hl).1]
    congr 1
    omega
  · refine .inl ?_
    rw [em]
    show openK (d.Claims.set k { x with Open := x.Open - min lo x.Open }) p = r
    rw [openK_set (y := { x with Open := x.Open - min lo x.Open }) hx rfl (by show x.Open - min lo x.Open = 0; omega), hk, List.filter_cons, if_neg (by simp)]
    exact List.filter_eq_self.2 fun j hj => by
      simp only [decide_eq_true_eq]
      rintro rfl
      exact nd.1 hj
theorem meet_new {d : TCash} {i k : Nat} {lo : Int} {x : TClaim} {y : TIncome} (h1 : d.Loose[i]? = some lo) (h2 : d.Claims[k]? = some x) (h3 : d.Incomes[i]? = some y) (hn : ¬ min lo x.Open = 0) : (meet d i k).Matches = d.Matches ++ [⟨y.Number, x.ID, min lo x.Open⟩] := by
  rw [meet_at h1 h2 h3 hn]

theorem GoodD.fit {c : TCash} {x : TIncome} {d : TCash} (g : GoodD c x d) (h : cashE c = 0) (hf : FitC c) : FitC d := by
  have l := (cashE_ok.1 h).1
  have l2 := (cashE_ok.1 h).2.len
  refine ⟨by rw [g.fall.cn]; exact hf.fc, by rw [g.fall.inc]; simp [Go.Proofs.YtgapbmaehfdkoaaGreatDoor.start]; omega, by have := g.len; omega, by rw [g.fall.ln]; simp [Go.Proofs.YtgapbmaehfdkoaaGreatDoor.start]; omega, fun z hz => ?_⟩
  obtain ⟨k, hk⟩ := List.getElem?_of_mem hz
  obtain ⟨y, hy, _, _, e⟩ := g.fall.back hk
  rw [e]
  exact hf.code y (List.mem_of_getElem? hy)
theorem HC.cw {n0 : Nat} {H : Heap} {p : Nat} {c : TCash} {A B D F : AV} (h : HC n0 H p c A B D F) : CW H [A, B, D, F] c.cells := by
  rw [cCsh]
  exact h.a.cw (imm_claims _) (h.b.cw (imm_incomes _) (h.d.cw (imm_matches _) (h.f.cw (c.imm _ (by simp [cCsh])) .nil)))
/-- The matches of this income. -/
def Out (H : Heap) (D X : AV) (new : List TMatch) : Prop := (X = .nil ∧ new = []) ∨ ∃ o, 3 ≤ o ∧ X = .sref o 0 new.length ∧ H[o]? = some (some ⟨40, 3, encL TMatch.cells new⟩) ∧ ¬ isS D o
theorem Out.kept {H H' : Heap} {d : TCash} {A B D F D' X : AV} {new : List TMatch} (h : Out H D X new) (hc : HC 3 H 0 d A B D F) (hk : KeptS 0 A D F H H') (hf : ∀ j, isS D' j → isS D j ∨ H.length ≤ j) : Out H' D' X new := by
  rcases h with h | ⟨o, h1, h2, h3, h4⟩
  · exact .inl h
  · have lt := (List.getElem?_eq_some_iff.1 h3).1
    refine .inr ⟨o, h1, h2, hk _ _ (by omega) (fun hs => ?_) h4 (fun hs => ?_) h3, fun hs => ?_⟩
    · obtain ⟨a, _, rfl, ha⟩ := hc.a
      rw [isS_iff] at hs
      subst hs
      exact obj_ne ha h3 (by simp) rfl
    · obtain ⟨a, _, rfl, ha⟩ := hc.f
      rw [isS_iff] at hs
      subst hs
      exact obj_ne ha h3 (by simp) rfl
    · rcases hf o hs with hs | hs
      · exact h4 hs
      · omega
theorem Own.setO {n0 : Nat} {H : Heap} {x : AV} {ty : TypeId} {k : Nat} {es : List (List AV)} {o : Nat} (h : Own n0 H x ty k es) (hn : ¬ isS x o) (z : Option AObj) : Own n0 (H.set o z) x ty k es := by
  obtain ⟨id, h1, rfl, h3⟩ := h
  rw [isS_iff] at hn
  exact ⟨id, h1, rfl, by rw [List.getElem?_set_ne (fun e => hn e.symm)]; exact h3⟩
theorem HC.setO {n0 : Nat} {H : Heap} {p : Nat} {c : TCash} {A B D F : AV} (h : HC n0 H p c A B D F) {o : Nat} {es : List (List AV)} (ho : H[o]? = some (some ⟨40, 3, es⟩)) (hD : ¬ isS D o) (z : Option AObj) : HC n0 (H.set o z) p c A B D F :=
  ⟨by rw [List.length_set]; exact h.len, by rw [List.getElem?_set_ne (obj_ne ho h.obj (by simp))]; exact h.obj, h.a.set ho (by simp), h.b.set ho (by simp), h.d.setO hD z, h.f.set ho (by simp)⟩
theorem Own.lt {n0 : Nat} {H : Heap} {x : AV} {ty : TypeId} {k : Nat} {es : List (List AV)} (h : Own n0 H x ty k es) {j : Nat} (hj : isS x j) : j < H.length := by
  obtain ⟨id, _, rfl, h3⟩ := h
  rw [isS_iff] at hj
  subst hj
  exact (List.getElem?_eq_some_iff.1 h3).1
theorem done_cashG {H : Heap} {cs cs' : List AV} {D X : AV} {new : List TMatch} {v : Value} {Q : AV → Prop} {b : Bx Q} (h : CW H cs cs') (ho : Out H D X new) (hq : Q (.tup [.agg cs', matchesL new, .sc v])) : Done H (.tup [.agg cs, X, .sc v]) Q b := by
  rcases ho with ⟨rfl, rfl⟩ | ⟨o, _, rfl, h3, _⟩
  · exact done_weak (imm_trip h.imm .nil .sc) (imm_trip h.imm' (imm_matches []) .sc) (weak_tup3 h.weak (.nil 3) (.refl _)) hq
  · have hv : view2 H (.sref o 0 new.length) = matchesL new := by
      rw [view2_sref, h3, viewS_some]
      simp only [List.drop_zero]
      rw [List.take_of_length_le (by rw [encL_len]; omega)]
    exact done_weak (imm_trip h.imm (by rw [hv]; exact imm_matches new) .sc) (imm_trip h.imm' (imm_matches new) .sc) (weak_tup3 h.weak (by rw [hv]; exact .refl _) (.refl _)) hq
theorem meets_app (d : TCash) (i : Nat) (ks r : List Nat) : meets d i (ks ++ r) = meets (meets d i ks) i r := by simp [meets]
theorem Out.app {H l : Heap} {D X : AV} {new : List TMatch} (h : Out H D X new) : Out (H ++ l) D X new := by
  rcases h with h | ⟨o, h1, h2, h3, h4⟩
  · exact .inl h
  · exact .inr ⟨o, h1, h2, by rw [List.getElem?_append_left (List.getElem?_eq_some_iff.1 h3).1]; exact h3, h4⟩
def sameB (l : List TClaim) (p n : Int) (k : Nat) : Bool := match l[k]? with | some x => decide (x.Payer = p) && decide (x.Open = n) | none => false
theorem sameK_eq (l : List TClaim) (p n : Int) : sameK l p n = (List.range l.length).filter (sameB l p n) := rfl
def lastO (ks : List Nat) : Int := idxO ks.getLast?
theorem only_one {ks : List Nat} (h : ks.length = 1) : ∃ k, ks = [k] ∧ only ks = [k] ∧ lastO ks = k := by
  match ks, h with
  | [k], _ => exact ⟨k, rfl, rfl, rfl⟩
theorem only_none {ks : List Nat} (h : ¬ ks.length = 1) : only ks = [] := by
  match ks, h with
  | [], _ => rfl
  | _ :: _ :: _, _ => rfl
/-- The state in which an income is counted. -/
def TR (c : TCash) (O1 O2 : AObj) (n : Nat) (d : TCash) (new : List TMatch) (s : St) : Prop := s.t 2 = .ref 0 0 0 ∧ s.t 3 = .ref 1 0 0 ∧ s.t 4 = .ref 2 0 0 ∧ s.t 8 = iv n ∧ s.H[1]? = some (some O1) ∧ s.H[2]? = some (some O2) ∧ d.Matches = c.Matches ++ new ∧ ∃ A B D F, HC 3 s.H 0 d A B D F ∧ Out s.H D (s.t 9) new
theorem first_new {c : TCash} {x : TIncome} (h : cashE c = 0) (hx : 1 ≤ x.Amount) : ∃ new, (mid1 c x).Matches = c.Matches ++ new ∧ new.length ≤ 1 ∧ (((mid1 c x).Loose[c.Incomes.length]?).getD 0 = x.Amount ↔ new = []) := by
  have ok := (cashE_ok.1 h).2
  have h0 : (start c x).Loose[c.Incomes.length]? = some x.Amount := by simp [start, ok.len]
  have hy : (start c x).Incomes[c.Incomes.length]? = some x := by simp [start]
  have st : ∃ new, (start c x).Matches = c.Matches ++ new ∧ new.length ≤ 1 ∧ (((start c x).Loose[c.Incomes.length]?).getD 0 = x.Amount ↔ new = []) := ⟨[], by simp [start], by simp, by rw [h0]; simp⟩
  unfold mid1
  split
  · rename_i k hk
    split
    · rename_i hp
      obtain ⟨z, hz, _⟩ := payAt_some hk
      have hz' : (start c x).Claims[k]? = some z := hz
      by_cases hn : min x.Amount z.Open = 0
      · rw [meet_zero_eq h0 hz' hy hn]
        exact st
      · have zo := ok.pos.1 z (List.mem_of_getElem? hz)
        rw [meet_at h0 hz' hy hn]
        refine ⟨[⟨x.Number, z.ID, min x.Amount z.Open⟩], rfl, by simp, ?_⟩
        show ((((start c x).Loose.set _ _)[c.Incomes.length]?).getD 0 = x.Amount ↔ _)
        rw [List.getElem?_set_self (List.getElem?_eq_some_iff.1 h0).1]
        simp
        omega
    · exact st
  · exact st

/-- A match is put behind the others. -/
theorem put_out {c : TCash} {O1 O2 : AObj} {n : Nat} {d : TCash} {A B D F : AV} {H : Heap} {new : List TMatch} {m : TMatch} {z : AObj} (hm : d.Matches = c.Matches ++ (new ++ [m])) (h1 : H[1]? = some (some O1)) (h2 : H[2]? = some (some O2)) (hc : HC 3 H 0 d A B D F) :
    (∀ t : Nat → AV, Out H D .nil new → new = [] → t 2 = .ref 0 0 0 → t 3 = .ref 1 0 0 → t 4 = .ref 2 0 0 → t 8 = iv n → t 9 = .sref (H.length + 1) 0 1 → TR c O1 O2 n d (new ++ [m]) ⟨t, H ++ [some z, some ⟨40, 3, [[iv m.Income, iv m.Claim, iv m.Amount]]⟩]⟩) ∧
    (∀ (t : Nat → AV) (o : Nat), 3 ≤ o → H[o]? = some (some ⟨40, 3, encL TMatch.cells new⟩) → ¬ isS D o → t 2 = .ref 0 0 0 → t 3 = .ref 1 0 0 → t 4 = .ref 2 0 0 → t 8 = iv n → t 9 = .sref (H.length + 1) 0 (new.length + 1) → TR c O1 O2 n d (new ++ [m]) ⟨t, H.set o none ++ [some z, some ⟨40, 3, encL TMatch.cells new ++ [[iv m.Income, iv m.Claim, iv m.Amount]]⟩]⟩) := by
  have lt1 := (List.getElem?_eq_some_iff.1 h1).1
  have lt2 := (List.getElem?_eq_some_iff.1 h2).1
  have hl := hc.len
  constructor
  · intro t _ hn t2 t3 t4 t8 t9
    subst hn
    refine ⟨t2, t3, t4, t8, by simp only; rw [List.getElem?_append_left lt1]; exact h1, by simp only; rw [List.getElem?_append_left lt2]; exact h2, hm, A, B, D, F, hc.app, .inr ⟨H.length + 1, by omega, t9, ?_, fun hs => ?_⟩⟩
    · simp only
      rw [List.getElem?_append_right (by omega)]
      simp [encL, cMtc]
    · have := hc.d.lt hs
      omega
  · intro t o ho3 ho hD t2 t3 t4 t8 t9
    have hc' := hc.setO ho hD none
    refine ⟨t2, t3, t4, t8, by simp only; rw [List.getElem?_append_left (by rw [List.length_set]; exact lt1), List.getElem?_set_ne (by omega)]; exact h1, by simp only; rw [List.getElem?_append_left (by rw [List.length_set]; exact lt2), List.getElem?_set_ne (by omega)]; exact h2, hm, A, B, D, F, hc'.app, .inr ⟨H.length + 1, by omega, by show t 9 = _; rw [t9, List.length_append]; rfl, ?_, fun hs => ?_⟩⟩
    · simp only
      rw [List.getElem?_append_right (by simp)]
      simp [encL, cMtc]
    · have := hc.d.lt hs
      omega
set_option maxHeartbeats 8000000 in
set_option maxRecDepth 8000 in
theorem rtake_pf (c : TCash) (x : TIncome) (hf : FitC c) : PFun Tryz.prog none none 34 [.agg c.cells, .agg x.cells] (· = .tup [.agg (takeD c x).1.cells, matchesL (takeD c x).2.1, iv (takeD c x).2.2]) := by
  refine pfun_introA Tryz.func34 rfl (by simp [Tryz.f34]) ?_
  intro E hP hr hs hW hN
  have ck := crcheck_pf c hf
  have ic := imm_agg.2 c.imm
  have ix := imm_agg.2 x.imm
  have px := crincome_pf x
  rw [cCsh] at ck ic
  rw [cIncm] at px ix
  obtain ⟨Q, hQ⟩ : ∃ Q : AV → Prop, Q = (· = .tup [.agg (takeD c x).1.cells, matchesL (takeD c x).2.1, iv (takeD c x).2.2]) := ⟨_, rfl⟩
  rw [← hQ]
  obtain ⟨R, hR⟩ : ∃ R, R = takeD c x := ⟨_, rfl⟩
  rw [← hR] at hQ
  rw [takeD] at hR
  have hfc := hf.fc
  have hfi := hf.fi
  have hfm := hf.fm
  have hfl := hf.fl
  obtain ⟨O0, hO0⟩ : ∃ O : AObj, O = ⟨29, 4, [[claimsL c.Claims, incomesL c.Incomes, matchesL c.Matches, .list 1 (encL encI c.Loose)]]⟩ := ⟨_, rfl⟩
  obtain ⟨O1, hO1⟩ : ∃ O : AObj, O = ⟨32, 5, [[iv x.Number, iv x.Day, iv x.Payer, iv x.Amount, iv x.Claim]]⟩ := ⟨_, rfl⟩
  obtain ⟨O2, hO2⟩ : ∃ O : AObj, O = ⟨29, 4, [[.nil, .nil, .nil, .nil]]⟩ := ⟨_, rfl⟩
  obtain ⟨nI, hnI⟩ : ∃ n, n = c.Incomes.length := ⟨_, rfl⟩
  refine awp_cut (by rw [hN]; kernel_rfl) ?_
  simp -dsimp -implicitDefEqProofs [-getElem?_pos, go_sem, hP, cCsh, cIncm]
  simp only [← hO0, ← hO1, ← hO2]
  refine awp_cut (by rw [hN]; kernel_rfl) ?_
  simp -dsimp -implicitDefEqProofs [-getElem?_pos, go_sem, hP, hO0]
  refine callB_pure ck hP en_28 (args_same (by simpa using ic)) .sc ?_
  by_cases c1 : cashE c = 0
  rotate_left
  · rw [if_neg c1] at hR
    simp -dsimp -implicitDefEqProofs [-getElem?_pos, go_sem, hP, c1, hO2]
    refine done_noCash3 ?_
    rw [hQ, hR]
  rw [if_pos c1] at hR
  simp -dsimp -implicitDefEqProofs [-getElem?_pos, go_sem, hP, c1]
  refine awp_cut (by rw [hN]; kernel_rfl) ?_
  simp -dsimp -implicitDefEqProofs [-getElem?_pos, go_sem, hP, hO0, ← hnI]
  obtain ⟨InvA, hInvA⟩ : ∃ Inv : St → Prop, Inv = fun s => s.t 2 = .ref 0 0 0 ∧ s.t 3 = .ref 1 0 0 ∧ s.t 4 = .ref 2 0 0 ∧ s.t 8 = iv nI ∧ s.H = [some O0, some O1, some O2] := ⟨_, rfl⟩
  cases c2 : incB x
  · rw [if_neg (by simp [c2])] at hR
    refine awp_cut (by rw [hN]; kernel_rfl) ?_
    simp -dsimp -implicitDefEqProofs [-getElem?_pos, go_sem, hP, hO1]
    refine callB_pure px hP en_55 (args_same (by simpa using ix)) .sc ?_
    simp -dsimp -implicitDefEqProofs [-getElem?_pos, go_sem, hP, c2, hO2]
    refine done_noCash3 ?_
    rw [hQ, hR]
  rw [if_pos c2] at hR
  have pos := incB_pos c2
  have le5 := (cashE_ok.1 c1).1.2.1
  rw [← hnI] at le5
  have key : (nI = 0 ∧ lastN c = 0 ∧ lastD c = 0) ∨ ∃ (l : Nat) (z : TIncome), nI = l + 1 ∧ c.Incomes[l]? = some z ∧ lastN c = z.Number ∧ lastD c = z.Day := by
    rcases List.eq_nil_or_concat c.Incomes with hn | ⟨l, z, hn⟩
    · exact .inl ⟨by rw [hnI, hn]; rfl, by simp [lastN, hn], by simp [lastD, hn]⟩
    · rw [List.concat_eq_append] at hn
      exact .inr ⟨l.length, z, by rw [hnI, hn]; simp, by rw [hn]; simp, by simp [lastN, hn], by simp [lastD, hn]⟩
  by_cases c3 : lastN c < x.Number
  rotate_left
  · rw [if_neg c3] at hR
    rcases key with ⟨k1, k2, k3⟩ | ⟨l, z, k1, k2, k3, k4⟩
    · omega
    have d0 : decide ((0 : Int) < (l : Int) + 1) = true := decide_eq_true (by omega)
    have d3 : decide (x.Number ≤ z.Number) = true := decide_eq_true (by omega)
    have wn := wrap_in ((l : Int) + 1 - 1) (by omega)
    rw [Int.add_sub_cancel] at wn
    refine awp_cut (by rw [hN]; kernel_rfl) ?_
    simp -dsimp -implicitDefEqProofs [-getElem?_pos, go_sem, hP, hO1]
    refine callB_pure px hP en_55 (args_same (by simpa using ix)) .sc ?_
    simp -dsimp -implicitDefEqProofs [-getElem?_pos, go_sem, hP, c2]
    refine adrawB (fun _ => true) [] hP (by kernel_rfl) (by kernel_rfl) ?_
    simp -dsimp -implicitDefEqProofs [-getElem?_pos, go_sem, hP, hO0, hO1, k1, d0, wn, Int.add_sub_cancel, k2, cIncm, d3, hO2]
    refine done_noCash3 ?_
    rw [hQ, hR]
  rw [if_pos c3] at hR
  by_cases c4 : lastD c ≤ x.Day
  rotate_left
  · rw [if_neg c4] at hR
    rcases key with ⟨k1, k2, k3⟩ | ⟨l, z, k1, k2, k3, k4⟩
    · omega
    have d0 : decide ((0 : Int) < (l : Int) + 1) = true := decide_eq_true (by omega)
    have d3 : decide (x.Number ≤ z.Number) = false := decide_eq_false (by omega)
    have d4 : decide (x.Day < z.Day) = true := decide_eq_true (by omega)
    have wn := wrap_in ((l : Int) + 1 - 1) (by omega)
    rw [Int.add_sub_cancel] at wn
    refine awp_cut (by rw [hN]; kernel_rfl) ?_
    simp -dsimp -implicitDefEqProofs [-getElem?_pos, go_sem, hP, hO1]
    refine callB_pure px hP en_55 (args_same (by simpa using ix)) .sc ?_
    simp -dsimp -implicitDefEqProofs [-getElem?_pos, go_sem, hP, c2]
    refine adrawB (fun _ => true) [] hP (by kernel_rfl) (by kernel_rfl) ?_
    simp -dsimp -implicitDefEqProofs [-getElem?_pos, go_sem, hP, hO0, hO1, k1, d0, wn, Int.add_sub_cancel, k2, cIncm, d3]
    refine adrawB (fun _ => true) [] hP (by kernel_rfl) (by kernel_rfl) ?_
    simp -dsimp -implicitDefEqProofs [-getElem?_pos, go_sem, hP, hO0, hO1, k1, d0, wn, Int.add_sub_cancel, k2, cIncm, d4, hO2]
    refine done_noCash3 ?_
    rw [hQ, hR]
  rw [if_pos c4] at hR
  have roads : ∀ s0 : St, s0.t 2 = .ref 0 0 0 → True := fun _ _ => trivial
  rw [← hnI] at hR
  refine awp_join (fun s => nI < 100 ∧ InvA s) (by rw [hN]; kernel_rfl) ?_ ?_
  · rcases key with ⟨k1, k2, k3⟩ | ⟨l, z, k1, k2, k3, k4⟩
    · simp -dsimp -implicitDefEqProofs [-getElem?_pos, go_sem, hP, hO1]
      refine callB_pure px hP en_55 (args_same (by simpa using ix)) .sc ?_
      simp -dsimp -implicitDefEqProofs [-getElem?_pos, go_sem, hP, c2]
      refine adrawB (fun _ => true) [] hP (by kernel_rfl) (by kernel_rfl) ?_
      simp -dsimp -implicitDefEqProofs [-getElem?_pos, go_sem, hP, k1]
      refine adrawB (fun _ => true) [] hP (by kernel_rfl) (by kernel_rfl) ?_
      simp -dsimp -implicitDefEqProofs [-getElem?_pos, go_sem, hP, k1]
      refine ⟨_, Weaker.refl _, ?_⟩
      rw [hInvA]
      exact ⟨by simp -dsimp -implicitDefEqProofs [-getElem?_pos, go_sem], by simp -dsimp -implicitDefEqProofs [-getElem?_pos, go_sem], by simp -dsimp -implicitDefEqProofs [-getElem?_pos, go_sem], by simp -dsimp -implicitDefEqProofs [-getElem?_pos, go_sem, k1], by simp -dsimp -implicitDefEqProofs [-getElem?_pos, go_sem, hO0, hO1]⟩
    · have d0 : decide ((0 : Int) < (l : Int) + 1) = true := decide_eq_true (by omega)
      have d3 : decide (x.Number ≤ z.Number) = false := decide_eq_false (by omega)
      have d4 : decide (x.Day < z.Day) = false := decide_eq_false (by omega)
      have wn := wrap_in ((l : Int) + 1 - 1) (by omega)
      rw [Int.add_sub_cancel] at wn
      simp -dsimp -implicitDefEqProofs [-getElem?_pos, go_sem, hP, hO1]
      refine callB_pure px hP en_55 (args_same (by simpa using ix)) .sc ?_
      simp -dsimp -implicitDefEqProofs [-getElem?_pos, go_sem, hP, c2]
      refine adrawB (fun _ => true) [] hP (by kernel_rfl) (by kernel_rfl) ?_
      simp -dsimp -implicitDefEqProofs [-getElem?_pos, go_sem, hP, hO0, hO1, k1, d0, wn, Int.add_sub_cancel, k2, cIncm, d3]
      refine adrawB (fun _ => true) [] hP (by kernel_rfl) (by kernel_rfl) ?_
      simp -dsimp -implicitDefEqProofs [-getElem?_pos, go_sem, hP, hO0, hO1, k1, d0, wn, Int.add_sub_cancel, k2, cIncm, d4]
      by_cases c5 : l + 1 < 100
      · have d5 : decide ((l : Int) + 1 = 100) = false := decide_eq_false (by omega)
        have n5 : ¬ l = 99 := by omega
        simp -dsimp -implicitDefEqProofs [-getElem?_pos, go_sem, hP, d5, n5]
        refine ⟨_, Weaker.refl _, by omega, ?_⟩
        rw [hInvA]
        exact ⟨by simp -dsimp -implicitDefEqProofs [-getElem?_pos, go_sem], by simp -dsimp -implicitDefEqProofs [-getElem?_pos, go_sem], by simp -dsimp -implicitDefEqProofs [-getElem?_pos, go_sem], by simp -dsimp -implicitDefEqProofs [-getElem?_pos, go_sem, k1], by simp -dsimp -implicitDefEqProofs [-getElem?_pos, go_sem, hO0, hO1]⟩
      · have l5 : l = 99 := by omega
        have d5 : decide ((l : Int) + 1 = 100) = true := decide_eq_true (by omega)
        rw [if_neg (by omega)] at hR
        simp -dsimp -implicitDefEqProofs [-getElem?_pos, go_sem, hP, d5, l5, hO2]
        refine done_noCash3 ?_
        rw [hQ, hR]
  rintro s ⟨c5, hs'⟩
  rw [if_pos c5] at hR
  rw [hInvA] at hs'
  obtain ⟨t2, t3, t4, t8, sH⟩ := hs'
  have amt := incB_amount c2
  have ok := (cashE_ok.1 c1).2
  have ps := start_pos ok.pos (x := x) (by omega)
  have gs : GoodD c x (start c x) := .start c1
  -- copies
  have h0 : s.H[0]? = some (some O0) := by rw [sH]; rfl
  have h1 : s.H[1]? = some (some O1) := by rw [sH]; rfl
  have h2 : s.H[2]? = some (some O2) := by rw [sH]; rfl
  have h4 : s.H.length = 3 := by rw [sH]; rfl
  have lt0 := (List.getElem?_eq_some_iff.1 h0).1
  have cp := rcopied_c (row := E.row) (src := E.src) c s.H hf
  rw [cCsh, h4] at cp
  refine awp_cut (by rw [hN]; kernel_rfl) ?_
  simp -dsimp -implicitDefEqProofs [-getElem?_pos, go_sem, hP, t2, h0, hO0, lt0]
  refine callB_m cp hP en_66 ?_
  rintro r H1 ⟨⟨A, B, D, F, rfl, ha, hb, hd, hf'⟩, hk⟩
  have g0 := hk _ _ (by simp) h0
  have g1 := hk _ _ (by simp) h1
  have g2 := hk _ _ (by simp) h2
  clear sH h4 cp
  obtain ⟨a, na, rfl, ha⟩ := ha
  obtain ⟨b, nb, rfl, hb⟩ := hb
  obtain ⟨d, nd, rfl, hd⟩ := hd
  obtain ⟨f, nf, rfl, hf'⟩ := hf'
  have lto := (List.getElem?_eq_some_iff.1 g0).1
  have lta := (List.getElem?_eq_some_iff.1 ha).1
  have ltb := (List.getElem?_eq_some_iff.1 hb).1
  have ltd := (List.getElem?_eq_some_iff.1 hd).1
  have ltf := (List.getElem?_eq_some_iff.1 hf').1
  have n5 := obj_ne hb ha (by simp)
  have n6 := obj_ne hb hd (by simp)
  have n7 := obj_ne hb hf' (by simp)
  have n8 := obj_ne hf' ha (by simp)
  have n9 := obj_ne hf' hd (by simp)
  have n7' : ¬ f = b := fun e => n7 e.symm
  have lb := encL_len TIncome.cells c.Incomes
  have lf := rowsI_len c.Loose
  have ll := ok.len
  rw [← hnI] at lb hfi ll
  rw [ll] at lf hfl
  obtain ⟨PB, hPB⟩ : ∃ P, P = encL TIncome.cells c.Incomes := ⟨_, rfl⟩
  obtain ⟨PF, hPF⟩ : ∃ P, P = rowsI c.Loose := ⟨_, rfl⟩
  rw [← hPB] at hb lb
  rw [← hPF] at hf' lf
  rw [hO0] at g0
  simp only [encL_len, rowsI_len, ← hnI, ll, ← hPB, ← hPF, lb, lf]
  have nb1 : ¬ b = 1 := by omega
  have nf1 : ¬ f = 1 := by omega
  have nb0 : ¬ b = 0 := by omega
  have nf0 : ¬ f = 0 := by omega
  have na0 : ¬ a = 0 := by omega
  have nd0 : ¬ d = 0 := by omega
  have nb2 : ¬ b = 2 := by omega
  have nf2 : ¬ f = 2 := by omega
  have lt1' := (List.getElem?_eq_some_iff.1 g1).1
  have lt2' := (List.getElem?_eq_some_iff.1 g2).1
  have nb0' : ¬ 0 = b := by omega
  have nf0' : ¬ 0 = f := by omega
  have na0' : ¬ 0 = a := by omega
  have nd0' : ¬ 0 = d := by omega
  simp -dsimp -implicitDefEqProofs [-getElem?_pos, go_sem, hP, t2, g0, lto]
  refine awp_cut (by rw [hN]; kernel_rfl) ?_
  simp -dsimp -implicitDefEqProofs [-getElem?_pos, go_sem, hP]
  have hD : ∀ i, decide (i < 3) = true → i < H1.length ∧ ¬ b = i ∧ ¬ f = i := fun i hi => by
    have : i < 3 := by simpa using hi
    exact ⟨by omega, by omega, by omega⟩
  refine adrawB (fun i => decide (i < 3)) [12, 14] hP (by kernel_rfl) (by kernel_rfl) ?_
  simp -dsimp -implicitDefEqProofs [-getElem?_pos, go_sem, hP, restr_get, t2, g0, lto, t3, g1, lt1', hO1, hb, ltb, lb, hf', ltf, lf, nb1, nf1, nb0, nf0, nb0', nf0', n7, n7']
  refine ⟨by omega, by omega, agree_gen0 (by simp) fun i hi => ⟨by simp; exact (hD i hi).1, by simp [List.getElem?_set, (hD i hi).2.1]⟩, by omega, by omega, agree_gen (by simp) fun i hi => ⟨by simp; exact (hD i hi).1, by simp [List.getElem?_set, (hD i hi).2.1, (hD i hi).2.2]⟩, ?_⟩
  obtain ⟨InvB, hInvB⟩ : ∃ Inv : St → Prop, Inv = fun s => TR c O1 O2 nI (start c x) [] s ∧ s.t 9 = .nil := ⟨_, rfl⟩
  refine awp_join InvB (by rw [hN]; kernel_rfl) ?_ ?_
  · simp -dsimp -implicitDefEqProofs [-getElem?_pos, go_sem, hP]
    refine ⟨_, Weaker.refl _, ?_⟩
    rw [hInvB]
    refine ⟨⟨by simp -dsimp -implicitDefEqProofs [-getElem?_pos, go_sem, t2], by simp -dsimp -implicitDefEqProofs [-getElem?_pos, go_sem, t3], by simp -dsimp -implicitDefEqProofs [-getElem?_pos, go_sem, t4], by simp -dsimp -implicitDefEqProofs [-getElem?_pos, go_sem, t8], ?_, ?_, by simp [start], _, _, _, _, started (a := a) (b := H1.length) (d := d) (f := H1.length + 1) na (by omega) nd (by omega) (by simp; omega) rfl rfl rfl rfl ?_ ?_ ?_ ?_ ?_, .inl ⟨by simp -dsimp -implicitDefEqProofs [-getElem?_pos, go_sem], rfl⟩⟩, by simp -dsimp -implicitDefEqProofs [-getElem?_pos, go_sem]⟩
    · simp -dsimp -implicitDefEqProofs [-getElem?_pos, go_sem, lt1', nb1, nf1, g1]
    · simp -dsimp -implicitDefEqProofs [-getElem?_pos, go_sem, lt2', nb2, nf2, g2]
    · simp -dsimp -implicitDefEqProofs [-getElem?_pos, go_sem, lto, nb0', nf0', nb0, nf0, ← hnI, ll]
    · simp -dsimp -implicitDefEqProofs [-getElem?_pos, go_sem, lta, na0, na0', n5, n8, ha]
    · simp -dsimp -implicitDefEqProofs [-getElem?_pos, go_sem, ← hPB, nb0, lto]
    · simp -dsimp -implicitDefEqProofs [-getElem?_pos, go_sem, ltd, nd0, nd0', n6, n9, hd]
    · simp -dsimp -implicitDefEqProofs [-getElem?_pos, go_sem, ← hPF, nf0, lto]
  intro s hs'
  rw [hInvB] at hs'
  clear hInvA InvA InvB hInvB hk na nb nd nf ha hb hd hf' lta ltb ltd ltf n5 n6 n7 n8 n9 n7' lb lf hPB hPF nb1 nf1 nb0 nf0 na0 nd0 nb2 nf2 lt1' lt2' nb0' nf0' na0' nd0' hD t2 t3 t4 t8 h0 h1 h2 lt0 g0 g1 g2 lto
  -- the claim that it names
  obtain ⟨new1, hnew1, hnl1, hnz1⟩ := first_new c1 (by omega : 1 ≤ x.Amount)
  obtain ⟨InvC, hInvC⟩ : ∃ Inv : St → Prop, Inv = TR c O1 O2 nI (mid1 c x) new1 := ⟨_, rfl⟩
  have g1 : GoodD c x (mid1 c x) := by
    unfold mid1
    split
    · split
      · exact gs.meet c1 (by omega) _
      · exact gs
    · exact gs
  refine awp_join InvC (by rw [hN]; kernel_rfl) ?_ ?_
  · obtain ⟨⟨t2, t3, t4, t8, h1, h2, hm, A, B, D, F, hc, hout⟩, t9n⟩ := hs'
    have ca := crclaimAt_pf (start c x) x.Claim (gs.fit c1 hf)
    have ho := hc.obj
    have lto := (List.getElem?_eq_some_iff.1 ho).1
    have lt1 := (List.getElem?_eq_some_iff.1 h1).1
    have cw := hc.cw
    have same0 : mid1 c x = start c x → new1 = [] := fun e => by
      rw [e] at hnew1
      have : c.Matches ++ [] = c.Matches ++ new1 := by rw [List.append_nil]; exact hnew1
      exact (List.append_cancel_left this).symm
    simp -dsimp -implicitDefEqProofs [-getElem?_pos, go_sem, hP, t2, t3, ho, lto, h1, lt1, hO1]
    refine callB_pure ca hP en_57 (args_agg cw (args_same (by simp [imm_sc]))) .sc ?_
    have epay : payAt (start c x).Claims x.Claim = payAt c.Claims x.Claim := rfl
    rw [epay]
    cases hk : payAt c.Claims x.Claim with
    | none =>
      have e : mid1 c x = start c x := by unfold mid1; rw [hk]
      simp -dsimp -implicitDefEqProofs [-getElem?_pos, go_sem, hP, idxO]
      refine adrawB (fun _ => true) [] hP (by kernel_rfl) (by kernel_rfl) ?_
      simp -dsimp -implicitDefEqProofs [-getElem?_pos, go_sem, hP]
      refine ⟨_, Weaker.refl _, ?_⟩
      rw [hInvC, same0 e, e]
      exact ⟨by simp -dsimp -implicitDefEqProofs [-getElem?_pos, go_sem, t2], by simp -dsimp -implicitDefEqProofs [-getElem?_pos, go_sem, t3], by simp -dsimp -implicitDefEqProofs [-getElem?_pos, go_sem, t4], by simp -dsimp -implicitDefEqProofs [-getElem?_pos, go_sem, t8], h1, h2, hm, A, B, D, F, hc, by simp -dsimp -implicitDefEqProofs [-getElem?_pos, go_sem, hP]; exact hout⟩
    | some k =>
      obtain ⟨y, hy, hyid⟩ := payAt_some hk
      have hy' : (start c x).Claims[k]? = some y := hy
      have d0 : decide ((0 : Int) ≤ (k : Int)) = true := decide_eq_true (by omega)
      obtain ⟨a, na, hA, ha⟩ := hc.a
      have lta := (List.getElem?_eq_some_iff.1 ha).1
      have ra := rowsC_get hy'
      have la := encL_len TClaim.cells (start c x).Claims
      have ltk := (List.getElem?_eq_some_iff.1 hy').1
      have ho2 := ho
      rw [hA, la] at ho2
      obtain ⟨PA, hPA⟩ : ∃ P, P = encL TClaim.cells (start c x).Claims := ⟨_, rfl⟩
      rw [← hPA] at ha ra la
      by_cases e1 : y.Payer = x.Payer
      · have e : mid1 c x = meet (start c x) nI k := by
          unfold mid1
          rw [hk]
          simp only
          rw [if_pos (by rw [hy, ← e1]; rfl), hnI]
        obtain ⟨lo, hlo, lo1, lo2⟩ := gs.lo c1 (by omega)
        have yo := gs.cl c1 hy'
        have mm := rmatch_m (row := E.row) (src := E.src) hc (i := nI) (by rw [hnI]; exact hlo) hy' (by rw [hnI]; exact gs.inc) ⟨lo1, by omega⟩ yo (by have := gs.len; omega)
        simp -dsimp -implicitDefEqProofs [-getElem?_pos, go_sem, hP, idxO]
        refine adrawB (fun _ => true) [] hP (by kernel_rfl) (by kernel_rfl) ?_
        simp -dsimp -implicitDefEqProofs [-getElem?_pos, go_sem, hP, t2, t3, t8, ho2, lto, ha, lta, ra, la, ltk, h1, lt1, hO1, d0, e1]
        refine callB_m mm hP en_67 ?_
        rintro r H' ⟨rfl, ⟨D', hc', hfr⟩, hkk⟩
        have hout' := hout.kept hc hkk hfr
        have nS1 : ¬ isS A 1 := fun h => by rw [hA, isS_iff] at h; omega
        have nS2 : ¬ isS A 2 := fun h => by rw [hA, isS_iff] at h; omega
        have nD : ∀ j, j < 3 → ¬ isS D j := fun j hj h => by obtain ⟨i, h1, rfl, _⟩ := hc.d; rw [isS_iff] at h; omega
        have nF : ∀ j, j < 3 → ¬ isS F j := fun j hj h => by obtain ⟨i, h1, rfl, _⟩ := hc.f; rw [isS_iff] at h; omega
        have h1' := hkk 1 _ (by omega) nS1 (nD 1 (by omega)) (nF 1 (by omega)) h1
        have h2' := hkk 2 _ (by omega) nS2 (nD 2 (by omega)) (nF 2 (by omega)) h2
        have lt1' := (List.getElem?_eq_some_iff.1 h1').1
        have lt2' := (List.getElem?_eq_some_iff.1 h2').1
        by_cases hz : min lo y.Open = 0
        · have em : meet (start c x) nI k = start c x := meet_zero_eq (by rw [hnI]; exact hlo) hy' (by rw [hnI]; exact gs.inc) hz
          rw [em] at hc' e
          simp -dsimp -implicitDefEqProofs [-getElem?_pos, go_sem, hP, hz]
          refine ⟨_, Weaker.refl _, ?_⟩
          rw [hInvC, same0 e, e]
          refine ⟨by simp -dsimp -implicitDefEqProofs [-getElem?_pos, go_sem, t2], by simp -dsimp -implicitDefEqProofs [-getElem?_pos, go_sem, t3], by simp -dsimp -implicitDefEqProofs [-getElem?_pos, go_sem, t4], by simp -dsimp -implicitDefEqProofs [-getElem?_pos, go_sem, t8], by simp -dsimp -implicitDefEqProofs [-getElem?_pos, go_sem, lt1', h1'], by simp -dsimp -implicitDefEqProofs [-getElem?_pos, go_sem, lt2', h2'], hm, A, B, D', F, hc'.app, ?_⟩
          simp -dsimp -implicitDefEqProofs [-getElem?_pos, go_sem, hP]
          rcases hout' with ⟨q1, q2⟩ | ⟨o, _, q1, q2, _⟩
          · exact .inl ⟨q1, q2⟩
          · rename_i q3 q4
            exact .inr ⟨o, q3, q1, by rw [List.getElem?_append_left (List.getElem?_eq_some_iff.1 q2).1]; exact q2, q4⟩
        · have en := meet_new (i := nI) (by rw [hnI]; exact hlo) hy' (by rw [hnI]; exact gs.inc) hz
          have hnew' : new1 = [] ++ [⟨x.Number, y.ID, min lo y.Open⟩] := by
            rw [e, en, hm, List.append_nil] at hnew1
            exact (List.append_cancel_left hnew1).symm
          have hm' : (meet (start c x) nI k).Matches = c.Matches ++ ([] ++ [⟨x.Number, y.ID, min lo y.Open⟩]) := by rw [en, hm]; simp
          have po := (put_out (n := nI) (new := []) (z := ⟨40, 3, [[iv x.Number, iv y.ID, iv (min lo y.Open)]]⟩) hm' h1' h2' hc').1
          simp -dsimp -implicitDefEqProofs [-getElem?_pos, go_sem, hP, hz, t9n]
          refine ⟨_, Weaker.refl _, ?_⟩
          rw [hInvC, hnew', e]
          exact po _ (.inl ⟨rfl, rfl⟩) rfl (by simp -dsimp -implicitDefEqProofs [-getElem?_pos, go_sem, t2]) (by simp -dsimp -implicitDefEqProofs [-getElem?_pos, go_sem, t3]) (by simp -dsimp -implicitDefEqProofs [-getElem?_pos, go_sem, t4]) (by simp -dsimp -implicitDefEqProofs [-getElem?_pos, go_sem, t8]) (by simp -dsimp -implicitDefEqProofs [-getElem?_pos, go_sem])
      · have e : mid1 c x = start c x := by
          unfold mid1
          rw [hk]
          simp only
          rw [if_neg (by rw [hy]; exact fun h => e1 (Option.some.inj h))]
        simp -dsimp -implicitDefEqProofs [-getElem?_pos, go_sem, hP, idxO]
        refine adrawB (fun _ => true) [] hP (by kernel_rfl) (by kernel_rfl) ?_
        simp -dsimp -implicitDefEqProofs [-getElem?_pos, go_sem, hP, t2, t3, t8, ho2, lto, ha, lta, ra, la, ltk, h1, lt1, hO1, d0, e1]
        refine ⟨_, Weaker.refl _, ?_⟩
        rw [hInvC, same0 e, e]
        exact ⟨by simp -dsimp -implicitDefEqProofs [-getElem?_pos, go_sem, t2], by simp -dsimp -implicitDefEqProofs [-getElem?_pos, go_sem, t3], by simp -dsimp -implicitDefEqProofs [-getElem?_pos, go_sem, t4], by simp -dsimp -implicitDefEqProofs [-getElem?_pos, go_sem, t8], h1, h2, hm, A, B, D, F, hc, by simp -dsimp -implicitDefEqProofs [-getElem?_pos, go_sem, hP]; exact hout⟩
  -- the only one of just its amount
  clear hs' s
  intro s hs'
  rw [hInvC] at hs'
  obtain ⟨d1, hd1⟩ : ∃ d, d = mid1 c x := ⟨_, rfl⟩
  have em2 : mid2 c x = if (d1.Loose[nI]?).getD 0 = x.Amount then meets d1 nI (exactK d1.Claims x.Payer x.Amount) else d1 := by
    rw [hd1, hnI]
    rfl
  rw [← hd1] at hs' g1 hnew1 hnz1
  obtain ⟨d2, hd2⟩ : ∃ d, d = mid2 c x := ⟨_, rfl⟩
  rw [← hd2] at em2
  have g2 : GoodD c x d2 := by
    rw [em2]
    split
    · rw [hnI]; exact g1.meets c1 (by omega) _
    · exact g1
  obtain ⟨InvD, hInvD⟩ : ∃ Inv : St → Prop, Inv = fun s => ∃ new, TR c O1 O2 nI d2 new s := ⟨_, rfl⟩
  obtain ⟨lo, hlo, lo1, lo2⟩ := g1.lo c1 (by omega)
  rw [← hnI] at hlo hnz1
  refine awp_join InvD (by rw [hN]; kernel_rfl) ?_ ?_
  · obtain ⟨t2, t3, t4, t8, h1, h2, hm, A, B, D, F, hc, hout⟩ := hs'
    have lt1 := (List.getElem?_eq_some_iff.1 h1).1
    have lt2 := (List.getElem?_eq_some_iff.1 h2).1
    have hal : ∀ (C : AV → Heap → Prop), True := fun _ => trivial
    by_cases hz : new1 = []
    rotate_left
    · have e : d2 = d1 := by rw [em2, if_neg (fun h => hz (hnz1.1 h))]
      have l1 : new1.length = 1 := by
        have : new1.length ≠ 0 := fun h => hz (List.eq_nil_of_length_eq_zero h)
        omega
      rcases hout with ⟨_, h⟩ | ⟨o, ho3, t9, hoo, hoD⟩
      · exact absurd h hz
      have lto' := (List.getElem?_eq_some_iff.1 hoo).1
      have le := encL_len TMatch.cells new1
      rw [l1] at le
      simp -dsimp -implicitDefEqProofs [-getElem?_pos, go_sem, hP, t9, hoo, lto', le, l1]
      refine ⟨_, Weaker.refl _, ?_⟩
      rw [hInvD, e]
      exact ⟨new1, by simp -dsimp -implicitDefEqProofs [-getElem?_pos, go_sem, t2], by simp -dsimp -implicitDefEqProofs [-getElem?_pos, go_sem, t3], by simp -dsimp -implicitDefEqProofs [-getElem?_pos, go_sem, t4], by simp -dsimp -implicitDefEqProofs [-getElem?_pos, go_sem, t8], h1, h2, hm, A, B, D, F, hc, .inr ⟨o, ho3, by simp -dsimp -implicitDefEqProofs [-getElem?_pos, go_sem, t9, l1], hoo, hoD⟩⟩
    subst hz
    have la : lo = x.Amount := by
      have := hnz1.2 rfl
      rw [hlo] at this
      exact this
    have e : d2 = meets d1 nI (only (sameK d1.Claims x.Payer x.Amount)) := by
      rw [em2, if_pos (hnz1.2 rfl), exact_same _ _ (by omega)]
    obtain ⟨a, na, hA, ha⟩ := hc.a
    have lca : d1.Claims.length ≤ 100000 := by rw [g1.fall.cn]; exact hfc
    rw [encL_len] at hA
    subst hA
    clear ha
    obtain ⟨nC, hnC⟩ : ∃ n, n = d1.Claims.length := ⟨_, rfl⟩
    rw [← hnC] at hc lca
    have lnA := encL_len TClaim.cells d1.Claims
    rw [← hnC] at lnA
    have rows : ∀ (k : Nat) z, d1.Claims[k]? = some z → (encL TClaim.cells d1.Claims)[k]? = some [iv z.ID, iv z.Payer, iv z.Amount, iv z.Open, iv z.Day, .sc (.string z.Code)] := fun k z h => rowsC_get h
    obtain ⟨PA, hPA⟩ : ∃ P, P = encL TClaim.cells d1.Claims := ⟨_, rfl⟩
    simp only [← hPA] at rows lnA
    have own : ∀ {H : Heap} {B D F : AV}, HC 3 H 0 d1 (.sref a 0 nC) B D F → H[a]? = some (some ⟨38, 6, PA⟩) := fun hc => by
      obtain ⟨a', _, e', ha⟩ := hc.a
      cases e'
      rw [hPA]
      exact ha
    have ho := hc.obj
    have lto := (List.getElem?_eq_some_iff.1 ho).1
    have ha := own hc
    have lta := (List.getElem?_eq_some_iff.1 ha).1
    have zero9 : ∃ X, s.t 9 = X ∧ alen s.H X = some 0 := by
      rcases hout with ⟨t9, _⟩ | ⟨o, _, t9, hoo, _⟩
      · exact ⟨_, t9, rfl⟩
      · exact ⟨_, t9, by simp only [alen, hoo]; rfl⟩
    obtain ⟨X, t9, hX⟩ := zero9
    rw [t9] at hout
    simp -dsimp -implicitDefEqProofs [-getElem?_pos, go_sem, hP, t9, hX, t2, ho, lto, ha, lta, lnA]
    obtain ⟨I, hI⟩ : ∃ I : Nat → St → Prop, I = fun m s => ∃ (j : Nat) (B D F : AV), j ≤ nC ∧ m = nC - j ∧ s.t 2 = .ref 0 0 0 ∧ s.t 3 = .ref 1 0 0 ∧ s.t 4 = .ref 2 0 0 ∧ s.t 8 = iv nI ∧ s.t 13 = iv ((List.range j).filter (sameB d1.Claims x.Payer x.Amount)).length ∧ s.t 14 = iv (lastO ((List.range j).filter (sameB d1.Claims x.Payer x.Amount))) ∧ s.t 119 = .sref a 0 nC ∧ s.t 120 = iv nC ∧ s.t 121 = iv j ∧ s.H[1]? = some (some O1) ∧ s.H[2]? = some (some O2) ∧ HC 3 s.H 0 d1 (.sref a 0 nC) B D F ∧ Out s.H D (s.t 9) [] := ⟨_, rfl⟩
    refine aloop0 I (nC) (by rw [hN]; rfl) ?_ ?_
    · rw [hI]
      exact ⟨0, B, D, F, by omega, by omega, by simp -dsimp -implicitDefEqProofs [-getElem?_pos, go_sem, t2], by simp -dsimp -implicitDefEqProofs [-getElem?_pos, go_sem, t3], by simp -dsimp -implicitDefEqProofs [-getElem?_pos, go_sem, t4], by simp -dsimp -implicitDefEqProofs [-getElem?_pos, go_sem, t8], by simp -dsimp -implicitDefEqProofs [-getElem?_pos, go_sem], by simp -dsimp -implicitDefEqProofs [-getElem?_pos, go_sem, lastO, idxO], by simp -dsimp -implicitDefEqProofs [-getElem?_pos, go_sem], by simp -dsimp -implicitDefEqProofs [-getElem?_pos, go_sem], by simp -dsimp -implicitDefEqProofs [-getElem?_pos, go_sem], by simp -dsimp -implicitDefEqProofs [-getElem?_pos, go_sem, h1], by simp -dsimp -implicitDefEqProofs [-getElem?_pos, go_sem, h2], hc, by simp -dsimp -implicitDefEqProofs [-getElem?_pos, go_sem, hP, t9]; exact hout⟩
    clear hc hout h1 h2 lt1 lt2 ha lta ho lto t2 t3 t4 t8 t9 hX
    intro m s hs'
    rw [hI] at hs'
    obtain ⟨j, B, D, F, hj, hm', t2, t3, t4, t8, t13, t14, t119, t120, t121, h1, h2, hc, hout⟩ := hs'
    have lt1 := (List.getElem?_eq_some_iff.1 h1).1
    have lt2 := (List.getElem?_eq_some_iff.1 h2).1
    have ha := own hc
    have lta := (List.getElem?_eq_some_iff.1 ha).1
    simp -dsimp -implicitDefEqProofs [-getElem?_pos, go_sem, hP, t120, t121]
    refine condP (fun h => ?_) (fun h => ?_)
    · have hj : j < nC := by simpa using h
      obtain ⟨z, hz⟩ : ∃ z, d1.Claims[j]? = some z := ⟨_, List.getElem?_eq_getElem (by omega)⟩
      have rz := rows j z hz
      have wj := wrap_in ((j : Int) + 1) (by omega)
      have er : (List.range (j + 1)).filter (sameB d1.Claims x.Payer x.Amount) = if sameB d1.Claims x.Payer x.Amount j = true then (List.range j).filter (sameB d1.Claims x.Payer x.Amount) ++ [j] else (List.range j).filter (sameB d1.Claims x.Payer x.Amount) := by
        rw [List.range_succ, List.filter_append, List.filter_cons, List.filter_nil]
        split <;> simp
      have sb : sameB d1.Claims x.Payer x.Amount j = (decide (z.Payer = x.Payer) && decide (z.Open = x.Amount)) := by simp [sameB, hz]
      obtain ⟨ks, hks⟩ : ∃ ks, ks = (List.range j).filter (sameB d1.Claims x.Payer x.Amount) := ⟨_, rfl⟩
      have lk : ks.length ≤ j := by rw [hks]; exact Nat.le_trans (List.length_filter_le _ _) (by simp)
      rw [← hks] at t13 t14 er
      have wl := wrap_in ((ks.length : Int) + 1) (by omega)
      by_cases e1 : z.Payer = x.Payer
      · by_cases e2 : z.Open = x.Amount
        · rw [if_pos (by rw [sb]; simp [e1, e2])] at er
          simp -dsimp -implicitDefEqProofs [-getElem?_pos, go_sem, hP, t119, t121, ha, lta, lnA, hj, rz, t3, h1, lt1, hO1, e1, e2, t13, wl, wj]
          refine ⟨nC - (j + 1), by omega, ?_⟩
          rw [hI]
          refine ⟨j + 1, B, D, F, by omega, rfl, by simp -dsimp -implicitDefEqProofs [-getElem?_pos, go_sem, t2], by simp -dsimp -implicitDefEqProofs [-getElem?_pos, go_sem, t3], by simp -dsimp -implicitDefEqProofs [-getElem?_pos, go_sem, t4], by simp -dsimp -implicitDefEqProofs [-getElem?_pos, go_sem, t8], ?_, ?_, by simp -dsimp -implicitDefEqProofs [-getElem?_pos, go_sem, t119], by simp -dsimp -implicitDefEqProofs [-getElem?_pos, go_sem, t120], by simp -dsimp -implicitDefEqProofs [-getElem?_pos, go_sem], by simp -dsimp -implicitDefEqProofs [-getElem?_pos, go_sem, lt1, h1], by simp -dsimp -implicitDefEqProofs [-getElem?_pos, go_sem, lt2, h2], hc.app, by simp -dsimp -implicitDefEqProofs [-getElem?_pos, go_sem, hP]; exact hout.app⟩
          · rw [er]
            simp -dsimp -implicitDefEqProofs [-getElem?_pos, go_sem]
          · rw [er]
            simp -dsimp -implicitDefEqProofs [-getElem?_pos, go_sem, lastO, idxO]
        · rw [if_neg (by rw [sb]; simp [e2])] at er
          simp -dsimp -implicitDefEqProofs [-getElem?_pos, go_sem, hP, t119, t121, ha, lta, lnA, hj, rz, t3, h1, lt1, hO1, e1, e2, wj]
          refine ⟨nC - (j + 1), by omega, ?_⟩
          rw [hI]
          exact ⟨j + 1, B, D, F, by omega, rfl, by simp -dsimp -implicitDefEqProofs [-getElem?_pos, go_sem, t2], by simp -dsimp -implicitDefEqProofs [-getElem?_pos, go_sem, t3], by simp -dsimp -implicitDefEqProofs [-getElem?_pos, go_sem, t4], by simp -dsimp -implicitDefEqProofs [-getElem?_pos, go_sem, t8], by rw [er]; simp -dsimp -implicitDefEqProofs [-getElem?_pos, go_sem, t13], by rw [er]; simp -dsimp -implicitDefEqProofs [-getElem?_pos, go_sem, t14], by simp -dsimp -implicitDefEqProofs [-getElem?_pos, go_sem, t119], by simp -dsimp -implicitDefEqProofs [-getElem?_pos, go_sem, t120], by simp -dsimp -implicitDefEqProofs [-getElem?_pos, go_sem], by simp -dsimp -implicitDefEqProofs [-getElem?_pos, go_sem, lt1, h1], by simp -dsimp -implicitDefEqProofs [-getElem?_pos, go_sem, lt2, h2], hc.app, by simp -dsimp -implicitDefEqProofs [-getElem?_pos, go_sem, hP]; exact hout.app⟩
      · rw [if_neg (by rw [sb]; simp [e1])] at er
        simp -dsimp -implicitDefEqProofs [-getElem?_pos, go_sem, hP, t119, t121, ha, lta, lnA, hj, rz, t3, h1, lt1, hO1, e1, wj]
        refine ⟨nC - (j + 1), by omega, ?_⟩
        rw [hI]
        exact ⟨j + 1, B, D, F, by omega, rfl, by simp -dsimp -implicitDefEqProofs [-getElem?_pos, go_sem, t2], by simp -dsimp -implicitDefEqProofs [-getElem?_pos, go_sem, t3], by simp -dsimp -implicitDefEqProofs [-getElem?_pos, go_sem, t4], by simp -dsimp -implicitDefEqProofs [-getElem?_pos, go_sem, t8], by rw [er]; simp -dsimp -implicitDefEqProofs [-getElem?_pos, go_sem, t13], by rw [er]; simp -dsimp -implicitDefEqProofs [-getElem?_pos, go_sem, t14], by simp -dsimp -implicitDefEqProofs [-getElem?_pos, go_sem, t119], by simp -dsimp -implicitDefEqProofs [-getElem?_pos, go_sem, t120], by simp -dsimp -implicitDefEqProofs [-getElem?_pos, go_sem], by simp -dsimp -implicitDefEqProofs [-getElem?_pos, go_sem, lt1, h1], by simp -dsimp -implicitDefEqProofs [-getElem?_pos, go_sem, lt2, h2], hc.app, by simp -dsimp -implicitDefEqProofs [-getElem?_pos, go_sem, hP]; exact hout.app⟩
    have hj : nC = j := by
      have : ¬ j < nC := by simpa using h
      omega
    subst hj
    obtain ⟨ks, hks⟩ : ∃ ks, ks = sameK d1.Claims x.Payer x.Amount := ⟨_, rfl⟩
    rw [hnC, ← sameK_eq, ← hks] at t13 t14
    rw [← hks] at e
    by_cases k1 : ks.length = 1
    rotate_left
    · have e : d2 = d1 := by rw [e, only_none k1]; rfl
      have d : decide ((ks.length : Int) = 1) = false := decide_eq_false (by omega)
      simp -dsimp -implicitDefEqProofs [-getElem?_pos, go_sem, hP, t13, d, k1]
      refine ⟨_, Weaker.refl _, ?_⟩
      rw [hInvD, e]
      exact ⟨[], by simp -dsimp -implicitDefEqProofs [-getElem?_pos, go_sem, t2], by simp -dsimp -implicitDefEqProofs [-getElem?_pos, go_sem, t3], by simp -dsimp -implicitDefEqProofs [-getElem?_pos, go_sem, t4], by simp -dsimp -implicitDefEqProofs [-getElem?_pos, go_sem, t8], h1, h2, hm, _, B, D, F, hc, by simp -dsimp -implicitDefEqProofs [-getElem?_pos, go_sem, hP]; exact hout⟩
    obtain ⟨k, ek, eo, el⟩ := only_one k1
    rw [el] at t14
    have e : d2 = meet d1 nI k := by rw [e, eo]; rfl
    obtain ⟨z, hz, ezo⟩ : ∃ z, d1.Claims[k]? = some z ∧ z.Open = x.Amount := by
      have hmk : k ∈ sameK d1.Claims x.Payer x.Amount := by rw [← hks, ek]; simp
      rw [sameK_eq] at hmk
      have := (List.mem_filter.1 hmk).2
      cases hz : d1.Claims[k]? with
      | none => simp [sameB, hz] at this
      | some z => simp [sameB, hz] at this; exact ⟨z, rfl, this.2⟩
    have zo := g1.cl c1 hz
    have mm := rmatch_m (row := E.row) (src := E.src) hc (i := nI) hlo hz (by rw [hnI]; exact g1.inc) ⟨lo1, by omega⟩ zo (by have := g1.len; omega)
    have hmn : ¬ min lo z.Open = 0 := by omega
    have en := meet_new (i := nI) hlo hz (by rw [hnI]; exact g1.inc) hmn
    have hm' : (meet d1 nI k).Matches = c.Matches ++ ([] ++ [⟨x.Number, z.ID, min lo z.Open⟩]) := by rw [en, hm]; simp
    simp -dsimp -implicitDefEqProofs [-getElem?_pos, go_sem, hP, t13, k1, t8, t14, t2]
    refine callB_m mm hP en_67 ?_
    rintro r H' ⟨rfl, ⟨D', hc', hfr⟩, hkk⟩
    have hout' := hout.kept hc hkk hfr
    have nS : ∀ j, j < 3 → ¬ isS (.sref a 0 nC) j := fun j hj h => by rw [isS_iff] at h; omega
    have nD : ∀ j, j < 3 → ¬ isS D j := fun j hj h => by obtain ⟨i, h1, rfl, _⟩ := hc.d; rw [isS_iff] at h; omega
    have nF : ∀ j, j < 3 → ¬ isS F j := fun j hj h => by obtain ⟨i, h1, rfl, _⟩ := hc.f; rw [isS_iff] at h; omega
    have h1' := hkk 1 _ (by omega) (nS 1 (by omega)) (nD 1 (by omega)) (nF 1 (by omega)) h1
    have h2' := hkk 2 _ (by omega) (nS 2 (by omega)) (nD 2 (by omega)) (nF 2 (by omega)) h2
    have po := put_out (n := nI) (new := []) (z := ⟨40, 3, [[iv x.Number, iv z.ID, iv (min lo z.Open)]]⟩) hm' h1' h2' hc'
    rcases hout' with ⟨t9, _⟩ | ⟨o, ho3, t9, hoo, hoD⟩
    · simp -dsimp -implicitDefEqProofs [-getElem?_pos, go_sem, hP, hmn, t9]
      refine ⟨_, Weaker.refl _, ?_⟩
      rw [hInvD, e]
      exact ⟨_, po.1 _ (.inl ⟨rfl, rfl⟩) rfl (by simp -dsimp -implicitDefEqProofs [-getElem?_pos, go_sem, t2]) (by simp -dsimp -implicitDefEqProofs [-getElem?_pos, go_sem, t3]) (by simp -dsimp -implicitDefEqProofs [-getElem?_pos, go_sem, t4]) (by simp -dsimp -implicitDefEqProofs [-getElem?_pos, go_sem, t8]) (by simp -dsimp -implicitDefEqProofs [-getElem?_pos, go_sem])⟩
    · have lto' := (List.getElem?_eq_some_iff.1 hoo).1
      have le := encL_len TMatch.cells ([] : List TMatch)
      simp -dsimp -implicitDefEqProofs [-getElem?_pos, go_sem, hP, hmn, t9, hoo, lto', le]
      refine ⟨_, Weaker.refl _, ?_⟩
      rw [hInvD, e]
      exact ⟨_, po.2 _ o ho3 hoo hoD (by simp -dsimp -implicitDefEqProofs [-getElem?_pos, go_sem, t2]) (by simp -dsimp -implicitDefEqProofs [-getElem?_pos, go_sem, t3]) (by simp -dsimp -implicitDefEqProofs [-getElem?_pos, go_sem, t4]) (by simp -dsimp -implicitDefEqProofs [-getElem?_pos, go_sem, t8]) (by simp -dsimp -implicitDefEqProofs [-getElem?_pos, go_sem])⟩
  -- the oldest ones
  clear hs' s
  intro s hs'
  rw [hInvD] at hs'
  obtain ⟨new2, hs'⟩ := hs'
  obtain ⟨ks, hks⟩ : ∃ ks, ks = openK d2.Claims x.Payer := ⟨_, rfl⟩
  have et : taken c x = meets d2 nI ks := by rw [taken_eq, ← hd2, hks, hnI]
  have klt : ∀ k, k ∈ ks → k < d2.Claims.length := fun k hk => openK_lt (by rw [← hks]; exact hk)
  obtain ⟨InvE, hInvE⟩ : ∃ Inv : St → Prop, Inv = fun s => ∃ new, TR c O1 O2 nI (taken c x) new s := ⟨_, rfl⟩
  refine awp_join InvE (by rw [hN]; kernel_rfl) ?_ ?_
  · simp -dsimp -implicitDefEqProofs [-getElem?_pos, go_sem, hP]
    obtain ⟨I, hI⟩ : ∃ I : Nat → St → Prop, I = fun m s => ∃ (j : Nat) (d : TCash) (new : List TMatch), j ≤ ks.length ∧ m = ks.length - j ∧ d = meets d2 nI (ks.take j) ∧ TR c O1 O2 nI d new s ∧ (openK d.Claims x.Payer = ks.drop j ∨ d.Loose[nI]? = some 0) := ⟨_, rfl⟩
    refine aloop0 I (ks.length) (by rw [hN]; rfl) ?_ ?_
    · rw [hI]
      exact ⟨0, d2, new2, by omega, by omega, rfl, hs', .inl hks.symm⟩
    clear hs' s
    intro m s hs'
    rw [hI] at hs'
    obtain ⟨j, d, new, hj, hm', hdd, ts, hopen⟩ := hs'
    have gd : GoodD c x d := by rw [hdd, hnI]; exact g2.meets c1 (by omega) _
    have eT : taken c x = meets d nI (ks.drop j) := by rw [et, hdd, ← meets_app, List.take_append_drop]
    obtain ⟨lo, hlo, lo1, lo2⟩ := gd.lo c1 (by omega)
    rw [← hnI] at hlo
    have gp := gd.fall.pos ps
    have ts0 := ts
    obtain ⟨t2, t3, t4, t8, h1, h2, hm, A, B, D, F, hc, hout⟩ := ts
    have lt1 := (List.getElem?_eq_some_iff.1 h1).1
    have ho := hc.obj
    have lto := (List.getElem?_eq_some_iff.1 ho).1
    obtain ⟨f, nf, hF, hf'⟩ := hc.f
    have ltf := (List.getElem?_eq_some_iff.1 hf').1
    have rf := rowsI_get hlo
    have lf := rowsI_len d.Loose
    have ltl : nI < d.Loose.length := (List.getElem?_eq_some_iff.1 hlo).1
    have ho2 := ho
    rw [hF] at ho2
    obtain ⟨PF, hPF⟩ : ∃ P, P = rowsI d.Loose := ⟨_, rfl⟩
    rw [← hPF] at hf' rf lf ho2
    by_cases e0 : 0 < lo
    rotate_left
    · have l0 : lo = 0 := by omega
      rw [l0] at hlo
      have e : taken c x = d := by rw [eT, meets_no hlo gp.1]
      simp -dsimp -implicitDefEqProofs [-getElem?_pos, go_sem, hP, t2, ho2, lto, t8, hf', ltf, rf, lf, ltl, e0]
      refine ⟨_, Weaker.refl _, ?_⟩
      rw [hInvE, e]
      exact ⟨new, by simp -dsimp -implicitDefEqProofs [-getElem?_pos, go_sem, t2], by simp -dsimp -implicitDefEqProofs [-getElem?_pos, go_sem, t3], by simp -dsimp -implicitDefEqProofs [-getElem?_pos, go_sem, t4], by simp -dsimp -implicitDefEqProofs [-getElem?_pos, go_sem, t8], h1, h2, hm, A, B, D, F, hc, by simp -dsimp -implicitDefEqProofs [-getElem?_pos, go_sem, hP]; exact hout⟩
    have hopen : openK d.Claims x.Payer = ks.drop j := by
      rcases hopen with h | h
      · exact h
      · rw [hlo] at h
        have := Option.some.inj h
        omega
    have op := oldest_pf d (gd.fit c1 hf) x.Payer
    rw [oldest_head, hopen] at op
    have cw := hc.cw
    rw [hF, rowsI_len] at cw
    simp -dsimp -implicitDefEqProofs [-getElem?_pos, go_sem, hP, t2, ho2, lto, t8, hf', ltf, rf, lf, ltl, e0, ho, t3, h1, lt1, hO1]
    refine callB_pure op hP en_68 (args_agg cw (args_same (by simp [imm_sc]))) .sc ?_
    cases hkj : ks[j]? with
    | none =>
      have hge := List.getElem?_eq_none_iff.1 hkj
      have ed : ks.drop j = [] := List.drop_of_length_le hge
      have e : taken c x = d := by rw [eT, ed]; rfl
      rw [ed]
      simp -dsimp -implicitDefEqProofs [-getElem?_pos, go_sem, hP, idxO]
      refine ⟨_, Weaker.refl _, ?_⟩
      rw [hInvE, e]
      exact ⟨new, by simp -dsimp -implicitDefEqProofs [-getElem?_pos, go_sem, t2], by simp -dsimp -implicitDefEqProofs [-getElem?_pos, go_sem, t3], by simp -dsimp -implicitDefEqProofs [-getElem?_pos, go_sem, t4], by simp -dsimp -implicitDefEqProofs [-getElem?_pos, go_sem, t8], h1, h2, hm, A, B, D, F, hc, by simp -dsimp -implicitDefEqProofs [-getElem?_pos, go_sem, hP]; exact hout⟩
    | some k =>
      have ed := drop_atL hkj
      have hjl := (List.getElem?_eq_some_iff.1 hkj).1
      rw [ed] at hopen ⊢
      obtain ⟨z, hz, zpos, hnext⟩ := openK_meet hlo e0 (by rw [hnI]; exact gd.inc) hopen
      have zo := gd.cl c1 hz
      have mm := rmatch_m (row := E.row) (src := E.src) hc (i := nI) hlo hz (by rw [hnI]; exact gd.inc) ⟨lo1, by omega⟩ zo (by have := gd.len; omega)
      have hmn : ¬ min lo z.Open = 0 := by omega
      have en := meet_new (i := nI) hlo hz (by rw [hnI]; exact gd.inc) hmn
      have hm' : (meet d nI k).Matches = c.Matches ++ (new ++ [⟨x.Number, z.ID, min lo z.Open⟩]) := by rw [en, hm]; simp
      have dk : decide ((k : Int) < 0) = false := decide_eq_false (by omega)
      simp -dsimp -implicitDefEqProofs [-getElem?_pos, go_sem, hP, idxO, dk, t8, t2]
      refine callB_m mm hP en_67 ?_
      rintro r H' ⟨rfl, ⟨D', hc', hfr⟩, hkk⟩
      have hout' := hout.kept hc hkk hfr
      have nS : ∀ j, j < 3 → ¬ isS A j := fun j hj h => by obtain ⟨i, h1, rfl, _⟩ := hc.a; rw [isS_iff] at h; omega
      have nD : ∀ j, j < 3 → ¬ isS D j := fun j hj h => by obtain ⟨i, h1, rfl, _⟩ := hc.d; rw [isS_iff] at h; omega
      have nF : ∀ j, j < 3 → ¬ isS F j := fun j hj h => by obtain ⟨i, h1, rfl, _⟩ := hc.f; rw [isS_iff] at h; omega
      have h1' := hkk 1 _ (by omega) (nS 1 (by omega)) (nD 1 (by omega)) (nF 1 (by omega)) h1
      have h2' := hkk 2 _ (by omega) (nS 2 (by omega)) (nD 2 (by omega)) (nF 2 (by omega)) h2
      have po := put_out (n := nI) (new := new) (z := ⟨40, 3, [[iv x.Number, iv z.ID, iv (min lo z.Open)]]⟩) hm' h1' h2' hc'
      have nl : new.length ≤ 100000 := by
        have := gd.len
        rw [hm, List.length_append] at this
        omega
      have nxt : ∀ s' : St, TR c O1 O2 nI (meet d nI k) (new ++ [⟨x.Number, z.ID, min lo z.Open⟩]) s' → ∃ m', m' < m ∧ I m' s' := fun s' h => by
        refine ⟨ks.length - (j + 1), by omega, ?_⟩
        rw [hI]
        exact ⟨j + 1, meet d nI k, _, by omega, rfl, by rw [take_snoc hkj, meets_snoc, ← hdd], h, hnext⟩
      rcases hout' with ⟨t9, rfl⟩ | ⟨o, ho3, t9, hoo, hoD⟩
      · simp -dsimp -implicitDefEqProofs [-getElem?_pos, go_sem, hP, hmn, t9]
        exact nxt _ (po.1 _ (.inl ⟨rfl, rfl⟩) rfl (by simp -dsimp -implicitDefEqProofs [-getElem?_pos, go_sem, t2]) (by simp -dsimp -implicitDefEqProofs [-getElem?_pos, go_sem, t3]) (by simp -dsimp -implicitDefEqProofs [-getElem?_pos, go_sem, t4]) (by simp -dsimp -implicitDefEqProofs [-getElem?_pos, go_sem, t8]) (by simp -dsimp -implicitDefEqProofs [-getElem?_pos, go_sem]))
      · have lto' := (List.getElem?_eq_some_iff.1 hoo).1
        have le := encL_len TMatch.cells new
        simp -dsimp -implicitDefEqProofs [-getElem?_pos, go_sem, hP, hmn, t9, hoo, lto', le]
        refine ⟨by omega, by omega, ?_⟩
        exact nxt _ (po.2 _ o ho3 hoo hoD (by simp -dsimp -implicitDefEqProofs [-getElem?_pos, go_sem, t2]) (by simp -dsimp -implicitDefEqProofs [-getElem?_pos, go_sem, t3]) (by simp -dsimp -implicitDefEqProofs [-getElem?_pos, go_sem, t4]) (by simp -dsimp -implicitDefEqProofs [-getElem?_pos, go_sem, t8]) (by simp -dsimp -implicitDefEqProofs [-getElem?_pos, go_sem]))
  -- what is handed back
  clear hs' s
  intro s hs'
  rw [hInvE] at hs'
  obtain ⟨new, t2, t3, t4, t8, h1, h2, hm, A, B, D, F, hc, hout⟩ := hs'
  obtain ⟨d, hdd⟩ : ∃ d, d = taken c x := ⟨_, rfl⟩
  rw [← hdd] at hm hc hR
  have lt2 := (List.getElem?_eq_some_iff.1 h2).1
  have ho := hc.obj
  have lto := (List.getElem?_eq_some_iff.1 ho).1
  obtain ⟨dd, nd, hDD, hd⟩ := hc.d
  have ltd := (List.getElem?_eq_some_iff.1 hd).1
  have ld := encL_len TMatch.cells d.Matches
  have cw := hc.cw
  obtain ⟨nD, hnD⟩ : ∃ n, n = d.Matches.length := ⟨_, rfl⟩
  rw [← hnD] at ld hR
  have ho2 := ho
  rw [hDD, ld] at ho2
  obtain ⟨PD, hPD⟩ : ∃ P, P = encL TMatch.cells d.Matches := ⟨_, rfl⟩
  rw [← hPD] at hd ld
  refine awp_sound _ _ _ (by rw [hN]; kernel_rfl) ?_
  by_cases c6 : nD ≤ 160
  rotate_left
  · have d6 : decide ((160 : Int) < (nD : Int)) = true := decide_eq_true (by omega)
    have n6 : 160 < nD := by omega
    rw [if_neg c6] at hR
    simp -dsimp -implicitDefEqProofs [-getElem?_pos, go_sem, hP, t2, ho2, lto, hd, ltd, ld, d6, n6, t4, h2, lt2, hO2]
    refine done_noCash3 ?_
    rw [hQ, hR]
  have d6 : decide ((160 : Int) < (nD : Int)) = false := decide_eq_false (by omega)
  have n6 : ¬ 160 < nD := by omega
  rw [if_pos c6] at hR
  have ca : A.cellish = true := by obtain ⟨_, _, rfl, _⟩ := hc.a; rfl
  have cb : B.cellish = true := by obtain ⟨_, _, rfl, _⟩ := hc.b; rfl
  have cf : F.cellish = true := by obtain ⟨_, _, rfl, _⟩ := hc.f; rfl
  simp -dsimp -implicitDefEqProofs [-getElem?_pos, go_sem, hP, t2, ho2, lto, hd, ltd, ld, d6, n6, t4, h2, lt2, hO2, ca, cb, cf]
  have hD2 : D = .sref dd 0 nD := by rw [hDD, ← hPD, ld]
  have q1 := hc.a.set (o' := some ⟨29, 4, [[A, B, .sref dd 0 nD, F]]⟩) h2 (by rw [hO2]; simp)
  have q2 := hc.b.set (o' := some ⟨29, 4, [[A, B, .sref dd 0 nD, F]]⟩) h2 (by rw [hO2]; simp)
  have q3 := hc.d.set (o' := some ⟨29, 4, [[A, B, .sref dd 0 nD, F]]⟩) h2 (by rw [hO2]; simp)
  have q4 := hc.f.set (o' := some ⟨29, 4, [[A, B, .sref dd 0 nD, F]]⟩) h2 (by rw [hO2]; simp)
  rw [hD2] at q3
  have q5 : Out (s.H.set 2 (some ⟨29, 4, [[A, B, .sref dd 0 nD, F]]⟩)) D (s.t 9) new := by
    rcases hout with h | ⟨o, g1, g2, g3, g4⟩
    · exact .inl h
    · exact .inr ⟨o, g1, g2, by rw [List.getElem?_set_ne (by omega)]; exact g3, g4⟩
  refine done_cashG (cs' := d.cells) ?_ q5 ?_
  · rw [cCsh]
    exact q1.cw (imm_claims _) (q2.cw (imm_incomes _) (q3.cw (imm_matches _) (q4.cw (d.imm _ (by simp [cCsh])) .nil)))
  · rw [hQ, hR]
    simp only [hm, List.drop_left]
end Go.Proofs.YtgapbmaehfdkoaaGreatDoor
