/- Receipts: an income is taken in, by the program. -/
import Derived.Test.YtgapbmaehfdkoaaGreatDoorCash9
import Derived.Test.YtgapbmaehfdkoaaGreatDoorCashS
set_option linter.unusedSimpArgs false
set_option linter.unusedVariables false
namespace Go.Proofs.YtgapbmaehfdkoaaGreatDoor
open Go.PA
open Go.RowKit

theorem imm_trip {a b c : AV} (ha : Imm a) (hb : Imm b) (hc : Imm c) : Imm (.tup [a, b, c]) := by
  refine .tup fun x hx => ?_
  simp only [List.mem_cons, List.not_mem_nil, or_false] at hx
  rcases hx with rfl | rfl | rfl <;> assumption
theorem weak_tup3 {a b c a' b' c' : AV} (ha : Weak a a') (hb : Weak b b') (hc : Weak c c') : Weak (.tup [a, b, c]) (.tup [a', b', c']) := by
  refine .tup rfl fun i x y hx hy => ?_
  match i, hx, hy with
  | 0, hx, hy => simp at hx hy; subst hx; subst hy; exact ha
  | 1, hx, hy => simp at hx hy; subst hx; subst hy; exact hb
  | 2, hx, hy => simp at hx hy; subst hx; subst hy; exact hc
  | i + 3, hx, hy => simp at hx
theorem cw_noCash {H : Heap} : CW H [.nil, .nil, .nil, .nil] noCash.cells := cw_nil (cw_nil (cw_nil (cw_nil .nil)))
theorem done_noCash {H : Heap} {n : Int} {Q : AV → Prop} {b : Bx Q} (h : Q (.tup [.agg noCash.cells, iv n])) : Done H (.tup [.agg [.nil, .nil, .nil, .nil], iv n]) Q b := done_agg2 cw_noCash h
theorem done_noCash3 {H : Heap} {n : Int} {Q : AV → Prop} {b : Bx Q} (h : Q (.tup [.agg noCash.cells, matchesL [], iv n])) : Done H (.tup [.agg [.nil, .nil, .nil, .nil], .nil, iv n]) Q b :=
  done_weak (imm_trip (cw_noCash (H := H)).imm .nil .sc) (imm_trip (cw_noCash (H := H)).imm' (imm_matches []) .sc) (weak_tup3 cw_noCash.weak (.nil 3) (.refl _)) h

theorem agree_gen {D : Nat → Bool} {X X' l l' : Heap} (hl : X.length = X'.length) (h : ∀ i, D i = true → i < X.length ∧ X'[i]? = X[i]?) : Agree D (X ++ l) (X' ++ l') := fun i hi => by
  obtain ⟨h1, h2⟩ := h i hi
  rw [List.getElem?_append_left h1, List.getElem?_append_left (by omega), h2]
theorem agree_gen0 {D : Nat → Bool} {X X' l' : Heap} (hl : X.length = X'.length) (h : ∀ i, D i = true → i < X.length ∧ X'[i]? = X[i]?) : Agree D X (X' ++ l') := fun i hi => by
  obtain ⟨h1, h2⟩ := h i hi
  rw [List.getElem?_append_left (by omega), h2]
theorem clone_pf_mtc (l : List TMatch) (hl : l.length ≤ 1000000) : PFun Tryz.prog none none 45 [.list 3 (encL TMatch.cells l)] (· = .list 3 (encL TMatch.cells l)) := by
  cases l with
  | nil =>
    refine pfun_list_nil fun A c => ?_
    refine pfun_intro Tryz.func45 rfl (by simp [Tryz.f45]) (by kernel_rfl) ?_
    intro E hP hr hs hW hN
    cases A with
    | none =>
      simp -dsimp -implicitDefEqProofs [-getElem?_pos, go_sem, hP]
      exact done_weak .nil (imm_list.2 (by simp)) (.nil _) rfl
    | some a =>
      simp -dsimp -implicitDefEqProofs [-getElem?_pos, go_sem, hP]
      refine done_weak (x := .list 3 []) ?_ (imm_list.2 (by simp)) ?_ rfl
      · simp -dsimp -implicitDefEqProofs [-getElem?_pos, go_sem]
      · simp -dsimp -implicitDefEqProofs [-getElem?_pos, go_sem]
        first | exact .refl _ | skip
  | cons a l =>
    refine pfun_intro Tryz.func45 rfl (by simp [Tryz.f45]) (by kernel_rfl) ?_
    intro E hP hr hs hW hN
    simp only [List.length_cons] at hl
    have e : encL TMatch.cells (a :: l) = TMatch.cells a :: encL TMatch.cells l := rfl
    have im : Imm (.list 3 (TMatch.cells a :: encL TMatch.cells l)) := by rw [← e]; exact imm_encL _ TMatch.imm _
    have et : (TMatch.cells a :: encL TMatch.cells l).take (l.length + 1) = TMatch.cells a :: encL TMatch.cells l := by
      rw [← e]
      exact encL_take TMatch.cells (a :: l) _ (by simp)
    simp -dsimp -implicitDefEqProofs [-getElem?_pos, go_sem, hP, e]
    refine ⟨by omega, by omega, ?_⟩
    refine done_weak (x := .list 3 (TMatch.cells a :: encL TMatch.cells l)) ?_ im ?_ rfl
    · simp -dsimp -implicitDefEqProofs [-getElem?_pos, go_sem]
      first | exact im | (have h := imm_list.1 im; simp only [List.mem_cons, forall_eq_or_imp] at h; exact h)
    · simp -dsimp -implicitDefEqProofs [-getElem?_pos, go_sem]
      first | exact .refl _ | skip

theorem done_cash3 {H : Heap} {cs cs' : List AV} {l : AV} {v : Value} {Q : AV → Prop} {b : Bx Q} (h : CW H cs cs') (hi : Imm l) (hq : Q (.tup [.agg cs', l, .sc v])) : Done H (.tup [.agg cs, l, .sc v]) Q b :=
  done_weak (imm_trip h.imm (by rw [view2_imm hi]; exact hi) .sc) (imm_trip h.imm' hi .sc) (weak_tup3 h.weak (by rw [view2_imm hi]; exact .refl _) (.refl _)) hq
theorem Own.cw {n : Nat} {H : Heap} {x : AV} {ty : TypeId} {k : Nat} {es : List (List AV)} {xs ys : List AV} (h : Own n H x ty k es) (hi : Imm (.list k es)) (t : CW H xs ys) : CW H (x :: xs) (.list k es :: ys) := by
  obtain ⟨id, _, rfl, h⟩ := h
  exact cw_sref h rfl hi t
theorem Own.set {n0 : Nat} {H : Heap} {x : AV} {ty : TypeId} {k : Nat} {es : List (List AV)} {i : Nat} {o : AObj} {o' : Option AObj} (h : Own n0 H x ty k es) (hi : H[i]? = some (some o)) (ht : ¬ o.ty = ty) : Own n0 (H.set i o') x ty k es := by
  obtain ⟨id, h1, h2, h3⟩ := h
  refine ⟨id, h1, h2, ?_⟩
  rw [List.getElem?_set_ne (obj_ne hi h3 ht)]
  exact h3
/-- An income behind the others. -/
theorem started {c : TCash} {x : TIncome} {H' : Heap} {n0 p a b d f : Nat} {la lb ld lf : Nat} (na : n0 ≤ a) (nb : n0 ≤ b) (nd : n0 ≤ d) (nf : n0 ≤ f) (hl : n0 ≤ H'.length) (ea : la = c.Claims.length) (eb : lb = c.Incomes.length + 1) (ed : ld = c.Matches.length) (ef : lf = c.Loose.length + 1)
    (hp : H'[p]? = some (some ⟨29, 4, [[.sref a 0 la, .sref b 0 lb, .sref d 0 ld, .sref f 0 lf]]⟩))
    (ha : H'[a]? = some (some ⟨38, 6, encL TClaim.cells c.Claims⟩)) (hb : H'[b]? = some (some ⟨32, 5, encL TIncome.cells c.Incomes ++ [[iv x.Number, iv x.Day, iv x.Payer, iv x.Amount, iv x.Claim]]⟩))
    (hd : H'[d]? = some (some ⟨40, 3, encL TMatch.cells c.Matches⟩)) (hf : H'[f]? = some (some ⟨3, 1, rowsI c.Loose ++ [[iv x.Amount]]⟩)) :
    HC n0 H' p (start c x) (.sref a 0 la) (.sref b 0 lb) (.sref d 0 ld) (.sref f 0 lf) := by
  subst ea; subst eb; subst ed; subst ef
  refine ⟨hl, hp, ⟨a, na, by rw [encL_len]; rfl, ha⟩, ⟨b, nb, by rw [encL_len]; simp [start], ?_⟩, ⟨d, nd, by rw [encL_len]; rfl, hd⟩, ⟨f, nf, by rw [rowsI_len]; simp [start], ?_⟩⟩
  · rw [hb]
    exact congrArg (fun z => some (some (⟨32, 5, z⟩ : AObj))) (encL_snoc TIncome.cells c.Incomes x)
  · rw [hf]
    exact congrArg (fun z => some (some (⟨3, 1, z⟩ : AObj))) (encL_snoc encI c.Loose x.Amount)

/-- The state in which an income is counted. -/
def TS (O0 O1 O2 : AObj) (n p : Nat) (d : TCash) (s : St) : Prop := s.t 2 = .ref 0 0 0 ∧ s.t 3 = .ref 1 0 0 ∧ s.t 4 = .ref 2 0 0 ∧ s.t 10 = .ref p 0 0 ∧ s.t 11 = iv n ∧ s.H[0]? = some (some O0) ∧ s.H[1]? = some (some O1) ∧ s.H[2]? = some (some O2) ∧ 4 ≤ p ∧ ∃ A B D F, HC 4 s.H p d A B D F

theorem Own.kept {n0 : Nat} {H H' : Heap} {x : AV} {ty : TypeId} {k : Nat} {es : List (List AV)} (h : Own n0 H x ty k es) (hk : Kept [] H H') : Own n0 H' x ty k es := by
  obtain ⟨id, h1, h2, h3⟩ := h
  exact ⟨id, h1, h2, hk _ _ (by simp) h3⟩
theorem HC.kept {n0 : Nat} {H H' : Heap} {p : Nat} {c : TCash} {A B D F : AV} (h : HC n0 H p c A B D F) (hk : Kept [] H H') (hl : n0 ≤ H'.length) : HC n0 H' p c A B D F :=
  ⟨hl, hk _ _ (by simp) h.obj, h.a.kept hk, h.b.kept hk, h.d.kept hk, h.f.kept hk⟩
/-- What comes of the cash while an income is counted. -/
structure GoodD (c : TCash) (x : TIncome) (d : TCash) : Prop where
  fall : Fall (start c x) d
  pot : pot d ≤ 400
theorem GoodD.start {c : TCash} {x : TIncome} (h : cashE c = 0) : GoodD c x (start c x) := by
  have ok := cashE_ok.1 h
  refine ⟨.refl _, ?_⟩
  have h1 := List.countP_le_length (p := fun z : TClaim => decide (0 < z.Open)) (l := c.Claims)
  have h2 := List.countP_le_length (p := fun z : Int => decide (0 < z)) (l := c.Loose ++ [x.Amount])
  have h3 := ok.2.len
  rw [List.length_append, List.length_singleton] at h2
  unfold Go.Proofs.YtgapbmaehfdkoaaGreatDoor.pot Go.Proofs.YtgapbmaehfdkoaaGreatDoor.start
  simp only
  omega
theorem GoodD.meet {c : TCash} {x : TIncome} {d : TCash} (g : GoodD c x d) (h : cashE c = 0) (hx : 0 ≤ x.Amount) (k : Nat) : GoodD c x (meet d c.Incomes.length k) := by
  have ps := start_pos (cashE_ok.1 h).2.pos hx
  have pd := g.fall.pos ps
  have := meet_pot d c.Incomes.length k pd
  exact ⟨g.fall.trans (meet_fall d _ k pd.1 pd.2), by have := g.pot; omega⟩
theorem GoodD.lo {c : TCash} {x : TIncome} {d : TCash} (g : GoodD c x d) (h : cashE c = 0) (hx : 0 ≤ x.Amount) : ∃ lo, d.Loose[c.Incomes.length]? = some lo ∧ 0 ≤ lo ∧ lo ≤ x.Amount := by
  have hl := (cashE_ok.1 h).2.len
  obtain ⟨n, h1, h2, h3⟩ := g.fall.lo c.Incomes.length x.Amount (by simp [Go.Proofs.YtgapbmaehfdkoaaGreatDoor.start, hl])
  exact ⟨n, h3, h2 hx, h1⟩
theorem GoodD.inc {c : TCash} {x : TIncome} {d : TCash} (g : GoodD c x d) : d.Incomes[c.Incomes.length]? = some x := by rw [g.fall.inc]; simp [Go.Proofs.YtgapbmaehfdkoaaGreatDoor.start]
theorem GoodD.cl {c : TCash} {x : TIncome} {d : TCash} (g : GoodD c x d) (h : cashE c = 0) {k : Nat} {z : TClaim} (hz : d.Claims[k]? = some z) : 0 ≤ z.Open ∧ z.Open ≤ 1000000000000 := by
  obtain ⟨y, hy, h1, h2, _⟩ := g.fall.back hz
  have := payB_iff.1 ((cashE_ok.1 h).2.pays.1 y (List.mem_of_getElem? hy))
  omega
theorem GoodD.len {c : TCash} {x : TIncome} {d : TCash} (g : GoodD c x d) : d.Matches.length ≤ 400 := by
  have := g.pot
  unfold Go.Proofs.YtgapbmaehfdkoaaGreatDoor.pot at this
  omega
theorem GoodD.meets {c : TCash} {x : TIncome} {d : TCash} (g : GoodD c x d) (h : cashE c = 0) (hx : 0 ≤ x.Amount) (ks : List Nat) : GoodD c x (meets d c.Incomes.length ks) :=
  meets_ind (GoodD c x) _ ks d g fun e k he _ => he.meet h hx k
theorem meets_snoc (d : TCash) (i : Nat) (ks : List Nat) (k : Nat) : meets d i (ks ++ [k]) = meet (meets d i ks) i k := by simp [meets]
theorem aloop_frz {E : Env} {c : Code} {s : St} {Q : Exit → St → Prop} {b : Bx (c, Q)} (hW : ∀ b, ¬ E.W b) (j : Nat) {id n : Nat} {ty k : Nat} {es fs : List (List AV)} (hj : s.t j = .sref id 0 n) (ho : s.H[id]? = some (some ⟨ty, k, es⟩)) (he : es.take n = fs) (hi : Imm (.list k fs))
    (hl : ALoop E c ⟨upd s.t j (.list k fs), s.H.set id none⟩ Q .mk) : ALoop E c s Q b := by
  subst he
  refine AWp.weaken (weaker_frz hW j hj ho (by simpa using hi)) ?_
  simp only [List.drop_zero]
  exact hl

set_option maxHeartbeats 8000000 in
set_option maxRecDepth 8000 in
theorem ctake_pf (c : TCash) (x : TIncome) (hf : FitC c) (hl : c.Claims.length < 20) : PFun Tryz.prog none none 11 [.agg c.cells, .agg x.cells] (· = .tup [.agg (takeD c x).1.cells, matchesL (takeD c x).2.1, iv (takeD c x).2.2]) := by
  refine pfun_introA Tryz.func11 rfl (by simp [Tryz.f11]) ?_
  intro E hP hr hs hW hN
  have ck := ccheck_pf c hf
  have ic := imm_agg.2 c.imm
  have ix := imm_agg.2 x.imm
  have px := cincome_pf x
  rw [cCsh] at ck ic
  rw [cIncm] at px ix
  obtain ⟨Q, hQ⟩ : ∃ Q : AV → Prop, Q = (· = .tup [.agg (takeD c x).1.cells, matchesL (takeD c x).2.1, iv (takeD c x).2.2]) := ⟨_, rfl⟩
  rw [← hQ]
  obtain ⟨R, hR⟩ : ∃ R, R = takeD c x := ⟨_, rfl⟩
  rw [← hR] at hQ
  rw [takeD] at hR
  have hfc := hf.fc
  have hfi := hf.fi
  have hfm := hf.fm
  have hfl := hf.fl
  obtain ⟨O0, hO0⟩ : ∃ O : AObj, O = ⟨29, 4, [[claimsL c.Claims, incomesL c.Incomes, matchesL c.Matches, .list 1 (encL encI c.Loose)]]⟩ := ⟨_, rfl⟩
  obtain ⟨O1, hO1⟩ : ∃ O : AObj, O = ⟨32, 5, [[iv x.Number, iv x.Day, iv x.Payer, iv x.Amount, iv x.Claim]]⟩ := ⟨_, rfl⟩
  obtain ⟨O2, hO2⟩ : ∃ O : AObj, O = ⟨29, 4, [[.nil, .nil, .nil, .nil]]⟩ := ⟨_, rfl⟩
  refine awp_cut (by rw [hN]; kernel_rfl) ?_
  simp -dsimp -implicitDefEqProofs [-getElem?_pos, go_sem, hP, cCsh, cIncm]
  simp only [← hO0, ← hO1, ← hO2]
  refine awp_cut (by rw [hN]; kernel_rfl) ?_
  simp -dsimp -implicitDefEqProofs [-getElem?_pos, go_sem, hP, hO0]
  refine callB_pure ck hP en_15 (args_same (by simpa using ic)) .sc ?_
  by_cases c1 : cashE c = 0
  rotate_left
  · rw [if_neg c1] at hR
    simp -dsimp -implicitDefEqProofs [-getElem?_pos, go_sem, hP, c1, hO2]
    refine done_noCash3 ?_
    rw [hQ, hR]
  rw [if_pos c1] at hR
  simp -dsimp -implicitDefEqProofs [-getElem?_pos, go_sem, hP, c1]
  refine awp_cut (by rw [hN]; kernel_rfl) ?_
  simp -dsimp -implicitDefEqProofs [-getElem?_pos, go_sem, hP]
  obtain ⟨Inv, hInv⟩ : ∃ Inv : St → Prop, Inv = fun s => ∃ z : TIncome, z.Number = lastN c ∧ z.Day = lastD c ∧ s.t 2 = .ref 0 0 0 ∧ s.t 3 = .ref 1 0 0 ∧ s.t 4 = .ref 2 0 0 ∧ s.t 8 = .ref 3 0 0 ∧ s.H = [some O0, some O1, some O2, some ⟨32, 5, [[iv z.Number, iv z.Day, iv z.Payer, iv z.Amount, iv z.Claim]]⟩] := ⟨_, rfl⟩
  refine awp_join Inv (by rw [hN]; kernel_rfl) ?_ ?_
  · rcases List.eq_nil_or_concat c.Incomes with hn | ⟨l, z, hn⟩
    · have e1 : lastN c = 0 := by simp [lastN, hn]
      have e2 : lastD c = 0 := by simp [lastD, hn]
      simp -dsimp -implicitDefEqProofs [-getElem?_pos, go_sem, hP, hO0, hn, encL]
      refine ⟨_, Weaker.refl _, ?_⟩
      rw [hInv]
      exact ⟨⟨0, 0, 0, 0, 0⟩, e1.symm, e2.symm, by simp -dsimp -implicitDefEqProofs [-getElem?_pos, go_sem], by simp -dsimp -implicitDefEqProofs [-getElem?_pos, go_sem], by simp -dsimp -implicitDefEqProofs [-getElem?_pos, go_sem], by simp -dsimp -implicitDefEqProofs [-getElem?_pos, go_sem], by simp -dsimp -implicitDefEqProofs [-getElem?_pos, go_sem, hO0, hn, encL]⟩
    · rw [List.concat_eq_append] at hn
      have e1 : lastN c = z.Number := by simp [lastN, hn]
      have e2 : lastD c = z.Day := by simp [lastD, hn]
      have ln : c.Incomes.length = l.length + 1 := by rw [hn]; simp
      have hz : c.Incomes[l.length]? = some z := by rw [hn]; simp
      have d0 : decide ((0 : Int) < (l.length : Int) + 1) = true := decide_eq_true (by omega)
      have wn := wrap_in ((l.length : Int) + 1 - 1) (by omega)
      rw [Int.add_sub_cancel] at wn
      simp -dsimp -implicitDefEqProofs [-getElem?_pos, go_sem, hP, hO0, ln, d0, Int.add_sub_cancel, wn, hz, cIncm]
      refine ⟨_, Weaker.refl _, ?_⟩
      rw [hInv]
      exact ⟨z, e1.symm, e2.symm, by simp -dsimp -implicitDefEqProofs [-getElem?_pos, go_sem], by simp -dsimp -implicitDefEqProofs [-getElem?_pos, go_sem], by simp -dsimp -implicitDefEqProofs [-getElem?_pos, go_sem], by simp -dsimp -implicitDefEqProofs [-getElem?_pos, go_sem], by simp -dsimp -implicitDefEqProofs [-getElem?_pos, go_sem, hO0]⟩
  · intro s hs'
    rw [hInv] at hs'
    obtain ⟨z, zn, zd, t2, t3, t4, t8, sH⟩ := hs'
    have h0 : s.H[0]? = some (some O0) := by rw [sH]; rfl
    have h1 : s.H[1]? = some (some O1) := by rw [sH]; rfl
    have h2 : s.H[2]? = some (some O2) := by rw [sH]; rfl
    have h4 : s.H.length = 4 := by rw [sH]; rfl
    have h3 : s.H[3]? = some (some ⟨32, 5, [[iv z.Number, iv z.Day, iv z.Payer, iv z.Amount, iv z.Claim]]⟩) := by rw [sH]; rfl
    have lt1 := (List.getElem?_eq_some_iff.1 h1).1
    have lt2 := (List.getElem?_eq_some_iff.1 h2).1
    have lt3 := (List.getElem?_eq_some_iff.1 h3).1
    have lt0 := (List.getElem?_eq_some_iff.1 h0).1
    have cp := copied_c (row := E.row) (src := E.src) c s.H hf
    rw [cCsh, h4] at cp
    clear sH h4
    refine awp_cut (by rw [hN]; kernel_rfl) ?_
    simp -dsimp -implicitDefEqProofs [-getElem?_pos, go_sem, hP, t3, h0, h1, h2, h3, lt0, lt1, lt2, lt3, hO1]
    refine callB_pure px hP en_39 (args_same (by simpa using ix)) .sc ?_
    cases c2 : incB x
    · rw [if_neg (by simp [c2])] at hR
      simp -dsimp -implicitDefEqProofs [-getElem?_pos, go_sem, hP, t4, h0, h1, h2, h3, lt0, lt1, lt2, lt3, hO2]
      refine done_noCash3 ?_
      rw [hQ, hR]
    rw [if_pos c2] at hR
    by_cases c3 : lastN c < x.Number
    rotate_left
    · have d : decide (x.Number ≤ lastN c) = true := decide_eq_true (by omega)
      rw [if_neg c3] at hR
      simp -dsimp -implicitDefEqProofs [-getElem?_pos, go_sem, hP, t3, t4, t8, h0, h1, h2, h3, lt0, lt1, lt2, lt3, hO1, zn, d, hO2]
      refine done_noCash3 ?_
      rw [hQ, hR]
    have d3 : decide (x.Number ≤ lastN c) = false := decide_eq_false (by omega)
    rw [if_pos c3] at hR
    by_cases c4 : lastD c ≤ x.Day
    rotate_left
    · have d : decide (x.Day < lastD c) = true := decide_eq_true (by omega)
      rw [if_neg c4] at hR
      simp -dsimp -implicitDefEqProofs [-getElem?_pos, go_sem, hP, t3, t4, t8, h0, h1, h2, h3, lt0, lt1, lt2, lt3, hO1, zn, zd, d3, d, hO2]
      refine done_noCash3 ?_
      rw [hQ, hR]
    have d4 : decide (x.Day < lastD c) = false := decide_eq_false (by omega)
    rw [if_pos c4] at hR
    by_cases c5 : c.Incomes.length < 100
    rotate_left
    · have le : c.Incomes.length = 100 := by have := (cashE_ok.1 c1).1.2.1; omega
      rw [if_neg c5] at hR
      simp -dsimp -implicitDefEqProofs [-getElem?_pos, go_sem, hP, t2, t3, t4, t8, h0, h1, h2, h3, lt0, lt1, lt2, lt3, hO0, hO1, zn, zd, d3, d4, le, hO2]
      refine done_noCash3 ?_
      rw [hQ, hR]
    have d5 : decide ((c.Incomes.length : Int) = 100) = false := decide_eq_false (by omega)
    rw [if_pos c5] at hR
    have nle : ¬ c.Incomes.length = 100 := by omega
    simp -dsimp -implicitDefEqProofs [-getElem?_pos, go_sem, hP, t2, t3, t4, t8, h0, h1, h2, h3, lt0, lt1, lt2, lt3, hO0, hO1, zn, zd, d3, d4, d5, nle]
    refine awp_cut (by rw [hN]; kernel_rfl) ?_
    simp -dsimp -implicitDefEqProofs [-getElem?_pos, go_sem, hP, t2, h0, hO0, lt0]
    refine callB_m cp hP en_40 ?_
    rintro r H1 ⟨p, A, B, D, F, rfl, hp4, hc, hk⟩
    have g0 := hk _ _ (by simp) h0
    have g1 := hk _ _ (by simp) h1
    have g2 := hk _ _ (by simp) h2
    have hlen := hc.len
    have ho := hc.obj
    obtain ⟨a, na, rfl, ha⟩ := hc.a
    obtain ⟨b, nb, rfl, hb⟩ := hc.b
    obtain ⟨d, nd, rfl, hd⟩ := hc.d
    obtain ⟨f, nf, rfl, hf'⟩ := hc.f
    simp only [encL_len, rowsI_len] at ho
    have lto := (List.getElem?_eq_some_iff.1 ho).1
    have lta := (List.getElem?_eq_some_iff.1 ha).1
    have ltb := (List.getElem?_eq_some_iff.1 hb).1
    have ltd := (List.getElem?_eq_some_iff.1 hd).1
    have ltf := (List.getElem?_eq_some_iff.1 hf').1
    have n1 := obj_ne ho ha (by simp)
    have n2 := obj_ne ho hb (by simp)
    have n3 := obj_ne ho hd (by simp)
    have n4 := obj_ne ho hf' (by simp)
    have n5 := obj_ne hb ha (by simp)
    have n6 := obj_ne hb hd (by simp)
    have n7 := obj_ne hb hf' (by simp)
    have n8 := obj_ne hf' ha (by simp)
    have n9 := obj_ne hf' hd (by simp)
    have n10 := obj_ne hd ha (by simp)
    have n1' : ¬ a = p := fun e => n1 e.symm
    have n2' : ¬ b = p := fun e => n2 e.symm
    have n3' : ¬ d = p := fun e => n3 e.symm
    have n4' : ¬ f = p := fun e => n4 e.symm
    have n7' : ¬ f = b := fun e => n7 e.symm
    obtain ⟨nI, hnI⟩ : ∃ n, n = c.Incomes.length := ⟨_, rfl⟩
    have lb := encL_len TIncome.cells c.Incomes
    have lf := rowsI_len c.Loose
    have ll := (cashE_ok.1 c1).2.len
    rw [← hnI] at ho lb hfi ll
    rw [ll] at ho lf hfl
    obtain ⟨PB, hPB⟩ : ∃ P, P = encL TIncome.cells c.Incomes := ⟨_, rfl⟩
    obtain ⟨PF, hPF⟩ : ∃ P, P = rowsI c.Loose := ⟨_, rfl⟩
    rw [← hPB] at hb lb
    rw [← hPF] at hf' lf
    simp -dsimp -implicitDefEqProofs [-getElem?_pos, go_sem, hP]
    refine awp_cut (by rw [hN]; kernel_rfl) ?_
    simp -dsimp -implicitDefEqProofs [-getElem?_pos, go_sem, hP, ho, lto, hb, ltb, lb]
    obtain ⟨n, hn⟩ : ∃ n, n = nI := ⟨_, rfl⟩
    obtain ⟨Inv2, hInv2⟩ : ∃ Inv2 : St → Prop, Inv2 = TS O0 O1 O2 nI p (start c x) := ⟨_, rfl⟩
    refine awp_join Inv2 (by rw [hN]; kernel_rfl) ?_ ?_
    · simp -dsimp -implicitDefEqProofs [-getElem?_pos, go_sem, hP]
      have mem : ∀ i, (decide (i = p) || decide (i < 4)) = true → i = p ∨ i < 4 := fun i hi => by simpa using hi
      have lt1' := (List.getElem?_eq_some_iff.1 g1).1
      have hD : ∀ i, (decide (i = p) || decide (i < 4)) = true → i < H1.length ∧ ¬ b = i ∧ ¬ f = i := fun i hi => by
        rcases mem i hi with rfl | hi
        · exact ⟨lto, n2', n4'⟩
        · exact ⟨by omega, by omega, by omega⟩
      refine adrawB (fun i => decide (i = p) || decide (i < 4)) [19, 22] hP (by kernel_rfl) (by kernel_rfl) ?_
      have nb1 : ¬ b = 1 := by omega
      have nf1 : ¬ f = 1 := by omega
      have np1 : ¬ p = 1 := by omega
      have nb0 : ¬ b = 0 := by omega
      have nf0 : ¬ f = 0 := by omega
      have np0 : ¬ p = 0 := by omega
      have nb2 : ¬ b = 2 := by omega
      have nf2 : ¬ f = 2 := by omega
      have np2 : ¬ p = 2 := by omega
      have lt0' := (List.getElem?_eq_some_iff.1 g0).1
      have lt2' := (List.getElem?_eq_some_iff.1 g2).1
      simp -dsimp -implicitDefEqProofs [-getElem?_pos, go_sem, hP, restr_get, ho, lto, t3, g1, lt1', hO1, hb, ltb, lb, hf', ltf, lf, n2, n2', n4, n4', n7, n7', nb1, nf1]
      refine ⟨by omega, by omega, agree_gen0 (by simp) fun i hi => ⟨(hD i hi).1, by simp [List.getElem?_set, (hD i hi).2.1]⟩, by omega, by omega, agree_gen (by simp) fun i hi => ⟨by simp; exact (hD i hi).1, by simp [List.getElem?_set, (hD i hi).2.1, (hD i hi).2.2]⟩, ?_⟩
      refine ⟨_, Weaker.refl _, ?_⟩
      rw [hInv2]
      refine ⟨by simp -dsimp -implicitDefEqProofs [-getElem?_pos, go_sem, t2], by simp -dsimp -implicitDefEqProofs [-getElem?_pos, go_sem, t3], by simp -dsimp -implicitDefEqProofs [-getElem?_pos, go_sem, t4], by simp -dsimp -implicitDefEqProofs [-getElem?_pos, go_sem], by simp -dsimp -implicitDefEqProofs [-getElem?_pos, go_sem], ?_, ?_, ?_, hp4, _, _, _, _, started (a := a) (b := H1.length) (d := d) (f := H1.length + 1) na (by omega) nd (by omega) (by simp; omega) rfl rfl rfl rfl ?_ ?_ ?_ ?_ ?_⟩
      · simp -dsimp -implicitDefEqProofs [-getElem?_pos, go_sem, lt0', nb0, nf0, np0, g0]
      · simp -dsimp -implicitDefEqProofs [-getElem?_pos, go_sem, lt1', nb1, nf1, np1, g1]
      · simp -dsimp -implicitDefEqProofs [-getElem?_pos, go_sem, lt2', nb2, nf2, np2, g2]
      · simp -dsimp -implicitDefEqProofs [-getElem?_pos, go_sem, lto, n2', n4', ← hnI, ll]
      · simp -dsimp -implicitDefEqProofs [-getElem?_pos, go_sem, lta, n1, n5, n8, ha]
      · simp -dsimp -implicitDefEqProofs [-getElem?_pos, go_sem, ← hPB, n2, lto]
      · simp -dsimp -implicitDefEqProofs [-getElem?_pos, go_sem, ltd, n3, n6, n9, hd]
      · simp -dsimp -implicitDefEqProofs [-getElem?_pos, go_sem, ← hPF, n4, lto]
    · intro s hs'
      rw [hInv2] at hs'
      clear hInv hInv2 Inv Inv2 ho lto ha hb hd hf' lta ltb ltd ltf n1 n2 n3 n4 n5 n6 n7 n8 n9 n10 n1' n2' n3' n4' n7' hc hlen g0 g1 g2 hk lb lf hPB hPF cp t2 t3 t4 t8 h0 h1 h2 h3 lt0 lt1 lt2 lt3
      have amt := incB_amount c2
      have ok := (cashE_ok.1 c1).2
      have ps := start_pos ok.pos (x := x) (by omega)
      have ca := claimAt_pf c x.Claim hf
      rw [cCsh] at ca
      have keep : ∀ {H H' : Heap} {i : Nat} {o : AObj}, i < 4 → KeptC 4 p H H' → H[i]? = some (some o) → H'[i]? = some (some o) := fun hi hk ho => hk _ _ hi (by omega) ho
      -- the claim that it names
      obtain ⟨Inv3, hInv3⟩ : ∃ Inv3 : St → Prop, Inv3 = TS O0 O1 O2 nI p (mid1 c x) := ⟨_, rfl⟩
      have gs : GoodD c x (start c x) := .start c1
      have g1 : GoodD c x (mid1 c x) := by
        unfold mid1
        split
        · split
          · exact gs.meet c1 (by omega) _
          · exact gs
        · exact gs
      refine awp_join Inv3 (by rw [hN]; kernel_rfl) ?_ ?_
      · obtain ⟨t2, t3, t4, t10, t11, h0, h1, h2, _, A, B, D, F, hc⟩ := hs'
        have lt0 := (List.getElem?_eq_some_iff.1 h0).1
        have lt1 := (List.getElem?_eq_some_iff.1 h1).1
        simp -dsimp -implicitDefEqProofs [-getElem?_pos, go_sem, hP, t2, t3, h0, lt0, h1, lt1, hO0, hO1]
        refine callB_pure ca hP en_41 (args_same (by simpa [imm_sc] using ic)) .sc ?_
        cases hk : payAt c.Claims x.Claim with
        | none =>
          have e : mid1 c x = start c x := by unfold mid1; rw [hk]
          simp -dsimp -implicitDefEqProofs [-getElem?_pos, go_sem, hP, idxO]
          refine adrawB (fun _ => true) [] hP (by kernel_rfl) (by kernel_rfl) ?_
          simp -dsimp -implicitDefEqProofs [-getElem?_pos, go_sem, hP]
          refine ⟨_, Weaker.refl _, ?_⟩
          rw [hInv3, e]
          exact ⟨by simp -dsimp -implicitDefEqProofs [-getElem?_pos, go_sem, t2], by simp -dsimp -implicitDefEqProofs [-getElem?_pos, go_sem, t3], by simp -dsimp -implicitDefEqProofs [-getElem?_pos, go_sem, t4], by simp -dsimp -implicitDefEqProofs [-getElem?_pos, go_sem, t10], by simp -dsimp -implicitDefEqProofs [-getElem?_pos, go_sem, t11], h0, h1, h2, hp4, _, _, _, _, hc⟩
        | some k =>
          obtain ⟨y, hy, hyid⟩ := payAt_some hk
          have d0 : decide ((0 : Int) ≤ (k : Int)) = true := decide_eq_true (by omega)
          by_cases e1 : y.Payer = x.Payer
          · have e : mid1 c x = meet (start c x) nI k := by
              unfold mid1
              rw [hk]
              simp only
              rw [if_pos (by rw [hy, ← e1]; rfl), hnI]
            obtain ⟨lo, hlo, lo1, lo2⟩ := gs.lo c1 (by omega)
            have hy' : (start c x).Claims[k]? = some y := hy
            have yo := gs.cl c1 hy'
            have mm := cmatch_m (row := E.row) (src := E.src) hc (i := nI) (by rw [hnI]; exact hlo) hy' (by rw [hnI]; exact gs.inc) ⟨lo1, by omega⟩ yo (by have := gs.len; omega)
            simp -dsimp -implicitDefEqProofs [-getElem?_pos, go_sem, hP, idxO]
            refine adrawB (fun _ => true) [] hP (by kernel_rfl) (by kernel_rfl) ?_
            simp -dsimp -implicitDefEqProofs [-getElem?_pos, go_sem, hP, t2, t3, t10, t11, h0, lt0, h1, lt1, hO0, hO1, d0, hy, cClm, e1]
            refine callB_m mm hP en_42 ?_
            rintro r H' ⟨⟨D', hc'⟩, hkk⟩
            simp -dsimp -implicitDefEqProofs [-getElem?_pos, go_sem, hP]
            refine ⟨_, Weaker.refl _, ?_⟩
            rw [hInv3, e]
            exact ⟨by simp -dsimp -implicitDefEqProofs [-getElem?_pos, go_sem, t2], by simp -dsimp -implicitDefEqProofs [-getElem?_pos, go_sem, t3], by simp -dsimp -implicitDefEqProofs [-getElem?_pos, go_sem, t4], by simp -dsimp -implicitDefEqProofs [-getElem?_pos, go_sem, t10], by simp -dsimp -implicitDefEqProofs [-getElem?_pos, go_sem, t11], keep (by omega) hkk h0, keep (by omega) hkk h1, keep (by omega) hkk h2, hp4, _, _, _, _, hc'⟩
          · have e : mid1 c x = start c x := by
              unfold mid1
              rw [hk]
              simp only
              rw [if_neg (by rw [hy]; exact fun h => e1 (Option.some.inj h))]
            simp -dsimp -implicitDefEqProofs [-getElem?_pos, go_sem, hP, idxO]
            refine adrawB (fun _ => true) [] hP (by kernel_rfl) (by kernel_rfl) ?_
            simp -dsimp -implicitDefEqProofs [-getElem?_pos, go_sem, hP, t2, t3, t10, t11, h0, lt0, h1, lt1, hO0, hO1, d0, hy, cClm, e1]
            refine ⟨_, Weaker.refl _, ?_⟩
            rw [hInv3, e]
            exact ⟨by simp -dsimp -implicitDefEqProofs [-getElem?_pos, go_sem, t2], by simp -dsimp -implicitDefEqProofs [-getElem?_pos, go_sem, t3], by simp -dsimp -implicitDefEqProofs [-getElem?_pos, go_sem, t4], by simp -dsimp -implicitDefEqProofs [-getElem?_pos, go_sem, t10], by simp -dsimp -implicitDefEqProofs [-getElem?_pos, go_sem, t11], h0, h1, h2, hp4, _, _, _, _, hc⟩
      -- the only one of just its amount
      clear hs' s
      intro s hs'
      rw [hInv3] at hs'
      obtain ⟨t2, t3, t4, t10, t11, h0, h1, h2, _, A, B, D, F, hc⟩ := hs'
      have lt0 := (List.getElem?_eq_some_iff.1 h0).1
      have lt1 := (List.getElem?_eq_some_iff.1 h1).1
      obtain ⟨d1, hd1⟩ : ∃ d, d = mid1 c x := ⟨_, rfl⟩
      rw [← hd1] at hc g1
      have em2 : mid2 c x = if (d1.Loose[nI]?).getD 0 = x.Amount then meets d1 nI (exactK d1.Claims x.Payer x.Amount) else d1 := by
        rw [hd1, hnI]
        rfl
      obtain ⟨d2, hd2⟩ : ∃ d, d = mid2 c x := ⟨_, rfl⟩
      rw [← hd2] at em2
      have g2 : GoodD c x d2 := by
        rw [em2]
        split
        · rw [hnI]; exact g1.meets c1 (by omega) _
        · exact g1
      obtain ⟨Inv4, hInv4⟩ : ∃ Inv4 : St → Prop, Inv4 = TS O0 O1 O2 nI p d2 := ⟨_, rfl⟩
      obtain ⟨lo, hlo, lo1, lo2⟩ := g1.lo c1 (by omega)
      rw [← hnI] at hlo
      have lcl : d1.Claims.length < 20 := by rw [g1.fall.cn]; exact hl
      refine awp_join Inv4 (by rw [hN]; kernel_rfl) ?_ ?_
      · have ho := hc.obj
        have lto := (List.getElem?_eq_some_iff.1 ho).1
        obtain ⟨a, na, hA, ha⟩ := hc.a
        obtain ⟨f, nf, hF, hf'⟩ := hc.f
        have ltf := (List.getElem?_eq_some_iff.1 hf').1
        have rf := rowsI_get hlo
        have lf := rowsI_len d1.Loose
        have ltl : nI < d1.Loose.length := (List.getElem?_eq_some_iff.1 hlo).1
        have ho2 := ho
        rw [hF] at ho2
        rw [encL_len] at hA
        rw [hA] at ho
        obtain ⟨PF, hPF⟩ : ∃ P, P = rowsI d1.Loose := ⟨_, rfl⟩
        rw [← hPF] at hf' rf lf ho2
        simp -dsimp -implicitDefEqProofs [-getElem?_pos, go_sem, hP]
        refine adrawB (fun _ => true) [] hP (by kernel_rfl) (by kernel_rfl) ?_
        by_cases e1 : lo = x.Amount
        rotate_left
        · have e : d2 = d1 := by rw [em2, hlo, Option.getD_some, if_neg e1]
          simp -dsimp -implicitDefEqProofs [-getElem?_pos, go_sem, hP, t10, ho2, lto, t11, hf', ltf, rf, lf, ltl, t3, h1, lt1, hO1, e1]
          refine ⟨_, Weaker.refl _, ?_⟩
          rw [hInv4, e]
          exact ⟨by simp -dsimp -implicitDefEqProofs [-getElem?_pos, go_sem, t2], by simp -dsimp -implicitDefEqProofs [-getElem?_pos, go_sem, t3], by simp -dsimp -implicitDefEqProofs [-getElem?_pos, go_sem, t4], by simp -dsimp -implicitDefEqProofs [-getElem?_pos, go_sem, t10], by simp -dsimp -implicitDefEqProofs [-getElem?_pos, go_sem, t11], h0, h1, h2, hp4, _, _, _, _, hc⟩
        have e : d2 = meets d1 nI (exactK d1.Claims x.Payer x.Amount) := by rw [em2, hlo, Option.getD_some, if_pos e1]
        have xm := exact_m (row := E.row) (src := E.src) ho ha lcl x.Payer x.Amount
        simp -dsimp -implicitDefEqProofs [-getElem?_pos, go_sem, hP, t10, ho2, lto, t11, hf', ltf, rf, lf, ltl, t3, h1, lt1, hO1, e1]
        refine callB_m xm hP en_43 ?_
        rintro r H' ⟨hr', hk⟩
        have h0' := hk _ _ (by simp) h0
        have h1' := hk _ _ (by simp) h1
        have h2' := hk _ _ (by simp) h2
        have hlen := hc.len
        have hc' := hc.kept hk (by have := (List.getElem?_eq_some_iff.1 (hk _ _ (by simp) hc.obj)).1; omega)
        rcases hr' with ⟨e2, rfl⟩ | ⟨k, id, tl, e2, rfl, hid, hio⟩
        · rw [e2] at e
          have e : d2 = d1 := e
          simp -dsimp -implicitDefEqProofs [-getElem?_pos, go_sem, hP]
          refine aloop0 (fun m s => s.t 124 = iv 0 ∧ s.t 125 = iv 0 ∧ TS O0 O1 O2 nI p d2 s) 0 (by rw [hN]; rfl) ?_ ?_
          · refine ⟨by simp -dsimp -implicitDefEqProofs [-getElem?_pos, go_sem], by simp -dsimp -implicitDefEqProofs [-getElem?_pos, go_sem], ?_⟩
            rw [e]
            exact ⟨by simp -dsimp -implicitDefEqProofs [-getElem?_pos, go_sem, t2], by simp -dsimp -implicitDefEqProofs [-getElem?_pos, go_sem, t3], by simp -dsimp -implicitDefEqProofs [-getElem?_pos, go_sem, t4], by simp -dsimp -implicitDefEqProofs [-getElem?_pos, go_sem, t10], by simp -dsimp -implicitDefEqProofs [-getElem?_pos, go_sem, t11], h0', h1', h2', hp4, _, _, _, _, hc'⟩
          rintro m s' ⟨t124, t125, ts⟩
          simp -dsimp -implicitDefEqProofs [-getElem?_pos, go_sem, hP, t124, t125]
          refine ⟨_, Weaker.refl _, ?_⟩
          rw [hInv4]
          exact ts
        · rw [e2] at e
          have ltio := (List.getElem?_eq_some_iff.1 hio).1
          simp -dsimp -implicitDefEqProofs [-getElem?_pos, go_sem, hP, hio]
          refine aloop_frz hW 123 (id := id) (n := 1) (ty := 3) (k := 1) (es := [iv (k : Nat)] :: tl) (fs := [[iv (k : Nat)]]) (by simp -dsimp -implicitDefEqProofs [-getElem?_pos, go_sem]) (by simp -dsimp -implicitDefEqProofs [-getElem?_pos, go_sem]; exact hio) rfl (imm_list.2 (by simp [imm_sc])) ?_
          have hkn : Kept [] s.H (H'.set id none) := kept_new _ hid hk
          have hc2 := hc.kept hkn (by have := (List.getElem?_eq_some_iff.1 (hkn _ _ (by simp) hc.obj)).1; rw [List.length_set] at *; omega)
          obtain ⟨I, hI⟩ : ∃ I : Nat → St → Prop, I = fun m s => ∃ (j : Nat), j ≤ 1 ∧ m = 1 - j ∧ s.t 123 = .list 1 [[iv (k : Nat)]] ∧ s.t 124 = iv 1 ∧ s.t 125 = iv j ∧ TS O0 O1 O2 nI p (meets d1 nI ([k].take j)) s := ⟨_, rfl⟩
          refine aloop0 I (1) (by rw [hN]; rfl) ?_ ?_
          · rw [hI]
            exact ⟨0, by omega, by omega, by simp -dsimp -implicitDefEqProofs [-getElem?_pos, go_sem], by simp -dsimp -implicitDefEqProofs [-getElem?_pos, go_sem], by simp -dsimp -implicitDefEqProofs [-getElem?_pos, go_sem], by simp -dsimp -implicitDefEqProofs [-getElem?_pos, go_sem, t2], by simp -dsimp -implicitDefEqProofs [-getElem?_pos, go_sem, t3], by simp -dsimp -implicitDefEqProofs [-getElem?_pos, go_sem, t4], by simp -dsimp -implicitDefEqProofs [-getElem?_pos, go_sem, t10], by simp -dsimp -implicitDefEqProofs [-getElem?_pos, go_sem, t11], hkn _ _ (by simp) h0, hkn _ _ (by simp) h1, hkn _ _ (by simp) h2, hp4, _, _, _, _, hc2⟩
          clear hc hc' hc2
          intro m s hs'
          rw [hI] at hs'
          obtain ⟨j, hj, hm, t123, t124, t125, ts⟩ := hs'
          simp -dsimp -implicitDefEqProofs [-getElem?_pos, go_sem, hP, t124, t125]
          refine condP (fun h => ?_) (fun h => ?_)
          · have hj0 : j = 0 := by
              have : (j : Int) < 1 := by simpa using h
              omega
            subst hj0
            obtain ⟨t2, t3, t4, t10, t11, h0, h1, h2, _, A, B, D, F, hc⟩ := ts
            obtain ⟨z, hz, _⟩ := openK_mem.1 (exactK_mem (by rw [e2]; simp : k ∈ exactK d1.Claims x.Payer x.Amount))
            have zo := g1.cl c1 hz
            have mm := cmatch_m (row := E.row) (src := E.src) hc (i := nI) (lo := lo) hlo hz (by rw [hnI]; exact g1.inc) ⟨lo1, by omega⟩ zo (by show d1.Matches.length ≤ 100000; have := g1.len; omega)
            have w1 : IntKind.i64.wrap 1 = 1 := wrap_in 1 (by omega)
            simp -dsimp -implicitDefEqProofs [-getElem?_pos, go_sem, hP, t123, t125, t10, t11]
            refine callB_m mm hP en_42 ?_
            rintro r H' ⟨⟨D', hc'⟩, hkk⟩
            simp -dsimp -implicitDefEqProofs [-getElem?_pos, go_sem, hP, t125, w1]
            refine ⟨0, by omega, ?_⟩
            rw [hI]
            exact ⟨1, by omega, by omega, by simp -dsimp -implicitDefEqProofs [-getElem?_pos, go_sem, t123], by simp -dsimp -implicitDefEqProofs [-getElem?_pos, go_sem, t124], by simp -dsimp -implicitDefEqProofs [-getElem?_pos, go_sem], by simp -dsimp -implicitDefEqProofs [-getElem?_pos, go_sem, t2], by simp -dsimp -implicitDefEqProofs [-getElem?_pos, go_sem, t3], by simp -dsimp -implicitDefEqProofs [-getElem?_pos, go_sem, t4], by simp -dsimp -implicitDefEqProofs [-getElem?_pos, go_sem, t10], by simp -dsimp -implicitDefEqProofs [-getElem?_pos, go_sem, t11], keep (by omega) hkk h0, keep (by omega) hkk h1, keep (by omega) hkk h2, hp4, _, _, _, _, hc'⟩
          · have hj1 : j = 1 := by
              have : (1 : Int) ≤ j := by simpa using h
              omega
            subst hj1
            simp -dsimp -implicitDefEqProofs [-getElem?_pos, go_sem, hP]
            refine ⟨_, Weaker.refl _, ?_⟩
            rw [hInv4, e]
            exact ts
      -- all the open ones
      clear t2 t3 t4 t10 t11 h0 h1 h2 hc lt0 lt1 s
      intro s hs'
      rw [hInv4] at hs'
      obtain ⟨t2, t3, t4, t10, t11, h0, h1, h2, _, A, B, D, F, hc⟩ := hs'
      have lt0 := (List.getElem?_eq_some_iff.1 h0).1
      have lt1 := (List.getElem?_eq_some_iff.1 h1).1
      have lcl2 : d2.Claims.length < 20 := by rw [g2.fall.cn]; exact hl
      obtain ⟨ks, hks⟩ : ∃ ks, ks = openK d2.Claims x.Payer := ⟨_, rfl⟩
      have et : taken c x = meets d2 nI ks := by rw [taken_eq, ← hd2, hks, hnI]
      have klen : ks.length ≤ 100 := by
        rw [hks, openK_eq, ssort_len]
        refine Nat.le_trans (List.length_filter_le _ _) ?_
        simp
        omega
      obtain ⟨Inv5, hInv5⟩ : ∃ Inv5 : St → Prop, Inv5 = TS O0 O1 O2 nI p (taken c x) := ⟨_, rfl⟩
      refine awp_join Inv5 (by rw [hN]; kernel_rfl) ?_ ?_
      · have ho := hc.obj
        have lto := (List.getElem?_eq_some_iff.1 ho).1
        obtain ⟨a, na, hA, ha⟩ := hc.a
        rw [encL_len] at hA
        rw [hA] at ho
        have om := open_m (row := E.row) (src := E.src) ho ha lcl2 x.Payer
        rw [← hks] at om
        simp -dsimp -implicitDefEqProofs [-getElem?_pos, go_sem, hP, t10, t3, h1, lt1, hO1]
        refine callB_m om hP en_44 ?_
        rintro r H' ⟨id, rfl, hid, hio, hk⟩
        have hlen := hc.len
        have ltio := (List.getElem?_eq_some_iff.1 hio).1
        have hkn : Kept [] s.H (H'.set id none) := kept_new _ hid hk
        have hc2 := hc.kept hkn (by have := (List.getElem?_eq_some_iff.1 (hkn _ _ (by simp) hc.obj)).1; rw [List.length_set] at *; omega)
        simp -dsimp -implicitDefEqProofs [-getElem?_pos, go_sem, hP, hio, encL_len]
        refine aloop_frz hW 137 (id := id) (n := ks.length) (ty := 3) (k := 1) (es := encL encN ks) (fs := encL encN ks) (by simp -dsimp -implicitDefEqProofs [-getElem?_pos, go_sem]) (by simp -dsimp -implicitDefEqProofs [-getElem?_pos, go_sem]; exact hio) (List.take_of_length_le (by rw [encL_len]; omega)) (imm_encL encN (fun k c hc => by simp only [encN, List.mem_singleton] at hc; subst hc; exact .sc) ks) ?_
        obtain ⟨I, hI⟩ : ∃ I : Nat → St → Prop, I = fun m s => ∃ (j : Nat), j ≤ ks.length ∧ m = ks.length - j ∧ s.t 137 = .list 1 (encL encN ks) ∧ s.t 138 = iv ks.length ∧ s.t 139 = iv j ∧ TS O0 O1 O2 nI p (meets d2 nI (ks.take j)) s := ⟨_, rfl⟩
        refine aloop0 I (ks.length) (by rw [hN]; rfl) ?_ ?_
        · rw [hI]
          exact ⟨0, by omega, by omega, by simp -dsimp -implicitDefEqProofs [-getElem?_pos, go_sem], by simp -dsimp -implicitDefEqProofs [-getElem?_pos, go_sem], by simp -dsimp -implicitDefEqProofs [-getElem?_pos, go_sem], by simp -dsimp -implicitDefEqProofs [-getElem?_pos, go_sem, t2], by simp -dsimp -implicitDefEqProofs [-getElem?_pos, go_sem, t3], by simp -dsimp -implicitDefEqProofs [-getElem?_pos, go_sem, t4], by simp -dsimp -implicitDefEqProofs [-getElem?_pos, go_sem, t10], by simp -dsimp -implicitDefEqProofs [-getElem?_pos, go_sem, t11], hkn _ _ (by simp) h0, hkn _ _ (by simp) h1, hkn _ _ (by simp) h2, hp4, _, _, _, _, hc2⟩
        clear hc hc2
        intro m s hs'
        rw [hI] at hs'
        obtain ⟨j, hj, hm, t137, t138, t139, ts⟩ := hs'
        simp -dsimp -implicitDefEqProofs [-getElem?_pos, go_sem, hP, t138, t139]
        refine condP (fun h => ?_) (fun h => ?_)
        · have hj : j < ks.length := by simpa using h
          obtain ⟨k, hkj⟩ : ∃ k, ks[j]? = some k := ⟨_, List.getElem?_eq_getElem hj⟩
          obtain ⟨d, hdd⟩ : ∃ d, d = meets d2 nI (ks.take j) := ⟨_, rfl⟩
          have gd : GoodD c x d := by rw [hdd, hnI]; exact g2.meets c1 (by omega) _
          rw [← hdd] at ts
          obtain ⟨t2, t3, t4, t10, t11, h0, h1, h2, _, A, B, D, F, hc⟩ := ts
          have kl : k < d.Claims.length := by
            have := openK_lt (show k ∈ openK d2.Claims x.Payer by rw [← hks]; exact List.mem_of_getElem? hkj)
            rw [gd.fall.cn, ← g2.fall.cn]
            exact this
          obtain ⟨z, hz⟩ : ∃ z, d.Claims[k]? = some z := ⟨_, List.getElem?_eq_getElem kl⟩
          obtain ⟨lo, hlo, lo1, lo2⟩ := gd.lo c1 (by omega)
          have mm := cmatch_m (row := E.row) (src := E.src) hc (i := nI) (lo := lo) (by rw [hnI]; exact hlo) hz (by rw [hnI]; exact gd.inc) ⟨lo1, by omega⟩ (gd.cl c1 hz) (by have := gd.len; omega)
          have wj := wrap_in ((j : Int) + 1) (by omega)
          simp -dsimp -implicitDefEqProofs [-getElem?_pos, go_sem, hP, t137, t139, t10, t11, hkj, encN]
          refine callB_m mm hP en_42 ?_
          rintro r H' ⟨⟨D', hc'⟩, hkk⟩
          simp -dsimp -implicitDefEqProofs [-getElem?_pos, go_sem, hP, t139, wj]
          refine ⟨ks.length - (j + 1), by omega, ?_⟩
          rw [hI]
          refine ⟨j + 1, by omega, rfl, by simp -dsimp -implicitDefEqProofs [-getElem?_pos, go_sem, t137], by simp -dsimp -implicitDefEqProofs [-getElem?_pos, go_sem, t138], by simp -dsimp -implicitDefEqProofs [-getElem?_pos, go_sem], ?_⟩
          rw [take_snoc hkj, meets_snoc, ← hdd]
          exact ⟨by simp -dsimp -implicitDefEqProofs [-getElem?_pos, go_sem, t2], by simp -dsimp -implicitDefEqProofs [-getElem?_pos, go_sem, t3], by simp -dsimp -implicitDefEqProofs [-getElem?_pos, go_sem, t4], by simp -dsimp -implicitDefEqProofs [-getElem?_pos, go_sem, t10], by simp -dsimp -implicitDefEqProofs [-getElem?_pos, go_sem, t11], keep (by omega) hkk h0, keep (by omega) hkk h1, keep (by omega) hkk h2, hp4, _, _, _, _, hc'⟩
        · have hj : j = ks.length := by
            have : ¬ j < ks.length := by simpa using h
            omega
          subst hj
          simp -dsimp -implicitDefEqProofs [-getElem?_pos, go_sem, hP]
          refine ⟨_, Weaker.refl _, ?_⟩
          rw [hInv5, et]
          rw [List.take_length] at ts
          exact ts
      -- what is handed back
      clear t2 t3 t4 t10 t11 h0 h1 h2 hc lt0 lt1 s
      intro s hs'
      rw [hInv5] at hs'
      obtain ⟨t2, t3, t4, t10, t11, h0, h1, h2, _, A, B, D, F, hc⟩ := hs'
      have gt : GoodD c x (taken c x) := by rw [et, hnI]; exact g2.meets c1 (by omega) _
      obtain ⟨d, hdd⟩ : ∃ d, d = taken c x := ⟨_, rfl⟩
      rw [← hdd] at hc gt hR
      have lt0 := (List.getElem?_eq_some_iff.1 h0).1
      have lt2 := (List.getElem?_eq_some_iff.1 h2).1
      have ho := hc.obj
      obtain ⟨dd, nd, rfl, hd⟩ := hc.d
      have lto := (List.getElem?_eq_some_iff.1 ho).1
      have ltd := (List.getElem?_eq_some_iff.1 hd).1
      rw [encL_len] at ho
      have ld := encL_len TMatch.cells d.Matches
      obtain ⟨nD, hnD⟩ : ∃ n, n = d.Matches.length := ⟨_, rfl⟩
      rw [← hnD] at ho ld hR
      refine awp_cut (by rw [hN]; kernel_rfl) ?_
      by_cases c6 : nD ≤ 160
      rotate_left
      · have d6 : decide ((160 : Int) < (nD : Int)) = true := decide_eq_true (by omega)
        have n6 : 160 < nD := by omega
        rw [if_neg c6] at hR
        simp -dsimp -implicitDefEqProofs [-getElem?_pos, go_sem, hP, t10, ho, lto, hd, ltd, ld, d6, n6, t4, h2, lt2, hO2]
        refine done_noCash3 ?_
        rw [hQ, hR]
      have d6 : decide ((160 : Int) < (nD : Int)) = false := decide_eq_false (by omega)
      have n6 : ¬ 160 < nD := by omega
      rw [if_pos c6] at hR
      simp -dsimp -implicitDefEqProofs [-getElem?_pos, go_sem, hP, t10, ho, lto, hd, ltd, ld, d6, n6]
      have npd := obj_ne ho hd (by simp)
      obtain ⟨new, hnew, _⟩ := taken_sums (c := c) (x := x) ok.pos ok.len (by omega)
      rw [← hdd] at hnew
      have lnew : nD = c.Matches.length + new.length := by rw [hnD, hnew, List.length_append]
      have im := imm_matches d.Matches
      have hce := hc.b
      have e1 := (hc.a.set (o' := none) hd (by simp)).set (i := p) (o' := some ⟨29, 4, [[A, B, matchesL d.Matches, F]]⟩) (by rw [List.getElem?_set_ne (fun e => npd e.symm)]; exact ho) (by simp)
      have e2 := (hc.b.set (o' := none) hd (by simp)).set (i := p) (o' := some ⟨29, 4, [[A, B, matchesL d.Matches, F]]⟩) (by rw [List.getElem?_set_ne (fun e => npd e.symm)]; exact ho) (by simp)
      have e4 := (hc.f.set (o' := none) hd (by simp)).set (i := p) (o' := some ⟨29, 4, [[A, B, matchesL d.Matches, F]]⟩) (by rw [List.getElem?_set_ne (fun e => npd e.symm)]; exact ho) (by simp)
      refine AWp.weaken (weaker_frzcell (o := p) (id := dd) (r := 0) (c := 2) (ty := 29) (k := 4) (es := [[A, B, .sref dd 0 nD, F]]) (e := [A, B, .sref dd 0 nD, F]) (ty' := 40) (kk := 3) (fs := encL TMatch.cells d.Matches) (n := nD) hW ho (by omega) rfl rfl hd ld.symm im npd) ?_
      have h0' : ((s.H.set dd none).set p (some (⟨29, 4, [[A, B, matchesL d.Matches, F]]⟩ : AObj)))[0]? = some (some O0) := by rw [List.getElem?_set_ne (by omega), List.getElem?_set_ne (by omega)]; exact h0
      have h2' : ((s.H.set dd none).set p (some (⟨29, 4, [[A, B, matchesL d.Matches, F]]⟩ : AObj)))[2]? = some (some O2) := by rw [List.getElem?_set_ne (by omega), List.getElem?_set_ne (by omega)]; exact h2
      have hp' : ((s.H.set dd none).set p (some (⟨29, 4, [[A, B, matchesL d.Matches, F]]⟩ : AObj)))[p]? = some (some ⟨29, 4, [[A, B, matchesL d.Matches, F]]⟩) := by rw [List.getElem?_set_self (by rw [List.length_set]; exact lto)]
      simp only [List.set_cons_zero, List.set_cons_succ]
      obtain ⟨H3, hH3⟩ : ∃ H3, H3 = (s.H.set dd none).set p (some (⟨29, 4, [[A, B, matchesL d.Matches, F]]⟩ : AObj)) := ⟨_, rfl⟩
      simp only [← hH3] at h0' h2' hp' e1 e2 e4 ⊢
      have lt0' := (List.getElem?_eq_some_iff.1 h0').1
      have lt2' := (List.getElem?_eq_some_iff.1 h2').1
      have ltp' := (List.getElem?_eq_some_iff.1 hp').1
      refine awp_sound _ _ _ (by rw [hN]; kernel_rfl) ?_
      have ml : c.Matches.length ≤ nD := by omega
      have mlI : (c.Matches.length : Int) ≤ nD := by omega
      have edr : (encL TMatch.cells d.Matches).drop c.Matches.length = encL TMatch.cells new := by
        rw [encL_dropE, hnew, List.drop_left]
      have enew : d.Matches.drop c.Matches.length = new := by rw [hnew, List.drop_left]
      have ll2 : d.Matches.length = nD := hnD.symm
      simp -dsimp -implicitDefEqProofs [-getElem?_pos, go_sem, hP]
      refine adrawB (fun _ => true) [12] hP (by kernel_rfl) (by kernel_rfl) ?_
      have etk : (encL TMatch.cells d.Matches).take nD = encL TMatch.cells d.Matches := List.take_of_length_le (by omega)
      simp -dsimp -implicitDefEqProofs [-getElem?_pos, go_sem, hP, t2, t4, t10, h0', h2', hp', lt0', lt2', ltp', hO0, asliceOp, bound, aslice, ll2, ml, mlI, etk, edr, ld]
      refine callB_is ((clone_pf_mtc new (by omega)).lift _ _) hP en_45 (by simpa using imm_matches new) (imm_matches new) ?_
      have c1' : A.cellish = true := by obtain ⟨_, _, rfl, _⟩ := e1; rfl
      have c2' : B.cellish = true := by obtain ⟨_, _, rfl, _⟩ := e2; rfl
      have c4' : F.cellish = true := by obtain ⟨_, _, rfl, _⟩ := e4; rfl
      refine ⟨fun _ => agree_refl _ _, ?_⟩
      simp -dsimp -implicitDefEqProofs [-getElem?_pos, go_sem, hP, t2, t4, t10, h2', hO2, lt2', c1', c2', c4']
      refine done_cash3 (cs' := d.cells) ?_ (imm_matches new) ?_
      · rw [cCsh]
        exact (e1.set h2' (by rw [hO2]; simp)).cw (imm_claims _) ((e2.set h2' (by rw [hO2]; simp)).cw (imm_incomes _) (cw_imm im ((e4.set h2' (by rw [hO2]; simp)).cw (d.imm _ (by simp [cCsh])) .nil)))
      · rw [hQ, hR]
        simp only [hnew, List.drop_left]
end Go.Proofs.YtgapbmaehfdkoaaGreatDoor
