/- PA: how a walk's stops are passed: ends, calls, loops, regions that draw. -/
import Derived.Test.YtellcfkpfccgaaaPaSimp
namespace Go.PA
open Go.RowKit

/-- What a function hands back. -/
def Done (H : Heap) (r : AV) (Q : AV → Prop) (_ : Bx Q) : Prop := ∃ x, Weak (view H r) x ∧ Imm (view H r) ∧ Imm x ∧ Q x

theorem aret_ret {P : Program} {rs : List ResultVar} {Q : AV → Prop} {s : St} : ARet P rs Q .ret s = OB (ares P s rs) (fun r => Done s.H r Q .mk) .mk := by
  simp only [ARet]
  cases ares P s rs <;> rfl
theorem aret_normal {P : Program} {rs : List ResultVar} {Q : AV → Prop} {s : St} : ARet P rs Q .normal s = OB (ares P s rs) (fun r => Done s.H r Q .mk) .mk := by
  simp only [ARet]
  cases ares P s rs <;> rfl
theorem ares_1 {P : Program} {s : St} {r : ResultVar} : ares P s [r] = ares1 P s r := rfl
def tupL : List (Option AV) → Option (List AV)
  | [] => some []
  | o :: l => match o with
    | none => none
    | some a => match tupL l with
      | none => none
      | some as => some (a :: as)
theorem tupL_nil : tupL [] = some [] := rfl
def consO (a : AV) : Option (List AV) → Option (List AV)
  | none => none
  | some as => some (a :: as)
theorem tupL_cons (a : AV) (l : List (Option AV)) : tupL (some a :: l) = consO a (tupL l) := by simp only [tupL]; cases tupL l <;> rfl
theorem consO_some (a : AV) (l : List AV) : consO a (some l) = some (a :: l) := rfl
theorem mapM_tupL (f : ResultVar → Option AV) : ∀ l : List ResultVar, l.mapM f = tupL (l.map f)
  | [] => rfl
  | r :: l => by
    rw [List.mapM_cons, mapM_tupL f l]
    simp only [List.map_cons, tupL]
    cases f r with
    | none => rfl
    | some a => simp only [Option.bind_eq_bind, Option.bind_some]; cases tupL (l.map f) <;> rfl
theorem ares_2 {P : Program} {s : St} {r r' : ResultVar} {l : List ResultVar} : ares P s (r :: r' :: l) = (tupL ((r :: r' :: l).map (ares1 P s))).map .tup := by
  rw [← mapM_tupL]; rfl
theorem ares_0 {P : Program} {s : St} : ares P s [] = some (.tup []) := rfl
theorem ares1_tmp {P : Program} {s : St} {t : Tmp} : ares1 P s (.tmp t) = some (s.t t) := rfl
theorem ares1_cell {P : Program} {s : St} {t : Tmp} {ty : TypeId} : ares1 P s (.cell t ty) = (addrCells s.H (s.t t)).bind (aload P ty) := rfl

theorem done_sc {H : Heap} {v : Value} {Q : AV → Prop} {b : Bx Q} : Done H (.sc v) Q b = Q (.sc v) := by
  apply propext
  constructor
  · rintro ⟨x, h1, _, _, h4⟩
    have h1 : Weak (.sc v) x := h1
    cases h1
    exact h4
  · intro h
    exact ⟨_, .refl _, .sc, .sc, h⟩
theorem done {H : Heap} {r x : AV} {Q : AV → Prop} {b : Bx Q} (hi : Imm (view H r)) (hq : Q x) (hv : view H r = x) : Done H r Q b := ⟨x, by rw [hv]; exact .refl x, hi, hv ▸ hi, hq⟩
theorem done_weak {H : Heap} {r x : AV} {Q : AV → Prop} {b : Bx Q} (hi : Imm (view H r)) (hx : Imm x) (hw : Weak (view H r) x) (hq : Q x) : Done H r Q b := ⟨x, hw, hi, hx, hq⟩

theorem view_sc (H : Heap) (v : Value) : view H (.sc v) = .sc v := rfl
theorem view_nil (H : Heap) : view H .nil = .nil := rfl
theorem view_iref (H : Heap) (cs : List AV) : view H (.iref cs) = .iref cs := rfl
theorem view_ref (H : Heap) (i j k : Nat) : view H (.ref i j k) = .ref i j k := rfl
theorem viewR_ref (H : Heap) (id i j : Nat) : viewR H (.ref id i j) = match addrCells H (.ref id i j) with | some as => .iref as | none => .junk := rfl
theorem viewR_sc (H : Heap) (v : Value) : viewR H (.sc v) = .sc v := rfl
theorem viewR_iref (H : Heap) (cs : List AV) : viewR H (.iref cs) = .iref cs := rfl
theorem viewR_list (H : Heap) (k : Nat) (es : List (List AV)) : viewR H (.list k es) = .list k es := rfl
theorem view_fn (H : Heap) (f : FuncId) (cs : List AV) : view H (.fn f cs) = .fn f (cs.map (viewR H)) := rfl
theorem view_imap (H : Heap) (es : List (Value × Value)) : view H (.imap es) = .imap es := rfl
theorem view1_imap (H : Heap) (es : List (Value × Value)) : view1 H (.imap es) = .imap es := rfl
theorem view2_imap (H : Heap) (es : List (Value × Value)) : view2 H (.imap es) = .imap es := rfl
theorem view_tup (H : Heap) (cs : List AV) : view H (.tup cs) = .tup (cs.map (view2 H)) := rfl
theorem view_agg (H : Heap) (cs : List AV) : view H (.agg cs) = .agg (cs.map (view1 H)) := rfl
theorem view_list (H : Heap) (k : Nat) (es : List (List AV)) : view H (.list k es) = .list k (es.map (·.map (view1 H))) := rfl
theorem view2_sc (H : Heap) (v : Value) : view2 H (.sc v) = .sc v := rfl
theorem view2_nil (H : Heap) : view2 H .nil = .nil := rfl
theorem view2_iref (H : Heap) (cs : List AV) : view2 H (.iref cs) = .iref cs := rfl
theorem view2_fn (H : Heap) (f : FuncId) (cs : List AV) : view2 H (.fn f cs) = .fn f (cs.map (viewR H)) := rfl
theorem view2_agg (H : Heap) (cs : List AV) : view2 H (.agg cs) = .agg (cs.map (view1 H)) := rfl
theorem view2_list (H : Heap) (k : Nat) (es : List (List AV)) : view2 H (.list k es) = .list k (es.map (·.map (view1 H))) := rfl
theorem view1_sc (H : Heap) (v : Value) : view1 H (.sc v) = .sc v := rfl
theorem view1_nil (H : Heap) : view1 H .nil = .nil := rfl
theorem view1_iref (H : Heap) (cs : List AV) : view1 H (.iref cs) = .iref cs := rfl
theorem view1_fn (H : Heap) (f : FuncId) (cs : List AV) : view1 H (.fn f cs) = .fn f (cs.map (viewR H)) := rfl
theorem view1_list (H : Heap) (k : Nat) (es : List (List AV)) : view1 H (.list k es) = .list k es := rfl
def viewS : Option (Option AObj) → Nat → Nat → AV
  | some (some o), lo, n => .list o.k ((o.es.drop lo).take n)
  | _, _, _ => .junk
theorem viewS_some (o : AObj) (lo n : Nat) : viewS (some (some o)) lo n = .list o.k ((o.es.drop lo).take n) := rfl
theorem view_sref (H : Heap) (id lo n : Nat) : view H (.sref id lo n) = viewS (H[id]?) lo n := by
  show view1 H (.sref id lo n) = _
  simp only [view1]
  generalize H[id]? = x
  cases x with
  | none => rfl
  | some o => cases o <;> rfl
theorem view1_sref (H : Heap) (id lo n : Nat) : view1 H (.sref id lo n) = viewS (H[id]?) lo n := view_sref H id lo n
theorem view2_sref (H : Heap) (id lo n : Nat) : view2 H (.sref id lo n) = viewS (H[id]?) lo n := view_sref H id lo n

theorem map_viewR_imm {H : Heap} {cs : List AV} (h : ∀ a, a ∈ cs → Imm a) : cs.map (viewR H) = cs := by
  have : ∀ a, a ∈ cs → viewR H a = id a := fun a ha => by have := h a ha; cases this <;> rfl
  simpa using List.map_congr_left this
theorem view1_imm {H : Heap} {a : AV} (h : Imm a) : view1 H a = a := by
  cases h with
  | fn h => rw [view1_fn, map_viewR_imm h]
  | _ => rfl
/-- A list without memory of the walk's own stays what it is. -/
theorem view_imm_list {H : Heap} {k : Nat} {es : List (List AV)} (h : Imm (.list k es)) : view H (.list k es) = .list k es := by
  have h := imm_list.1 h
  rw [view_list]
  congr 1
  have : ∀ e, e ∈ es → e.map (view1 H) = id e := fun e he => by
    have : ∀ a, a ∈ e → view1 H a = id a := fun a ha => by
      exact view1_imm (h e he a ha)
    simpa using List.map_congr_left this
  simpa using List.map_congr_left this

theorem map_view1_imm {H : Heap} {cs : List AV} (h : ∀ a, a ∈ cs → Imm a) : cs.map (view1 H) = cs := by
  have : ∀ a, a ∈ cs → view1 H a = id a := fun a ha => view1_imm (h a ha)
  simpa using List.map_congr_left this
theorem view2_imm {H : Heap} {a : AV} (h : Imm a) : view2 H a = a := by
  cases h with
  | agg h => rw [view2_agg, map_view1_imm h]
  | list h => exact view_imm_list (.list h)
  | fn h => exact view1_imm (.fn h)
  | _ => rfl
theorem view_imm {H : Heap} {a : AV} (h : Imm a) : view H a = a := by
  cases h with
  | tup h =>
    rename_i cs
    rw [view_tup]
    have : ∀ a, a ∈ cs → view2 H a = id a := fun a ha => view2_imm (h a ha)
    have := List.map_congr_left this
    rw [this]
    simp
  | agg h => exact view2_imm (.agg h)
  | list h => exact view2_imm (.list h)
  | fn h => exact view1_imm (.fn h)
  | _ => rfl
theorem view2_imm_list {H : Heap} {k : Nat} {es : List (List AV)} (h : Imm (.list k es)) : view2 H (.list k es) = .list k es := view2_imm h
theorem done_imm {H : Heap} {r : AV} {Q : AV → Prop} {b : Bx Q} (hi : Imm r) (hq : Q r) : Done H r Q b := ⟨r, by rw [view_imm hi]; exact .refl r, by rw [view_imm hi]; exact hi, hi, hq⟩

theorem weak_tup2 {a a' b b' : AV} (h1 : Weak a a') (h2 : Weak b b') : Weak (.tup [a, b]) (.tup [a', b']) := by
  refine .tup rfl fun i x y hx hy => ?_
  match i, hx, hy with
  | 0, hx, hy => simp at hx hy; subst hx; subst hy; exact h1
  | 1, hx, hy => simp at hx hy; subst hx; subst hy; exact h2
theorem imm_pair {a b : AV} (ha : Imm a) (hb : Imm b) : Imm (.tup [a, b]) := by
  refine .tup fun x hx => ?_
  rcases List.mem_cons.1 hx with rfl | hx
  · exact ha
  · rcases List.mem_cons.1 hx with rfl | hx
    · exact hb
    · cases hx
theorem done_nil2 {H : Heap} {v : Value} (k : Nat) {Q : AV → Prop} {b : Bx Q} (hq : Q (.tup [.list k [], .sc v])) : Done H (.tup [.nil, .sc v]) Q b :=
  done_weak (imm_pair .nil .sc) (imm_pair (imm_list.2 (by simp)) .sc) (weak_tup2 (.nil k) (.refl _)) hq

theorem weak_refl_iff {a : AV} : Weak a a ↔ True := ⟨fun _ => trivial, fun _ => .refl a⟩
theorem args_nil {H : Heap} : Args H [] [] ↔ True := ⟨fun _ => trivial, fun _ => .nil⟩
theorem args_same {H : Heap} {as : List AV} (h : ∀ a, a ∈ as → Imm a) : Args H as as := by
  induction as with
  | nil => exact .nil
  | cons a as ih =>
    have ha := h a (List.mem_cons_self ..)
    exact .cons (by rw [view_imm ha]; exact .refl a) (by rw [view_imm ha]; exact ha) (ih fun a h' => h a (List.mem_cons_of_mem _ h'))
theorem args_cons {H : Heap} {a a' : AV} {as as' : List AV} : Args H (a :: as) (a' :: as') ↔ (Weak (view H a) a' ∧ Imm (view H a)) ∧ Args H as as' :=
  ⟨fun h => by cases h; exact ⟨⟨by assumption, by assumption⟩, by assumption⟩, fun h => .cons h.1.1 h.1.2 h.2⟩

section
variable {E : Env} {f : FuncId} {args : List AV} {H : Heap} {C : AV → Heap → Prop} {b : Bx C} {P : Program}

/-- The callee hands back v, which bears no memory. -/
theorem callB_eq {args' : List AV} {v : AV} (h : PFun P E.row E.src f args' (· = v)) (hP : E.P = P) (hen : enterable P f = true) (ha : Args H args args') (hfl : Flat v) (hC : C v H) : CallB E f args H C b :=
  ⟨hP ▸ hen, acall_flat args' hP h ha ⟨v, rfl⟩ (fun _ e => e ▸ hfl) (fun _ e => e ▸ hC)⟩
/-- The same, from a contract of its own. -/
theorem callB_pure {args' : List AV} {v : AV} (h : PFun P none none f args' (· = v)) (hP : E.P = P) (hen : enterable P f = true) (ha : Args H args args') (hfl : Flat v) (hC : C v H) : CallB E f args H C b :=
  callB_eq (h.lift _ _) hP hen ha hfl hC
theorem callB_flat {args' : List AV} {Q : AV → Prop} (h : PFun P E.row E.src f args' Q) (hP : E.P = P) (hen : enterable P f = true) (ha : Args H args args') (hex : ∃ r, Q r) (hfl : ∀ r, Q r → Flat r) (hC : ∀ r, Q r → C r H) : CallB E f args H C b :=
  ⟨hP ▸ hen, acall_flat args' hP h ha hex hfl hC⟩
/-- No argument shows an object of the walk's own. -/
theorem callB_imm {args' : List AV} {v : AV} (h : PFun P E.row E.src f args' (· = v)) (hP : E.P = P) (hen : enterable P f = true) (ha : Args H args args') (hn : ∀ a, a ∈ args → srefs a = []) (hi : Imm v) (hC : C v H) : CallB E f args H C b :=
  ⟨hP ▸ hen, acall_imm args' hP h ha hn (fun _ e _ => e ▸ hC) ⟨v, rfl, hi⟩⟩
theorem callB_immQ {args' : List AV} {Q : AV → Prop} (h : PFun P E.row E.src f args' Q) (hP : E.P = P) (hen : enterable P f = true) (ha : Args H args args') (hn : ∀ a, a ∈ args → srefs a = []) (hex : ∃ r, Q r ∧ Imm r) (hC : ∀ r, Q r → Imm r → C r H) : CallB E f args H C b :=
  ⟨hP ▸ hen, acall_imm args' hP h ha hn hC hex⟩
/-- What the arguments show is frozen. -/
theorem callB_frz {args' : List AV} {v : AV} (h : PFun P E.row E.src f args' (· = v)) (hP : E.P = P) (hW : ∀ b, ¬ E.W b) (hen : enterable P f = true) (ha : Args H args args') (hi : Imm v) (hC : C v (killAll (args.flatMap srefs) H)) : CallB E f args H C b :=
  ⟨hP ▸ hen, acall_frz args' hP hW h ha (fun _ e _ => e ▸ hC) ⟨v, rfl, hi⟩⟩

theorem srefs1_imm {a : AV} (h : Imm a) : srefs1 a = [] := by
  cases h with
  | fn h => exact List.flatMap_eq_nil_iff.2 fun a ha => by have := h a ha; cases this <;> rfl
  | _ => rfl
theorem srefs2_imm {a : AV} (h : Imm a) : srefs2 a = [] := by
  cases h with
  | agg h => exact List.flatMap_eq_nil_iff.2 fun a ha => srefs1_imm (h a ha)
  | list h => exact List.flatMap_eq_nil_iff.2 fun e he => List.flatMap_eq_nil_iff.2 fun a ha => srefs1_imm (h e he a ha)
  | @fn f cs h => exact srefs1_imm (a := .fn f cs) (.fn h)
  | _ => rfl
theorem srefs_imm {a : AV} (h : Imm a) : srefs a = [] := by
  cases h with
  | tup h => exact List.flatMap_eq_nil_iff.2 fun a ha => srefs2_imm (h a ha)
  | @agg cs h => exact srefs2_imm (a := .agg cs) (.agg h)
  | @list k es h => exact srefs2_imm (a := .list k es) (.list h)
  | @fn f cs h => exact srefs1_imm (a := .fn f cs) (.fn h)
  | _ => rfl
/-- All arguments immutable. -/
theorem callB_is {v : AV} (h : PFun P E.row E.src f args (· = v)) (hP : E.P = P) (hen : enterable P f = true) (ha : ∀ a, a ∈ args → Imm a) (hi : Imm v) (hC : C v H) : CallB E f args H C b :=
  callB_imm h hP hen (args_same ha) (fun a h' => srefs_imm (ha a h')) hi hC
theorem callB_isQ {Q : AV → Prop} (h : PFun P E.row E.src f args Q) (hP : E.P = P) (hen : enterable P f = true) (ha : ∀ a, a ∈ args → Imm a) (hex : ∃ r, Q r ∧ Imm r) (hC : ∀ r, Q r → Imm r → C r H) : CallB E f args H C b :=
  callB_immQ h hP hen (args_same ha) (fun a h' => srefs_imm (ha a h')) hex hC

/-- A loop whose invariant speaks of what it needs alone. -/
def Round0 (n : Nat) (I : Nat → St → Prop) (Q : Exit → St → Prop) (_ : Bx (I, Q)) : Exit → St → Prop
  | .normal, s' => ∃ n', n' < n ∧ I n' s'
  | x, s' => Q x s'
theorem round0_normal {n : Nat} {I : Nat → St → Prop} {Q : Exit → St → Prop} {b : Bx (I, Q)} {s : St} : Round0 n I Q b .normal s = (∃ n', n' < n ∧ I n' s) := rfl
theorem round0_exit {n i : Nat} {I : Nat → St → Prop} {Q : Exit → St → Prop} {b : Bx (I, Q)} {s : St} : Round0 n I Q b (.exit i) s = Q (.exit i) s := rfl
theorem round0_ret {n : Nat} {I : Nat → St → Prop} {Q : Exit → St → Prop} {b : Bx (I, Q)} {s : St} : Round0 n I Q b .ret s = Q .ret s := rfl
theorem aloop0 {c : Code} {s0 : St} {Q : Exit → St → Prop} {b : Bx (c, Q)} (I : Nat → St → Prop) (n0 : Nat) (hc : codeOk E.N c = true) (h0 : I n0 s0)
    (round : ∀ n s, I n s → awp E c s (Round0 n I Q .mk)) : ALoop E c s0 Q b := by
  intro a w r
  refine wp_loop_ghost (fun n a w => ∃ s, I n s ∧ Rel E s a w) n0 ⟨_, h0, r⟩ fun n a w hI => ?_
  obtain ⟨s, hs, r⟩ := hI
  refine wp_mono (awp_sound c s _ hc (round n s hs) a w r) fun e a' w' h' => ?_
  obtain ⟨s', h1, h2⟩ := h'
  cases e with
  | normal =>
    obtain ⟨n', hlt, hI'⟩ := h1
    exact ⟨n', hlt, _, hI', h2⟩
  | _ => exact ⟨s', h1, h2⟩
/-- A nil slice is taken as an empty one of the walk's own, ahead of a loop. -/
theorem aloop_own {c : Code} {s : St} {Q : Exit → St → Prop} {b : Bx (c, Q)} (j : Nat) (ty : TypeId) (k : Nat) (h : s.t j = .nil) (hl : ALoop E c ⟨upd s.t j (.sref s.H.length 0 0), s.H ++ [some ⟨ty, k, []⟩]⟩ Q .mk) : ALoop E c s Q b :=
  AWp.weaken (weaker_own j ty k h) hl

theorem adrawB {ops : Array Oper} {s : St} {K : St → Prop} {b : Bx (ops, K)} (D : Nat → Bool) (S : List Nat) (hP : E.P = P) (hf : P.follows .mixedOrders = true) (hr : regionB ops S = true) (h : ADOps D E ops S ops.toList 0 s K) : ADrawB E ops s K b :=
  ⟨D, S, [], hP ▸ hf, xany_all (regionX_nil hr) (axops_nilT _ _ _ _ h)⟩
theorem adrawQ {ops : Array Oper} {s : St} {K : St → Prop} {b : Bx (ops, K)} (D : Nat → Bool) (S T : List Nat) (hP : E.P = P) (hf : P.follows .mixedOrders = true) (hr : regionX ops S T = true) (h : AXOps D E ops S T ops.toList 0 s K) : ADrawB E ops s K b :=
  ⟨D, S, T, hP ▸ hf, xany_all hr h⟩
/-- What a region that draws leads to is cut off: 'Inv' is all that is known behind it. -/
theorem adraw_cut {ops : Array Oper} {s : St} {K : St → Prop} {b : Bx (ops, K)} (Inv : St → Prop) (h : ADrawB E ops s Inv .mk) (hk : ∀ s, Inv s → K s) : ADrawB E ops s K b := by
  obtain ⟨D, S, T, h1, h2⟩ := h
  exact ⟨D, S, T, h1, XAny.mono hk _ _ _ h2⟩
/-- The first k0 operations in their order, the rest in every order (then xany_one, xany_two, xany_nil). -/
theorem adrawK {ops : Array Oper} {s : St} {K : St → Prop} {b : Bx (ops, K)} (D : Nat → Bool) (S T : List Nat) (k0 : Nat) (hP : E.P = P) (hf : P.follows .mixedOrders = true) (hr : regionK ops S T k0 = true) (hk : k0 ≤ ops.size)
    (h : AXOps D E ops S T (ops.toList.take k0) 0 s (fun s' => XAny D E ops S T K (ops.size - k0) (upto ops.size k0) s')) : ADrawB E ops s K b :=
  ⟨D, S, T, hP ▸ hf, xany_take k0 hr hk h⟩
end

/-! ### Regions with calls that have nothing to do with the walk's objects -/
section
variable {E : Env}
def CallQB (E : Env) (f : FuncId) (args : List AV) (k : AV → Prop) (_ : Bx k) : Prop := CallQ E f args k
def qcallV (E : Env) (f : AV) (args : List AV) (k : AV → Prop) (b : Bx k) : Prop := match f with
  | .fn g caps => CallQB E g (args ++ caps) k b
  | _ => False
theorem qcallV_fn {g : FuncId} {caps args : List AV} {k : AV → Prop} {b : Bx k} : qcallV E (.fn g caps) args k b = CallQB E g (args ++ caps) k .mk := rfl
theorem qeff_call {f : Operand} {args : Array Operand} {ts : Array TypeId} {ev : Operand → AV} {k : AV → Prop} : QEff E (.call ⟨.value f, args, ts⟩) ev k = qcallV E (ev f) (args.toList.map ev) k .mk := by
  simp only [QEff]
  cases ev f <;> rfl
theorem axops_toList {D : Nat → Bool} {S T : List Nat} {l : List Oper} {k : Nat} {s : St} {K : St → Prop} : AXOps D E l.toArray S T l.toArray.toList k s K = AXOps D E l.toArray S T l k s K := rfl
theorem axops_nil {D : Nat → Bool} {S T : List Nat} {ops : Array Oper} {k : Nat} {s : St} {K : St → Prop} : AXOps D E ops S T [] k s K = K s := rfl
theorem axops_cons {D : Nat → Bool} {S T : List Nat} {ops : Array Oper} {o : Oper} {l : List Oper} {k : Nat} {s : St} {K : St → Prop} : AXOps D E ops S T (o :: l) k s K = OI (T.contains k) (QStep E ops o s (fun s' => AXOps D E ops S T l (k + 1) s' K)) (DStep (!S.contains k) D E ops o s (fun s' => AXOps D E ops S T l (k + 1) s' K)) .mk .mk := by
  show XStep D E ops S T k o s _ = _
  unfold XStep OI
  cases T.contains k <;> rfl
theorem qstep_eq {ops : Array Oper} {dst : Option Tmp} {op : Op} {ty : TypeId} {pos : String} {after : Array Edge} {gd : Option (Nat × Bool)} {s : St} {K : St → Prop} :
    QStep E ops ⟨dst, op, ty, pos, after, gd⟩ s K = OB (aguard ops ⟨dst, op, ty, pos, after, gd⟩ s.t) (fun b => OI b (QEff E op s.eval fun x => K ⟨putT s.t dst x, s.H⟩) (K ⟨putT s.t dst (.sc undef), s.H⟩) .mk .mk) .mk := by
  unfold QStep QOut OB
  rw [eval_heap s.t [] s.H]
  cases h : aguard ops ⟨dst, op, ty, pos, after, gd⟩ s.t with
  | none => rfl
  | some b => cases b <;> rfl
theorem qstep_mk {ops : Array Oper} {dst : Option Tmp} {op : Op} {ty : TypeId} {pos : String} {after : Array Edge} {gd : Option (Nat × Bool)} {t : Nat → AV} {H : Heap} {K : St → Prop} :
    QStep E ops ⟨dst, op, ty, pos, after, gd⟩ ⟨t, H⟩ K = OB (aguard ops ⟨dst, op, ty, pos, after, gd⟩ t) (fun b => OI b (QEff E op (St.eval ⟨t, H⟩) fun x => K ⟨putT t dst x, H⟩) (K ⟨putT t dst (.sc undef), H⟩) .mk .mk) .mk := qstep_eq
theorem callQ_isQ {f : FuncId} {args : List AV} {k : AV → Prop} {b : Bx k} {P : Program} {Q : AV → Prop} (h : PFun P E.row E.src f args Q) (hP : E.P = P) (hen : enterable P f = true) (ha : ∀ a, a ∈ args → Imm a) (hex : ∃ r, Q r ∧ Imm r) (hC : ∀ r, Q r → Imm r → k r) : CallQB E f args k b :=
  ⟨fun r => Q r ∧ Imm r, hex, fun H C hc => callB_isQ (b := .mk) h hP hen ha hex fun r h1 h2 => hc r ⟨h1, h2⟩, fun r hr => hC r hr.1 hr.2⟩
theorem callQ_is {f : FuncId} {args : List AV} {k : AV → Prop} {b : Bx k} {P : Program} {v : AV} (h : PFun P E.row E.src f args (· = v)) (hP : E.P = P) (hen : enterable P f = true) (ha : ∀ a, a ∈ args → Imm a) (hi : Imm v) (hC : k v) : CallQB E f args k b :=
  callQ_isQ h hP hen ha ⟨v, rfl, hi⟩ fun r h1 _ => h1 ▸ hC
end

theorem oi_split {t : Bool} {p q : Prop} {bp : Bx p} {bq : Bx q} (h1 : t = true → p) (h2 : t = false → q) : OI t p q bp bq := by
  cases t
  · exact h2 rfl
  · exact h1 rfl

theorem hget_lt {H l : Heap} {j : Nat} (h : j < H.length) : (H ++ l)[j]? = H[j]? := List.getElem?_append_left h
theorem hget_app {X l : Heap} {n i : Nat} (h : X.length = n) : (X ++ l)[n + i]? = l[i]? := by
  rw [List.getElem?_append_right (by omega)]
  congr 1
  omega
theorem hget_app0 {X l : Heap} {n : Nat} (h : X.length = n) : (X ++ l)[n]? = l[0]? := hget_app (i := 0) h
theorem hset_app {X l : Heap} {n i : Nat} {v : Option AObj} (h : X.length = n) : (X ++ l).set (n + i) v = X ++ l.set i v := by
  rw [List.set_append_right _ _ (by omega)]
  congr 2
  omega
theorem hset_app0 {X l : Heap} {n : Nat} {v : Option AObj} (h : X.length = n) : (X ++ l).set n v = X ++ l.set 0 v := hset_app (i := 0) h
theorem lt_add_of {j n k : Nat} (h : j < n) : (j < n + k) = True := by simp; omega
theorem hset_new {H : Heap} {x y : Option AObj} : (H ++ [x]).set H.length y = H ++ [y] := by
  rw [List.set_append_right _ _ (Nat.le_refl _)]
  simp
theorem hset_lt {H l : Heap} {y : Option AObj} {j : Nat} (h : j < H.length) : (H ++ l).set j y = H.set j y ++ l := List.set_append_left _ _ h
theorem hget_new1 {H : Heap} {x y : Option AObj} : (H ++ [x] ++ [y])[H.length + 1]? = some y := by
  have := push_new (H := H ++ [x]) (x := y)
  rwa [List.length_append] at this
theorem hget_new2 {H : Heap} {x y z : Option AObj} : (H ++ [x] ++ [y] ++ [z])[H.length + 2]? = some z := by
  have := push_new (H := H ++ [x] ++ [y]) (x := z)
  rwa [List.length_append, List.length_append] at this
theorem hget_same {H : Heap} {x : Option AObj} {j : Nat} (h : j < H.length) : (H.set j x)[j]? = some x := by simp [h]
theorem hget_new {H : Heap} {x : Option AObj} : (H ++ [x])[H.length]? = some x := push_new
theorem hget_set_push {H : Heap} {i : Nat} {x z : Option AObj} : (H.set i z ++ [x])[H.length]? = some x := by
  have := push_new (H := H.set i z) (x := x)
  rwa [List.length_set] at this
theorem hget_set {H : Heap} {i j : Nat} {x : Option AObj} (h : ¬ i = j) : (H.set i x)[j]? = H[j]? := List.getElem?_set_ne h
theorem take_map_len {α : Type} (f : α → List AV) (l : List α) : (l.map f).take l.length = l.map f := by rw [← List.length_map (f := f), List.take_length]
theorem take_len (es : List (List AV)) : es.take es.length = es := List.take_length

section
variable {E : Env} {ev : Operand → AV} {H : Heap} {k : AV → Prop} {b : Bx k}
theorem ard_move {x : Operand} : ARd E (.move x) ev H k b = AEff E (.move x) ev H fun v _ => k v := ard_aeff rfl
theorem ard_assign {x : Operand} : ARd E (.assign x) ev H k b = AEff E (.assign x) ev H fun v _ => k v := ard_aeff rfl
theorem ard_pick {x y z : Operand} : ARd E (.pick x y z) ev H k b = AEff E (.pick x y z) ev H fun v _ => k v := ard_aeff rfl
theorem ard_load {t : TypeId} {x : Operand} : ARd E (.load t x) ev H k b = AEff E (.load t x) ev H fun v _ => k v := ard_aeff rfl
theorem ard_nilCheck {x : Operand} : ARd E (.nilCheck x) ev H k b = AEff E (.nilCheck x) ev H fun v _ => k v := ard_aeff rfl
theorem ard_binOp {o : BinOp} {t u : TypeId} {x y : Operand} : ARd E (.binOp o t x y u) ev H k b = AEff E (.binOp o t x y u) ev H fun v _ => k v := ard_aeff rfl
theorem ard_unOp {o : UnOp} {t : TypeId} {x : Operand} : ARd E (.unOp o t x) ev H k b = AEff E (.unOp o t x) ev H fun v _ => k v := ard_aeff rfl
theorem ard_convert {t u : TypeId} {x : Operand} : ARd E (.convert t u x) ev H k b = AEff E (.convert t u x) ev H fun v _ => k v := ard_aeff rfl
theorem ard_fieldAddr {t : TypeId} {i : Nat} {x : Operand} : ARd E (.fieldAddr t x i) ev H k b = AEff E (.fieldAddr t x i) ev H fun v _ => k v := ard_aeff rfl
theorem ard_field {t : TypeId} {i : Nat} {x : Operand} : ARd E (.field t x i) ev H k b = AEff E (.field t x i) ev H fun v _ => k v := ard_aeff rfl
theorem ard_indexAddr {t : TypeId} {x y : Operand} : ARd E (.indexAddr t x y) ev H k b = AEff E (.indexAddr t x y) ev H fun v _ => k v := ard_aeff rfl
theorem ard_index {t : TypeId} {x y : Operand} : ARd E (.index t x y) ev H k b = AEff E (.index t x y) ev H fun v _ => k v := ard_aeff rfl
theorem ard_extract {x : Operand} {i : Nat} : ARd E (.extract x i) ev H k b = AEff E (.extract x i) ev H fun v _ => k v := ard_aeff rfl
theorem ard_makeFunc {f : FuncId} {cs : Array Operand} : ARd E (.makeFunc (.func f) #[] cs) ev H k b = AEff E (.makeFunc (.func f) #[] cs) ev H fun v _ => k v := ard_aeff rfl
theorem ard_slice {t : TypeId} {x : Operand} {l h : Option Operand} : ARd E (.slice t x l h none) ev H k b = AEff E (.slice t x l h none) ev H fun v _ => k v := ard_aeff rfl
theorem ard_build {t : TypeId} {ps : Array (Nat × Operand)} : ARd E (.build t ps) ev H k b = AEff E (.build t ps) ev H fun v _ => k v := ard_aeff rfl
theorem ard_buildSlice {t : TypeId} {n : Nat} {ps : Array (Nat × Operand)} : ARd E (.buildSlice t (n + 1) ps) ev H k b = AEff E (.buildSlice t (n + 1) ps) ev H fun v _ => k v := ard_aeff rfl
theorem ard_len {as : Array Operand} {ts : Array TypeId} : ARd E (.call ⟨.builtin .len, as, ts⟩) ev H k b = AEff E (.call ⟨.builtin .len, as, ts⟩) ev H fun v _ => k v := ard_aeff rfl
theorem ard_max {as : Array Operand} {ts : Array TypeId} : ARd E (.call ⟨.builtin .max, as, ts⟩) ev H k b = AEff E (.call ⟨.builtin .max, as, ts⟩) ev H fun v _ => k v := ard_aeff rfl
theorem ard_min {as : Array Operand} {ts : Array TypeId} : ARd E (.call ⟨.builtin .min, as, ts⟩) ev H k b = AEff E (.call ⟨.builtin .min, as, ts⟩) ev H fun v _ => k v := ard_aeff rfl
end
theorem agree_refl_iff (D : Nat → Bool) (H : Heap) : Agree D H H ↔ True := ⟨fun _ => trivial, fun _ => agree_refl D H⟩
attribute [go_sem] agree_refl_iff qcallV_fn
attribute [go_sem ↓ high] qstep_mk
attribute [go_sem ↓] axops_toList axops_nil axops_cons qstep_eq qeff_call
attribute [go_sem ↓] ard_move ard_assign ard_pick ard_load ard_nilCheck ard_binOp ard_unOp ard_convert ard_fieldAddr ard_field ard_indexAddr ard_index ard_extract ard_makeFunc ard_slice ard_build ard_buildSlice ard_len ard_max ard_min round0_normal round0_exit round0_ret aret_ret aret_normal
attribute [go_sem] List.getElem?_cons_zero List.getElem?_cons_succ List.getElem?_nil take_map_len take_len hget_app hget_app0 hset_app hset_app0 List.set_cons_zero List.set_cons_succ hget_lt lt_add_of hset_new hset_lt hget_new1 hget_new2 hget_same hget_new hget_set_push hget_set ares_0 ares_1 ares_2 tupL_nil tupL_cons consO_some ares1_tmp ares1_cell done_sc
  view_sc view_nil view_iref view_ref view_fn view_tup view_agg view_imm_list view2_sc view2_nil view2_iref view2_fn view2_agg view2_imm_list view1_sc view1_nil view1_iref view1_fn view1_list viewS_some view_sref view1_sref view2_sref
  weak_refl_iff args_nil args_cons imm_sc imm_nil imm_agg imm_tup imm_list imm_iref imm_fn imm_imap view_imap view1_imap view2_imap flat_sc flat_nil flat_agg flat_tup noRef_junk noRef_sc noRef_nil noRef_agg noRef_tup noRef_list noRef_iref noRef_fn noRef_ref noRef_sref noRef_mref noRef_miter
  srefs srefs1 srefs2 refsR viewR_ref viewR_sc viewR_iref viewR_list

end Go.PA
