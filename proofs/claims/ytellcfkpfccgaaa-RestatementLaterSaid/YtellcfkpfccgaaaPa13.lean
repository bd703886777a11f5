/- PA, part 13: regions, whole. -/
import Derived.Test.YtellcfkpfccgaaaPa12
namespace Go.PA
open Go.RowKit

def ancMask (acc : List Nat) (o : Oper) : Nat := o.after.toList.foldl (fun s e => if Region.binds .any e then s ||| 2 ^ e.on ||| acc.getD e.on 0 else s) 0
def ancs : List Oper → List Nat → List Nat
  | [], acc => acc
  | o :: l, acc => ancs l (acc ++ [ancMask acc o])

def ADOps (D : Nat → Bool) (E : Env) (ops : Array Oper) (S : List Nat) : List Oper → Nat → St → (St → Prop) → Prop
  | [], _, s, K => K s
  | o :: l, k, s, K => DStep (!S.contains k) D E ops o s fun s' => ADOps D E ops S l (k + 1) s' K

def pairOk (A : List Nat) (S : List Nat) (k j : Nat) (ok oj : Oper) (ops : Array Oper) : Bool :=
  (A.getD j 0).testBit k || (ok.apart ops oj && (noHeap ok.op || noHeap oj.op || ((isRead ok.op && isRead oj.op) || ((isRead ok.op || isRead oj.op) && (!S.contains k && !S.contains j)))))

def regionB (ops : Array Oper) (S : List Nat) : Bool :=
  let A := ancs ops.toList []
  (List.range ops.size).all fun k => match ops[k]? with
    | none => true
    | some ok => (ok.after.toList.all fun e => !Region.binds .any e || decide (e.on < k)) && (List.range ops.size).all fun j => match ops[j]? with
      | none => true
      | some oj => decide (j ≤ k) || pairOk A S k j ok oj ops

theorem fold_bit (acc : List Nat) (k : Nat) : ∀ (l : List Edge) (s : Nat), (l.foldl (fun s e => if Region.binds .any e then s ||| 2 ^ e.on ||| acc.getD e.on 0 else s) s).testBit k = true →
    s.testBit k = true ∨ ∃ e ∈ l, Region.binds .any e = true ∧ (e.on = k ∨ (acc.getD e.on 0).testBit k = true)
  | [], s, h => .inl h
  | e :: l, s, h => by
    rw [List.foldl_cons] at h
    rcases fold_bit acc k l _ h with h | ⟨e', he, h1, h2⟩
    · split at h
      · rename_i hb
        simp only [Nat.testBit_or, Nat.testBit_two_pow, Bool.or_eq_true, decide_eq_true_eq] at h
        rcases h with (h | h) | h
        · exact .inl h
        · exact .inr ⟨e, by simp, hb, .inl h⟩
        · exact .inr ⟨e, by simp, hb, .inr h⟩
      · exact .inl h
    · exact .inr ⟨e', by simp [he], h1, h2⟩

theorem ancs_old : ∀ (l : List Oper) (acc : List Nat) (j : Nat), j < acc.length → (ancs l acc)[j]? = acc[j]?
  | [], acc, j, _ => rfl
  | o :: l, acc, j, h => by
    rw [ancs, ancs_old l _ j (by simp; omega), List.getElem?_append_left h]

theorem ancs_get : ∀ (l : List Oper) (acc : List Nat) (j : Nat) (o : Oper), l[j]? = some o → ∃ acc', (ancs l acc)[acc.length + j]? = some (ancMask acc' o) ∧ ∀ i m, acc'[i]? = some m → (ancs l acc)[i]? = some m ∧ i < acc.length + j
  | o' :: l, acc, 0, o, h => by
    simp only [List.getElem?_cons_zero, Option.some.injEq] at h
    subst h
    refine ⟨acc, ?_, fun i m hi => ?_⟩
    · rw [ancs, Nat.add_zero, ancs_old l _ _ (by simp)]; simp
    · have hlt := (List.getElem?_eq_some_iff.1 hi).1
      refine ⟨?_, by omega⟩
      rw [ancs, ancs_old l _ _ (by simp; omega), List.getElem?_append_left hlt]
      exact hi
  | o' :: l, acc, j + 1, o, h => by
    obtain ⟨acc', h1, h2⟩ := ancs_get l (acc ++ [ancMask acc o']) j o (by simpa using h)
    refine ⟨acc', ?_, fun i m hi => ?_⟩
    · rw [ancs, ← h1]; congr 1; simp; omega
    · obtain ⟨h3, h4⟩ := h2 i m hi
      refine ⟨by rw [ancs]; exact h3, by simp at h4; omega⟩
  | [], _, _, _, h => by simp at h

def DC (ops : Array Oper) (listed : Array Bool) : Prop :=
  ∀ (j : Nat) (o : Oper), ops[j]? = some o → listed.getD j false = true → ∀ e ∈ o.after, Region.binds .any e = true → listed.getD e.on false = true

theorem anc_listed {ops : Array Oper} {listed : Array Bool} (hdc : DC ops listed) {k : Nat} : ∀ (j : Nat) (o : Oper), ops[j]? = some o → (∀ e ∈ o.after, Region.binds .any e = true → listed.getD e.on false = true) →
    ((ancs ops.toList []).getD j 0).testBit k = true → listed.getD k false = true := by
  intro j
  induction j using Nat.strongRecOn with
  | _ j ih =>
    intro o ho hall hb
    obtain ⟨acc', h1, h2⟩ := ancs_get ops.toList [] j o (by simpa using ho)
    simp only [List.length_nil, Nat.zero_add] at h1 h2
    rw [List.getD_eq_getElem?_getD, h1, Option.getD_some] at hb
    rcases fold_bit acc' k _ 0 hb with h | ⟨e, he, hbind, h⟩
    · simp at h
    · have hl := hall e (by simpa using he) hbind
      rcases h with h | h
      · rw [← h]; exact hl
      · rw [List.getD_eq_getElem?_getD] at h
        cases hm : acc'[e.on]? with
        | none => rw [hm] at h; simp at h
        | some m =>
          rw [hm, Option.getD_some] at h
          obtain ⟨h3, h4⟩ := h2 _ _ hm
          have hlt : e.on < ops.size := by have := (Array.getElem?_eq_some_iff.1 ho).1; omega
          exact ih e.on h4 _ (Array.getElem?_eq_getElem hlt) (hdc _ _ (Array.getElem?_eq_getElem hlt) hl) (by rw [List.getD_eq_getElem?_getD, h3, Option.getD_some]; exact h)

section
variable {E : Env} {ops : Array Oper} {D : Nat → Bool} {S : List Nat}

def AAny (D : Nat → Bool) (E : Env) (ops : Array Oper) (S : List Nat) (K : St → Prop) : Nat → Array Bool → St → Prop
  | 0, listed, s => Region.ready .any ops listed = [] ∧ K s
  | fuel + 1, listed, s => (Region.ready .any ops listed = [] → K s) ∧ ∀ i ∈ Region.ready .any ops listed, ∀ o, ops[i]? = some o → DStep (!S.contains i) D E ops o s (AAny D E ops S K fuel (listed.setIfInBounds i true))

theorem any_sound (hb : ∀ (i : Nat) (o : Oper), ops[i]? = some o → dstOk E.N o = true) {K : St → Prop} {Q : Exit → Act → World → Prop} (hQ : ∀ s' a' w', K s' → Rel E s' a' w' → Q .normal a' w') :
    ∀ (fuel : Nat) (listed : Array Bool) (s : St) (a : Act) (w : World), AAny D E ops S K fuel listed s → Rel E s a w → wpAny E.P .any ops Q fuel listed a w
  | 0, listed, s, a, w, h, r => ⟨h.1, hQ _ _ _ h.2 r⟩
  | fuel + 1, listed, s, a, w, h, r => by
    refine ⟨fun h0 => hQ _ _ _ (h.1 h0) r, fun i hi => ?_⟩
    obtain ⟨_, o, ho, _⟩ := mem_ready.1 hi
    exact step_sound ho (hb i o ho) (dstep_step (h.2 i hi o ho)) r fun s' a' w' h' r' => any_sound hb hQ fuel _ s' a' w' h' r'

theorem dc_set {listed : Array Bool} (hdc : DC ops listed) {i : Nat} (hi : i ∈ Region.ready .any ops listed) : DC ops (listed.setIfInBounds i true) := by
  intro j o ho hj e he hb
  by_cases hji : i = j
  · subst hji
    obtain ⟨_, o', ho', hall⟩ := mem_ready.1 hi
    rw [ho] at ho'
    simp only [Option.some.injEq] at ho'
    subst ho'
    exact getD_set_true (hall e he hb)
  · rw [getD_set_ne false hji] at hj
    exact getD_set_true (hdc j o ho hj e he hb)

theorem any_first {K : St → Prop} {i : Nat} {oi : Oper} (hi : ops[i]? = some oi) : ∀ (fuel : Nat) (listed : Array Bool) (s : St), DC ops listed →
    (∀ j oj, ops[j]? = some oj → j ≠ i → listed.getD j true = false → ((ancs ops.toList []).getD j 0).testBit i = false →
      oi.apart ops oj = true ∧ ((noHeap oi.op = true ∨ noHeap oj.op = true) ∨ ((isRead oi.op = true ∧ isRead oj.op = true) ∨ (isRead oi.op = true ∨ isRead oj.op = true) ∧ (!S.contains i) = true ∧ (!S.contains j) = true))) →
    i ∈ Region.ready .any ops listed → DStep (!S.contains i) D E ops oi s (AAny D E ops S K fuel (listed.setIfInBounds i true)) → AAny D E ops S K (fuel + 1) listed s := by
  intro fuel
  induction fuel with
  | zero =>
    intro listed s hdc hfree hr h
    refine ⟨fun h0 => (by rw [h0] at hr; cases hr), fun j hj o ho => ?_⟩
    by_cases hji : j = i
    · subst hji
      rw [hi] at ho
      simp only [Option.some.injEq] at ho
      subst ho
      exact h
    · have hrj := ready_mono hj hji
      refine DStep.mono (K := fun _ => False) ?_ (fun _ h => h.elim)
      -- the head's outcome says that nothing is ready any more
      have hno : ¬ Region.ready .any ops (listed.setIfInBounds i true) = [] := fun h0 => (by rw [h0] at hrj; cases hrj)
      have hF : DStep (!S.contains i) D E ops oi s fun _ => False := h.mono fun s' h' => hno h'.1
      obtain ⟨hjun, oj, hoj, hall⟩ := mem_ready.1 hj
      rw [ho] at hoj
      simp only [Option.some.injEq] at hoj
      subst hoj
      obtain ⟨hu, _, _, _⟩ := mem_ready.1 hr
      have hanc : ((ancs ops.toList []).getD j 0).testBit i = false := by
        cases hc : ((ancs ops.toList []).getD j 0).testBit i with
        | false => rfl
        | true =>
          have := anc_listed hdc j o ho hall hc
          rcases Nat.lt_or_ge i listed.size with h' | h'
          · simp [h'] at hu this; rw [hu] at this; cases this
          · simp [Array.getElem?_eq_none h'] at this
      obtain ⟨x, H', h0⟩ := dout_has (dstep_out ▸ hF)
      exact h0.elim
  | succ fuel ih =>
    intro listed s hdc hfree hr h
    refine ⟨fun h0 => (by rw [h0] at hr; cases hr), fun j hj o ho => ?_⟩
    by_cases hji : j = i
    · subst hji
      rw [hi] at ho
      simp only [Option.some.injEq] at ho
      subst ho
      exact h
    · have hrj := ready_mono hj hji
      obtain ⟨hjun, oj, hoj, hall⟩ := mem_ready.1 hj
      rw [ho] at hoj
      simp only [Option.some.injEq] at hoj
      subst hoj
      obtain ⟨hu, _, _, _⟩ := mem_ready.1 hr
      have hanc : ((ancs ops.toList []).getD j 0).testBit i = false := by
        cases hc : ((ancs ops.toList []).getD j 0).testBit i with
        | false => rfl
        | true =>
          have := anc_listed hdc j o ho hall hc
          rcases Nat.lt_or_ge i listed.size with h' | h'
          · simp [h'] at hu this; rw [hu] at this; cases this
          · simp [Array.getElem?_eq_none h'] at this
      obtain ⟨f1, f2⟩ := hfree j o ho hji hjun hanc
      have h1 : DStep (!S.contains i) D E ops oi s fun s1 => DStep (!S.contains j) D E ops o s1 (AAny D E ops S K fuel ((listed.setIfInBounds i true).setIfInBounds j true)) := h.mono fun s' h' => h'.2 j hrj o ho
      refine DStep.mono (f2.elim (fun f => dstep_swap0 f1 f h1) fun f => dstep_swap f1 f h1) fun s2 h2 => ?_
      refine ih (listed.setIfInBounds j true) s2 (dc_set hdc hj) (fun k ok hk hki hun hno => hfree k ok hk hki ?_ hno) (ready_mono hr (Ne.symm hji)) ?_
      · by_cases hjk : j = k
        · subst hjk; exact hjun
        · rw [getD_set_ne true hjk] at hun; exact hun
      · rw [Array.setIfInBounds_comm _ _ hji]
        exact h2

theorem any_lex {K : St → Prop} (hB : regionB ops S = true) : ∀ (l : List Oper) (k : Nat) (listed : Array Bool) (s : St), (∀ j : Nat, l[j]? = ops[k + j]?) → listed.size = ops.size → (∀ j, j < ops.size → listed.getD j false = decide (j < k)) → DC ops listed →
    ADOps D E ops S l k s K → AAny D E ops S K l.length listed s
  | [], k, listed, s, hl, hsz, hpre, _, h => by
    refine ⟨?_, h⟩
    have hk : ops.size ≤ k := by
      have h0 := hl 0
      simp only [List.getElem?_nil, Nat.add_zero] at h0
      exact Array.getElem?_eq_none_iff.1 h0.symm
    unfold Region.ready
    rw [List.filter_eq_nil_iff]
    intro i hi
    have hlt := List.mem_range.1 hi
    have := hpre i hlt
    rw [decide_eq_true (by omega)] at this
    have hg : listed.getD i true = true := by
      simp only [Array.getD_eq_getD_getElem?, Array.getElem?_eq_getElem (show i < listed.size by omega), Option.getD_some] at this ⊢
      exact this
    simp [hg]
  | o :: l, k, listed, s, hl, hsz, hpre, hdc, h => by
    have h0 : ops[k]? = some o := by simpa using (hl 0).symm
    have hk : k < ops.size := (Array.getElem?_eq_some_iff.1 h0).1
    unfold regionB at hB
    have hBk := List.all_eq_true.1 hB k (List.mem_range.2 hk)
    simp only [h0, Bool.and_eq_true, List.all_eq_true] at hBk
    obtain ⟨hedge, hpair⟩ := hBk
    have hgetD : ∀ j, j < ops.size → listed.getD j true = decide (j < k) := fun j hj => by
      have := hpre j hj
      simp only [Array.getD_eq_getD_getElem?, Array.getElem?_eq_getElem (show j < listed.size by omega), Option.getD_some] at this ⊢
      exact this
    have hready : k ∈ Region.ready .any ops listed := by
      rw [mem_ready]
      refine ⟨by rw [hgetD k hk]; simp, o, h0, fun e he hb => ?_⟩
      have := hedge e (by simpa using he)
      simp only [hb, Bool.not_true, Bool.false_or, decide_eq_true_eq] at this
      rw [hpre _ (by omega)]
      simpa using this
    refine any_first h0 l.length listed s hdc (fun j oj hj hjk hun hanc => ?_) hready ?_
    · have hjlt : j < ops.size := (Array.getElem?_eq_some_iff.1 hj).1
      rw [hgetD j hjlt] at hun
      simp only [decide_eq_false_iff_not] at hun
      have := hpair j (List.mem_range.2 hjlt)
      simp only [hj, Bool.or_eq_true, decide_eq_true_eq, pairOk, hanc, Bool.false_eq_true, false_or, Bool.and_eq_true] at this
      have := this.resolve_left (by omega)
      refine ⟨this.1, ?_⟩
      rcases this.2 with h' | h'
      · exact .inl h'
      exact .inr h'
    · have h' : DStep (!S.contains k) D E ops o s fun s' => ADOps D E ops S l (k + 1) s' K := h
      refine h'.mono fun s' h1 => ?_
      refine any_lex hB l (k + 1) _ s' (fun j => by have := hl (j + 1); simpa [Nat.add_assoc, Nat.add_comm 1 j] using this) (by simp [hsz]) (fun j hj => ?_) (dc_set hdc hready) h1
      by_cases hkj : k = j
      · subst hkj
        simp [hsz, hk]
      · rw [getD_set_ne false hkj, hpre j hj]
        simp only [decide_eq_decide]
        omega

theorem rel_drawn {s : St} {a : Act} {w : World} (r : Rel E s a w) : Rel E s a { w with drawn := w.drawn + 1 } := by
  obtain ⟨ρ, ok, g, hx, hd, hs, hr⟩ := r
  obtain ⟨g', x'⟩ := g.step (w' := { w with drawn := w.drawn + 1 }) (ok' := ok) (fun _ => False) rfl rfl rfl (Nat.le_refl _) (fun _ _ _ => rfl) (fun _ h => h.elim) (fun _ h => h) (fun _ h => .inl h)
  exact ⟨ρ, ok, g', hx.trans x', hd, hs, fun i => (hr i).ext x'⟩

/-- The abstract 'wp' of code. -/
def AWp (E : Env) (c : Code) (s : St) (Q : Exit → St → Prop) : Prop :=
  ∀ (a : Act) (w : World), Rel E s a w → c.wp E.P (fun x a' w' => ∃ s', Q x s' ∧ Rel E s' a' w') a w

def dstsOk (N : Nat) (ops : Array Oper) : Bool := ops.toList.all (dstOk N)

theorem awp_region {id : Nat} {s : St} {Q : Exit → St → Prop} (hb : dstsOk E.N ops = true) (h : AOps E ops ops.toList s (Q .normal)) : AWp E (.region id ops false) s Q := by
  intro a w r
  refine wp_region ?_
  have := ops_sound (E := E) (ops := ops) ops.toList 0 (by simp) (fun o ho => List.all_eq_true.1 hb o ho) (K := Q .normal) (Q := fun x a' w' => ∃ s', Q x s' ∧ Rel E s' a' w') (fun s' a' w' h1 h2 => ⟨s', h1, h2⟩) h r
  rwa [List.range_eq_range'] 

theorem awp_draw {id : Nat} {s : St} {Q : Exit → St → Prop} (D : Nat → Bool) (S : List Nat) (hm : E.P.follows .mixedOrders = true) (hb : dstsOk E.N ops = true) (hB : regionB ops S = true) (h : ADOps D E ops S ops.toList 0 s (Q .normal)) : AWp E (.region id ops true) s Q := by
  intro a w r
  refine wp_region_any hm ?_
  refine any_sound (D := D) (S := S) (K := Q .normal) (fun i o ho => List.all_eq_true.1 hb o (by simpa using Array.mem_of_getElem? ho)) (fun s' a' w' h1 h2 => ⟨s', h1, h2⟩) ops.size _ s a _ ?_ (rel_drawn r)
  have := any_lex (K := Q .normal) hB ops.toList 0 (Array.replicate ops.size false) s (by simp) (by simp) (fun j hj => by simp [hj]) (fun j o ho hj => by
    exfalso
    simp only [Array.getD_eq_getD_getElem?] at hj
    rcases Nat.lt_or_ge j ops.size with hlt | hge
    · simp [hlt] at hj
    · simp [Array.getElem?_eq_none (show (Array.replicate ops.size false).size ≤ j by simpa using hge)] at hj) h
  simpa using this

end
/-! ### Calls that have nothing to do with the walk's objects: they change places with an allocation, too -/

def CallQ (E : Env) (f : FuncId) (args : List AV) (k : AV → Prop) : Prop :=
  ∃ Q : AV → Prop, (∃ r, Q r) ∧ (∀ (H : Heap) (C : AV → Heap → Prop), (∀ r, Q r → C r H) → enterable E.P f = true ∧ ACall E f args H C) ∧ ∀ r, Q r → k r
def QEff (E : Env) (op : Op) (ev : Operand → AV) (k : AV → Prop) : Prop := match op with
  | .call c => match c.callee with
    | .value f => match ev f with
      | .fn g caps => CallQ E g (c.args.toList.map ev ++ caps) k
      | _ => False
    | _ => False
  | _ => False
theorem CallQ.mono {E : Env} {f : FuncId} {args : List AV} {k k' : AV → Prop} (h : CallQ E f args k) (hk : ∀ r, k r → k' r) : CallQ E f args k' :=
  h.imp fun _ h => ⟨h.1, h.2.1, fun r hr => hk r (h.2.2 r hr)⟩
theorem QEff.mono {E : Env} {op : Op} {ev : Operand → AV} {k k' : AV → Prop} (h : QEff E op ev k) (hk : ∀ r, k r → k' r) : QEff E op ev k' := by
  unfold QEff at h ⊢
  cases op <;> first | exact (h : False).elim | skip
  rename_i c
  obtain ⟨callee, args, tys⟩ := c
  cases callee <;> first | exact (h : False).elim | skip
  rename_i f
  dsimp only at h ⊢
  cases hf : ev f <;> rw [hf] at h <;> first | exact (h : False).elim | exact CallQ.mono h hk
theorem QEff.has {E : Env} {op : Op} {ev : Operand → AV} {k : AV → Prop} (h : QEff E op ev k) : ∃ r, k r := by
  unfold QEff at h
  split at h
  · split at h
    · split at h
      · obtain ⟨Q, ⟨r, hr⟩, _, h3⟩ := h
        exact ⟨r, h3 r hr⟩
      · exact h.elim
    · exact h.elim
  · exact h.elim
theorem qeff_aeff {E : Env} {op : Op} {ev : Operand → AV} {H : Heap} {C : AV → Heap → Prop} (h : QEff E op ev fun r => C r H) : AEff E op ev H C := by
  unfold QEff at h
  split at h
  · rename_i c
    split at h
    · rename_i f hf
      split at h
      · rename_i g caps hg
        obtain ⟨Q, _, h2, h3⟩ := h
        simp only [AEff, hf, hg]
        exact h2 H C h3
      · exact h.elim
    · exact h.elim
  · exact h.elim
theorem qeff_congr {E : Env} {op : Op} {ev ev' : Operand → AV} {k : AV → Prop} (h : ∀ x ∈ op.operands, ev x = ev' x) : QEff E op ev k = QEff E op ev' k := by
  unfold QEff
  split
  · rename_i c
    have e1 : c.args.toList.map ev = c.args.toList.map ev' := List.map_congr_left fun x hx => h x (by simp [Op.operands, Call.operands]; exact .inr (by simpa using hx))
    split
    · rename_i f hf
      have := h f (by simp [Op.operands, Call.operands, hf])
      rw [this, e1]
    · rfl
  · rfl

def QOut (E : Env) (ops : Array Oper) (o : Oper) (t : Nat → AV) (k : AV → Prop) : Prop := match aguard ops o t with
  | some true => QEff E o.op (St.eval ⟨t, []⟩) k
  | some false => k (.sc undef)
  | none => False
def QStep (E : Env) (ops : Array Oper) (o : Oper) (s : St) (K : St → Prop) : Prop := QOut E ops o s.t fun x => K ⟨putT s.t o.dst x, s.H⟩
theorem QOut.mono {E : Env} {ops : Array Oper} {o : Oper} {t : Nat → AV} {k k' : AV → Prop} (h : QOut E ops o t k) (hk : ∀ r, k r → k' r) : QOut E ops o t k' := by
  unfold QOut at h ⊢
  split
  · rename_i hg; rw [hg] at h; exact QEff.mono h hk
  · rename_i hg; rw [hg] at h; exact hk _ h
  · rename_i hg; rw [hg] at h; exact h
theorem QOut.has {E : Env} {ops : Array Oper} {o : Oper} {t : Nat → AV} {k : AV → Prop} (h : QOut E ops o t k) : ∃ r, k r := by
  unfold QOut at h
  split at h
  · exact QEff.has h
  · exact ⟨_, h⟩
  · exact h.elim
theorem qout_put {E : Env} {ops : Array Oper} {o : Oper} {t : Nat → AV} {k : AV → Prop} {d : Option Tmp} {v : AV} (h : ∀ i, d = some i → i ∉ o.looksAt ops) : QOut E ops o (putT t d v) k = QOut E ops o t k := by
  unfold QOut
  rw [aguard_put h, qeff_congr (eval_congr (H := []) h)]
theorem qstep_step {E : Env} {ops : Array Oper} {o : Oper} {s : St} {K : St → Prop} (h : QStep E ops o s K) : AStep E ops o s K := by
  unfold QStep QOut at h
  unfold AStep
  split
  · rename_i hg
    rw [hg] at h
    have h : QEff E o.op (St.eval ⟨s.t, []⟩) fun x => K ⟨putT s.t o.dst x, s.H⟩ := h
    rw [eval_heap s.t [] s.H] at h
    exact qeff_aeff (C := fun x H' => K ⟨putT s.t o.dst x, H'⟩) h
  · rename_i hg
    rw [hg] at h
    exact h
  · rename_i hg
    rw [hg] at h
    exact h

def isAlloc : Op → Bool
  | .alloc _ => true
  | _ => false
/-- At most one outcome. -/
def Det (F : (AV → Heap → Prop) → Prop) : Prop := (∃ x H', ∀ C, F C ↔ C x H') ∨ ∀ C, ¬ F C
theorem det_dout {b : Bool} {D : Nat → Bool} {E : Env} {ops : Array Oper} {o : Oper} {t : Nat → AV} {H : Heap} (h : isRead o.op = true ∨ isAlloc o.op = true) : Det (DOut b D E ops o t H) := by
  unfold DOut
  rcases hg : aguard ops o t with _ | _ | _
  · exact .inr fun C h => h
  · exact .inl ⟨_, _, fun C => Iff.rfl⟩
  · unfold DEff
    dsimp only
    by_cases hr : isRead o.op = true
    · simp only [if_pos hr]
      cases aread E.P o.op (St.eval ⟨t, H⟩) (rdH b D H) with
      | none => exact .inr fun C h => h
      | some v => exact .inl ⟨_, _, fun C => Iff.rfl⟩
    · have ha := h.resolve_left hr
      simp only [if_neg hr]
      cases ho : o.op with
      | alloc ty =>
        simp only [AEff]
        cases zeros E.P ty with
        | none => exact .inr fun C h => h
        | some zs =>
          by_cases hd : b = true → Agree D H (H ++ [some ⟨ty, szOf E.P ty, [zs]⟩])
          · exact .inl ⟨_, _, fun C => ⟨fun h => h.2, fun h => ⟨hd, h⟩⟩⟩
          · exact .inr fun C h => hd h.1
      | _ => rw [ho] at ha; simp [isAlloc] at ha

def XStep (D : Nat → Bool) (E : Env) (ops : Array Oper) (S T : List Nat) (k : Nat) (o : Oper) (s : St) (K : St → Prop) : Prop :=
  if T.contains k = true then QStep E ops o s K else DStep (!S.contains k) D E ops o s K
theorem XStep.mono {D : Nat → Bool} {E : Env} {ops : Array Oper} {S T : List Nat} {k : Nat} {o : Oper} {s : St} {K K' : St → Prop} (h : XStep D E ops S T k o s K) (hk : ∀ s', K s' → K' s') : XStep D E ops S T k o s K' := by
  unfold XStep at h ⊢
  split
  · rename_i hc; rw [if_pos hc] at h; exact QOut.mono h fun r hr => hk _ hr
  · rename_i hc; rw [if_neg hc] at h; exact h.mono hk
theorem xstep_step {D : Nat → Bool} {E : Env} {ops : Array Oper} {S T : List Nat} {k : Nat} {o : Oper} {s : St} {K : St → Prop} (h : XStep D E ops S T k o s K) : AStep E ops o s K := by
  unfold XStep at h
  split at h
  · exact qstep_step h
  · exact dstep_step h
theorem xstep_false {D : Nat → Bool} {E : Env} {ops : Array Oper} {S T : List Nat} {k : Nat} {o : Oper} {s : St} (h : XStep D E ops S T k o s fun _ => False) : False := by
  unfold XStep at h
  split at h
  · obtain ⟨_, h⟩ := QOut.has h
    exact h
  · obtain ⟨_, _, h⟩ := dout_has (dstep_out ▸ h)
    exact h

/-- May two operations change places? -/
def swapOk (S T : List Nat) (k j : Nat) (ok oj : Oper) : Bool :=
  match T.contains k, T.contains j with
  | true, true => false
  | true, false => isRead oj.op || isAlloc oj.op
  | false, true => isRead ok.op || isAlloc ok.op
  | false, false => noHeap ok.op || noHeap oj.op || ((isRead ok.op && isRead oj.op) || ((isRead ok.op || isRead oj.op) && (!S.contains k && !S.contains j)))
theorem xstep_swap {D : Nat → Bool} {E : Env} {ops : Array Oper} {S T : List Nat} {i j : Nat} {oi oj : Oper} (hap : oi.apart ops oj = true) (hs : swapOk S T i j oi oj = true) {s : St} {M : St → Prop} (h : XStep D E ops S T i oi s fun s1 => XStep D E ops S T j oj s1 M) :
    XStep D E ops S T j oj s fun s2 => XStep D E ops S T i oi s2 M := by
  obtain ⟨ha1, ha2, ha3⟩ := Oper.apart_spec hap
  have hcomm : ∀ x y, putT (putT s.t oj.dst y) oi.dst x = putT (putT s.t oi.dst x) oj.dst y := fun x y => putT_comm s.t y x fun i hi e => ha2 i e hi
  unfold XStep at h ⊢
  unfold swapOk at hs
  cases hi : T.contains i <;> cases hj : T.contains j <;> simp only [hi, hj, Bool.false_eq_true, if_true, if_false] at h hs ⊢
  · simp only [Bool.or_eq_true, Bool.and_eq_true] at hs
    rcases hs with (hs | hs) | hs
    · exact dstep_swap0 hap (.inl hs) h
    · exact dstep_swap0 hap (.inr hs) h
    · exact dstep_swap hap hs h
  · simp only [Bool.or_eq_true] at hs
    simp only [dstep_out, QStep] at h ⊢
    simp only [qout_put (o := oj) (fun i hi => ha1 i hi)] at h
    simp only [dout_put (o := oi) (fun i hi => ha3 i hi), hcomm]
    rcases det_dout (b := !S.contains i) (D := D) (E := E) (ops := ops) (t := s.t) (H := s.H) hs with ⟨x, H1, hd⟩ | hd
    · rw [hd] at h
      exact QOut.mono h fun y hy => (hd _).2 hy
    · exact absurd h (hd _)
  · simp only [Bool.or_eq_true] at hs
    simp only [dstep_out, QStep] at h ⊢
    simp only [dout_put (o := oj) (fun i hi => ha1 i hi)] at h
    simp only [qout_put (o := oi) (fun i hi => ha3 i hi), hcomm]
    rcases det_dout (b := !S.contains j) (D := D) (E := E) (ops := ops) (t := s.t) (H := s.H) hs with ⟨x, H1, hd⟩ | hd
    · rw [hd]
      exact QOut.mono h fun y hy => (hd _).1 hy
    · obtain ⟨_, h⟩ := QOut.has h
      exact absurd h (hd _)

def AXOps (D : Nat → Bool) (E : Env) (ops : Array Oper) (S T : List Nat) : List Oper → Nat → St → (St → Prop) → Prop
  | [], _, s, K => K s
  | o :: l, k, s, K => XStep D E ops S T k o s fun s' => AXOps D E ops S T l (k + 1) s' K
def regionX (ops : Array Oper) (S T : List Nat) : Bool :=
  let A := ancs ops.toList []
  (List.range ops.size).all fun k => match ops[k]? with
    | none => true
    | some ok => (ok.after.toList.all fun e => !Region.binds .any e || decide (e.on < k)) && (List.range ops.size).all fun j => match ops[j]? with
      | none => true
      | some oj => decide (j ≤ k) || ((A.getD j 0).testBit k || (ok.apart ops oj && swapOk S T k j ok oj))

section
variable {E : Env} {ops : Array Oper} {D : Nat → Bool} {S T : List Nat}
def XAny (D : Nat → Bool) (E : Env) (ops : Array Oper) (S T : List Nat) (K : St → Prop) : Nat → Array Bool → St → Prop
  | 0, listed, s => Region.ready .any ops listed = [] ∧ K s
  | fuel + 1, listed, s => (Region.ready .any ops listed = [] → K s) ∧ ∀ i ∈ Region.ready .any ops listed, ∀ o, ops[i]? = some o → XStep D E ops S T i o s (XAny D E ops S T K fuel (listed.setIfInBounds i true))

theorem xany_sound (hb : ∀ (i : Nat) (o : Oper), ops[i]? = some o → dstOk E.N o = true) {K : St → Prop} {Q : Exit → Act → World → Prop} (hQ : ∀ s' a' w', K s' → Rel E s' a' w' → Q .normal a' w') :
    ∀ (fuel : Nat) (listed : Array Bool) (s : St) (a : Act) (w : World), XAny D E ops S T K fuel listed s → Rel E s a w → wpAny E.P .any ops Q fuel listed a w
  | 0, listed, s, a, w, h, r => ⟨h.1, hQ _ _ _ h.2 r⟩
  | fuel + 1, listed, s, a, w, h, r => by
    refine ⟨fun h0 => hQ _ _ _ (h.1 h0) r, fun i hi => ?_⟩
    obtain ⟨_, o, ho, _⟩ := mem_ready.1 hi
    exact step_sound ho (hb i o ho) (xstep_step (h.2 i hi o ho)) r fun s' a' w' h' r' => xany_sound hb hQ fuel _ s' a' w' h' r'

theorem xany_first {K : St → Prop} {i : Nat} {oi : Oper} (hi : ops[i]? = some oi) : ∀ (fuel : Nat) (listed : Array Bool) (s : St), DC ops listed →
    (∀ j oj, ops[j]? = some oj → j ≠ i → listed.getD j true = false → ((ancs ops.toList []).getD j 0).testBit i = false →
      oi.apart ops oj = true ∧ swapOk S T i j oi oj = true) →
    i ∈ Region.ready .any ops listed → XStep D E ops S T i oi s (XAny D E ops S T K fuel (listed.setIfInBounds i true)) → XAny D E ops S T K (fuel + 1) listed s := by
  intro fuel
  induction fuel with
  | zero =>
    intro listed s hdc hfree hr h
    refine ⟨fun h0 => (by rw [h0] at hr; cases hr), fun j hj o ho => ?_⟩
    by_cases hji : j = i
    · subst hji
      rw [hi] at ho
      simp only [Option.some.injEq] at ho
      subst ho
      exact h
    · have hrj := ready_mono hj hji
      have hno : ¬ Region.ready .any ops (listed.setIfInBounds i true) = [] := fun h0 => (by rw [h0] at hrj; cases hrj)
      exact (xstep_false (h.mono fun s' h' => hno h'.1)).elim
  | succ fuel ih =>
    intro listed s hdc hfree hr h
    refine ⟨fun h0 => (by rw [h0] at hr; cases hr), fun j hj o ho => ?_⟩
    by_cases hji : j = i
    · subst hji
      rw [hi] at ho
      simp only [Option.some.injEq] at ho
      subst ho
      exact h
    · have hrj := ready_mono hj hji
      obtain ⟨hjun, oj, hoj, hall⟩ := mem_ready.1 hj
      rw [ho] at hoj
      simp only [Option.some.injEq] at hoj
      subst hoj
      obtain ⟨hu, _, _, _⟩ := mem_ready.1 hr
      have hanc : ((ancs ops.toList []).getD j 0).testBit i = false := by
        cases hc : ((ancs ops.toList []).getD j 0).testBit i with
        | false => rfl
        | true =>
          have := anc_listed hdc j o ho hall hc
          rcases Nat.lt_or_ge i listed.size with h' | h'
          · simp [h'] at hu this; rw [hu] at this; cases this
          · simp [Array.getElem?_eq_none h'] at this
      obtain ⟨f1, f2⟩ := hfree j o ho hji hjun hanc
      have h1 : XStep D E ops S T i oi s fun s1 => XStep D E ops S T j o s1 (XAny D E ops S T K fuel ((listed.setIfInBounds i true).setIfInBounds j true)) := h.mono fun s' h' => h'.2 j hrj o ho
      refine XStep.mono (xstep_swap f1 f2 h1) fun s2 h2 => ?_
      refine ih (listed.setIfInBounds j true) s2 (dc_set hdc hj) (fun k ok hk hki hun hno => hfree k ok hk hki ?_ hno) (ready_mono hr (Ne.symm hji)) ?_
      · by_cases hjk : j = k
        · subst hjk; exact hjun
        · rw [getD_set_ne true hjk] at hun; exact hun
      · rw [Array.setIfInBounds_comm _ _ hji]
        exact h2

theorem xany_lex {K : St → Prop} (hB : regionX ops S T = true) : ∀ (l : List Oper) (k : Nat) (listed : Array Bool) (s : St), (∀ j : Nat, l[j]? = ops[k + j]?) → listed.size = ops.size → (∀ j, j < ops.size → listed.getD j false = decide (j < k)) → DC ops listed →
    AXOps D E ops S T l k s K → XAny D E ops S T K l.length listed s
  | [], k, listed, s, hl, hsz, hpre, _, h => by
    refine ⟨?_, h⟩
    have hk : ops.size ≤ k := by
      have h0 := hl 0
      simp only [List.getElem?_nil, Nat.add_zero] at h0
      exact Array.getElem?_eq_none_iff.1 h0.symm
    unfold Region.ready
    rw [List.filter_eq_nil_iff]
    intro i hi
    have hlt := List.mem_range.1 hi
    have := hpre i hlt
    rw [decide_eq_true (by omega)] at this
    have hg : listed.getD i true = true := by
      simp only [Array.getD_eq_getD_getElem?, Array.getElem?_eq_getElem (show i < listed.size by omega), Option.getD_some] at this ⊢
      exact this
    simp [hg]
  | o :: l, k, listed, s, hl, hsz, hpre, hdc, h => by
    have h0 : ops[k]? = some o := by simpa using (hl 0).symm
    have hk : k < ops.size := (Array.getElem?_eq_some_iff.1 h0).1
    have hB' := hB
    unfold regionX at hB'
    have hBk := List.all_eq_true.1 hB' k (List.mem_range.2 hk)
    simp only [h0, Bool.and_eq_true, List.all_eq_true] at hBk
    obtain ⟨hedge, hpair⟩ := hBk
    have hgetD : ∀ j, j < ops.size → listed.getD j true = decide (j < k) := fun j hj => by
      have := hpre j hj
      simp only [Array.getD_eq_getD_getElem?, Array.getElem?_eq_getElem (show j < listed.size by omega), Option.getD_some] at this ⊢
      exact this
    have hready : k ∈ Region.ready .any ops listed := by
      rw [mem_ready]
      refine ⟨by rw [hgetD k hk]; simp, o, h0, fun e he hb => ?_⟩
      have := hedge e (by simpa using he)
      simp only [hb, Bool.not_true, Bool.false_or, decide_eq_true_eq] at this
      rw [hpre _ (by omega)]
      simpa using this
    refine xany_first h0 l.length listed s hdc (fun j oj hj hjk hun hanc => ?_) hready ?_
    · have hjlt : j < ops.size := (Array.getElem?_eq_some_iff.1 hj).1
      rw [hgetD j hjlt] at hun
      simp only [decide_eq_false_iff_not] at hun
      have := hpair j (List.mem_range.2 hjlt)
      simp only [hj, Bool.or_eq_true, decide_eq_true_eq, hanc, Bool.false_eq_true, false_or, Bool.and_eq_true] at this
      exact this.resolve_left (by omega)
    · have h' : XStep D E ops S T k o s fun s' => AXOps D E ops S T l (k + 1) s' K := h
      refine h'.mono fun s' h1 => ?_
      refine xany_lex hB l (k + 1) _ s' (fun j => by have := hl (j + 1); simpa [Nat.add_assoc, Nat.add_comm 1 j] using this) (by simp [hsz]) (fun j hj => ?_) (dc_set hdc hready) h1
      by_cases hkj : k = j
      · subst hkj
        simp [hsz, hk]
      · rw [getD_set_ne false hkj, hpre j hj]
        simp only [decide_eq_decide]
        omega

theorem XAny.mono {K K' : St → Prop} (hk : ∀ s, K s → K' s) : ∀ (n : Nat) (listed : Array Bool) (s : St), XAny D E ops S T K n listed s → XAny D E ops S T K' n listed s
  | 0, _, s, h => ⟨h.1, hk s h.2⟩
  | n + 1, _, s, h => ⟨fun h0 => hk s (h.1 h0), fun i hi o ho => XStep.mono (h.2 i hi o ho) fun s' h' => XAny.mono hk n _ s' h'⟩
theorem awp_drawA {id : Nat} {s : St} {Q : Exit → St → Prop} (D : Nat → Bool) (S T : List Nat) (hm : E.P.follows .mixedOrders = true) (hb : dstsOk E.N ops = true) (h : XAny D E ops S T (Q .normal) ops.size (Array.replicate ops.size false) s) : AWp E (.region id ops true) s Q := by
  intro a w r
  refine wp_region_any hm ?_
  exact xany_sound (D := D) (S := S) (T := T) (K := Q .normal) (fun i o ho => List.all_eq_true.1 hb o (by simpa using Array.mem_of_getElem? ho)) (fun s' a' w' h1 h2 => ⟨s', h1, h2⟩) ops.size _ s a _ h (rel_drawn r)
theorem dc_none : DC ops (Array.replicate ops.size false) := fun j o ho hj => by
  exfalso
  simp only [Array.getD_eq_getD_getElem?] at hj
  rcases Nat.lt_or_ge j ops.size with hlt | hge
  · simp [hlt] at hj
  · simp [Array.getElem?_eq_none (show (Array.replicate ops.size false).size ≤ j by simpa using hge)] at hj
theorem xany_all {K : St → Prop} {s : St} (hB : regionX ops S T = true) (h : AXOps D E ops S T ops.toList 0 s K) : XAny D E ops S T K ops.size (Array.replicate ops.size false) s := by
  have := xany_lex (K := K) hB ops.toList 0 (Array.replicate ops.size false) s (by simp) (by simp) (fun j hj => by simp [hj]) dc_none h
  simpa using this

/-! ### Some operations in their order, the rest in every order -/
def upto (n k : Nat) : Array Bool := (Array.range n).map fun j => decide (j < k)
theorem upto_get {n k j : Nat} (hj : j < n) (d : Bool) : (upto n k).getD j d = decide (j < k) := by
  simp [upto, Array.getD_eq_getD_getElem?, hj]
theorem upto_size (n k : Nat) : (upto n k).size = n := by simp [upto]
theorem upto_zero (n : Nat) : upto n 0 = Array.replicate n false := by
  apply Array.ext <;> simp [upto]
theorem upto_set {n k : Nat} : (upto n k).setIfInBounds k true = upto n (k + 1) := by
  apply Array.ext
  · simp [upto]
  · intro i h1 h2
    rw [Array.getElem_setIfInBounds]
    · simp only [upto, Array.getElem_map, Array.getElem_range]
      by_cases h : k = i
      · subst h; simp
      · rw [if_neg h, decide_eq_decide]; omega
    · simpa [upto] using h1
def regionK (ops : Array Oper) (S T : List Nat) (k0 : Nat) : Bool :=
  let A := ancs ops.toList []
  (List.range k0).all fun k => match ops[k]? with
    | none => true
    | some ok => (ok.after.toList.all fun e => !Region.binds .any e || decide (e.on < k)) && (List.range ops.size).all fun j => match ops[j]? with
      | none => true
      | some oj => decide (j ≤ k) || ((A.getD j 0).testBit k || (ok.apart ops oj && swapOk S T k j ok oj))
theorem xany_lexK {K : St → Prop} {k0 n : Nat} (hB : regionK ops S T k0 = true) (hk0 : k0 ≤ ops.size) : ∀ (l : List Oper) (k : Nat) (s : St), (∀ j : Nat, j < l.length → l[j]? = ops[k + j]?) → k + l.length = k0 → DC ops (upto ops.size k) →
    AXOps D E ops S T l k s (fun s' => XAny D E ops S T K n (upto ops.size k0) s') → XAny D E ops S T K (l.length + n) (upto ops.size k) s
  | [], k, s, hl, hlen, hdc, h => by
    have : k = k0 := by simpa using hlen
    subst this
    simpa [AXOps] using h
  | o :: l, k, s, hl, hlen, hdc, h => by
    have h0 : ops[k]? = some o := by simpa using (hl 0 (by simp)).symm
    have hk : k < ops.size := (Array.getElem?_eq_some_iff.1 h0).1
    have hkk : k < k0 := by simp at hlen; omega
    have hB' := hB
    unfold regionK at hB'
    have hBk := List.all_eq_true.1 hB' k (List.mem_range.2 hkk)
    simp only [h0, Bool.and_eq_true, List.all_eq_true] at hBk
    obtain ⟨hedge, hpair⟩ := hBk
    have hready : k ∈ Region.ready .any ops (upto ops.size k) := by
      rw [mem_ready]
      refine ⟨by rw [upto_get hk]; simp, o, h0, fun e he hb => ?_⟩
      have := hedge e (by simpa using he)
      simp only [hb, Bool.not_true, Bool.false_or, decide_eq_true_eq] at this
      rw [upto_get (by omega)]
      simpa using this
    rw [List.length_cons, Nat.add_right_comm]
    refine xany_first h0 (l.length + n) (upto ops.size k) s hdc (fun j oj hj hjk hun hanc => ?_) hready ?_
    · have hjlt : j < ops.size := (Array.getElem?_eq_some_iff.1 hj).1
      rw [upto_get hjlt] at hun
      simp only [decide_eq_false_iff_not] at hun
      have := hpair j (List.mem_range.2 hjlt)
      simp only [hj, Bool.or_eq_true, decide_eq_true_eq, hanc, Bool.false_eq_true, false_or, Bool.and_eq_true] at this
      exact this.resolve_left (by omega)
    · have h' : XStep D E ops S T k o s fun s' => AXOps D E ops S T l (k + 1) s' (fun s' => XAny D E ops S T K n (upto ops.size k0) s') := h
      rw [upto_set]
      refine h'.mono fun s' h1 => ?_
      have hdc' := dc_set hdc hready
      rw [upto_set] at hdc'
      exact xany_lexK hB hk0 l (k + 1) s' (fun j hj => by have := hl (j + 1) (by simp; omega); simpa [Nat.add_assoc, Nat.add_comm 1 j] using this) (by simp at hlen; omega) hdc' h1
theorem xany_take {K : St → Prop} {s : St} (k0 : Nat) (hB : regionK ops S T k0 = true) (hk0 : k0 ≤ ops.size) (h : AXOps D E ops S T (ops.toList.take k0) 0 s (fun s' => XAny D E ops S T K (ops.size - k0) (upto ops.size k0) s')) : XAny D E ops S T K ops.size (Array.replicate ops.size false) s := by
  have hlen : (ops.toList.take k0).length = k0 := by simp; omega
  have := xany_lexK (K := K) (n := ops.size - k0) hB hk0 (ops.toList.take k0) 0 s (fun j hj => by rw [hlen] at hj; simp [List.getElem?_take, hj]) (by omega) (by rw [upto_zero]; exact dc_none) h
  rw [hlen, upto_zero, show k0 + (ops.size - k0) = ops.size by omega] at this
  exact this
theorem xany_nil {K : St → Prop} {listed : Array Bool} {s : St} (hr : Region.ready .any ops listed = []) (h : K s) : XAny D E ops S T K 0 listed s := ⟨hr, h⟩
theorem xany_one {K : St → Prop} {n i : Nat} {oi : Oper} {listed : Array Bool} {s : St} (hr : Region.ready .any ops listed = [i]) (hi : ops[i]? = some oi) (h : AXOps D E ops S T [oi] i s (fun s' => XAny D E ops S T K n (listed.setIfInBounds i true) s')) : XAny D E ops S T K (n + 1) listed s :=
  ⟨fun h0 => (by rw [hr] at h0; cases h0), fun j hj o ho => by
    rw [hr, List.mem_singleton] at hj
    subst hj
    rw [hi] at ho
    cases ho
    exact h⟩
theorem xany_two {K : St → Prop} {n i j : Nat} {oi oj : Oper} {listed : Array Bool} {s : St} (hr : Region.ready .any ops listed = [i, j]) (hi : ops[i]? = some oi) (hj : ops[j]? = some oj)
    (h1 : AXOps D E ops S T [oi] i s (fun s' => XAny D E ops S T K n (listed.setIfInBounds i true) s')) (h2 : AXOps D E ops S T [oj] j s (fun s' => XAny D E ops S T K n (listed.setIfInBounds j true) s')) : XAny D E ops S T K (n + 1) listed s :=
  ⟨fun h0 => (by rw [hr] at h0; cases h0), fun k hk o ho => by
    rw [hr, List.mem_cons, List.mem_singleton] at hk
    rcases hk with rfl | rfl
    · rw [hi] at ho
      cases ho
      exact h1
    · rw [hj] at ho
      cases ho
      exact h2⟩

theorem regionX_nil (h : regionB ops S = true) : regionX ops S [] = true := by
  unfold regionB pairOk at h
  unfold regionX swapOk
  simpa only [List.contains_nil] using h
theorem axops_nilT : ∀ (l : List Oper) (k : Nat) (s : St) (K : St → Prop), ADOps D E ops S l k s K → AXOps D E ops S [] l k s K
  | [], _, _, _, h => h
  | o :: l, k, s, K, h => by
    have h : DStep (!S.contains k) D E ops o s fun s' => ADOps D E ops S l (k + 1) s' K := h
    show XStep D E ops S [] k o s fun s' => AXOps D E ops S [] l (k + 1) s' K
    unfold XStep
    simp only [List.contains_nil, Bool.false_eq_true, if_false]
    exact h.mono fun s' h' => axops_nilT l (k + 1) s' K h'
end
end Go.PA
