/- PA, part 13: regions, whole. -/
import Derived.Test.YtkicgnigaeopnaaPa12
namespace Go.PA
open Go.RowKit

def ancMask (acc : List Nat) (o : Oper) : Nat := o.after.toList.foldl (fun s e => if Region.binds .any e then s ||| 2 ^ e.on ||| acc.getD e.on 0 else s) 0
def ancs : List Oper → List Nat → List Nat
  | [], acc => acc
  | o :: l, acc => ancs l (acc ++ [ancMask acc o])

def ADOps (D : Nat → Bool) (E : Env) (ops : Array Oper) (S : List Nat) : List Oper → Nat → St → (St → Prop) → Prop
  | [], _, s, K => K s
  | o :: l, k, s, K => DStep (!S.contains k) D E ops o s fun s' => ADOps D E ops S l (k + 1) s' K

def pairOk (A : List Nat) (S : List Nat) (k j : Nat) (ok oj : Oper) (ops : Array Oper) : Bool :=
  (A.getD j 0).testBit k || (ok.apart ops oj && (noHeap ok.op || noHeap oj.op || ((isRead ok.op || isRead oj.op) && (isRead ok.op || !S.contains k) && (isRead oj.op || !S.contains j))))

def regionB (ops : Array Oper) (S : List Nat) : Bool :=
  let A := ancs ops.toList []
  (List.range ops.size).all fun k => match ops[k]? with
    | none => true
    | some ok => (ok.after.toList.all fun e => !Region.binds .any e || decide (e.on < k)) && (List.range ops.size).all fun j => match ops[j]? with
      | none => true
      | some oj => decide (j ≤ k) || pairOk A S k j ok oj ops

theorem fold_bit (acc : List Nat) (k : Nat) : ∀ (l : List Edge) (s : Nat), (l.foldl (fun s e => if Region.binds .any e then s ||| 2 ^ e.on ||| acc.getD e.on 0 else s) s).testBit k = true →
    s.testBit k = true ∨ ∃ e ∈ l, Region.binds .any e = true ∧ (e.on = k ∨ (acc.getD e.on 0).testBit k = true)
  | [], s, h => .inl h
  | e :: l, s, h => by
    rw [List.foldl_cons] at h
    rcases fold_bit acc k l _ h with h | ⟨e', he, h1, h2⟩
    · split at h
      · rename_i hb
        simp only [Nat.testBit_or, Nat.testBit_two_pow, Bool.or_eq_true, decide_eq_true_eq] at h
        rcases h with (h | h) | h
        · exact .inl h
        · exact .inr ⟨e, by simp, hb, .inl h⟩
        · exact .inr ⟨e, by simp, hb, .inr h⟩
      · exact .inl h
    · exact .inr ⟨e', by simp [he], h1, h2⟩

theorem ancs_old : ∀ (l : List Oper) (acc : List Nat) (j : Nat), j < acc.length → (ancs l acc)[j]? = acc[j]?
  | [], acc, j, _ => rfl
  | o :: l, acc, j, h => by
    rw [ancs, ancs_old l _ j (by simp; omega), List.getElem?_append_left h]

theorem ancs_get : ∀ (l : List Oper) (acc : List Nat) (j : Nat) (o : Oper), l[j]? = some o → ∃ acc', (ancs l acc)[acc.length + j]? = some (ancMask acc' o) ∧ ∀ i m, acc'[i]? = some m → (ancs l acc)[i]? = some m ∧ i < acc.length + j
  | o' :: l, acc, 0, o, h => by
    simp only [List.getElem?_cons_zero, Option.some.injEq] at h
    subst h
    refine ⟨acc, ?_, fun i m hi => ?_⟩
    · rw [ancs, Nat.add_zero, ancs_old l _ _ (by simp)]; simp
    · have hlt := (List.getElem?_eq_some_iff.1 hi).1
      refine ⟨?_, by omega⟩
      rw [ancs, ancs_old l _ _ (by simp; omega), List.getElem?_append_left hlt]
      exact hi
  | o' :: l, acc, j + 1, o, h => by
    obtain ⟨acc', h1, h2⟩ := ancs_get l (acc ++ [ancMask acc o']) j o (by simpa using h)
    refine ⟨acc', ?_, fun i m hi => ?_⟩
    · rw [ancs, ← h1]; congr 1; simp; omega
    · obtain ⟨h3, h4⟩ := h2 i m hi
      refine ⟨by rw [ancs]; exact h3, by simp at h4; omega⟩
  | [], _, _, _, h => by simp at h

def DC (ops : Array Oper) (listed : Array Bool) : Prop :=
  ∀ (j : Nat) (o : Oper), ops[j]? = some o → listed.getD j false = true → ∀ e ∈ o.after, Region.binds .any e = true → listed.getD e.on false = true

theorem anc_listed {ops : Array Oper} {listed : Array Bool} (hdc : DC ops listed) {k : Nat} : ∀ (j : Nat) (o : Oper), ops[j]? = some o → (∀ e ∈ o.after, Region.binds .any e = true → listed.getD e.on false = true) →
    ((ancs ops.toList []).getD j 0).testBit k = true → listed.getD k false = true := by
  intro j
  induction j using Nat.strongRecOn with
  | _ j ih =>
    intro o ho hall hb
    obtain ⟨acc', h1, h2⟩ := ancs_get ops.toList [] j o (by simpa using ho)
    simp only [List.length_nil, Nat.zero_add] at h1 h2
    rw [List.getD_eq_getElem?_getD, h1, Option.getD_some] at hb
    rcases fold_bit acc' k _ 0 hb with h | ⟨e, he, hbind, h⟩
    · simp at h
    · have hl := hall e (by simpa using he) hbind
      rcases h with h | h
      · rw [← h]; exact hl
      · rw [List.getD_eq_getElem?_getD] at h
        cases hm : acc'[e.on]? with
        | none => rw [hm] at h; simp at h
        | some m =>
          rw [hm, Option.getD_some] at h
          obtain ⟨h3, h4⟩ := h2 _ _ hm
          have hlt : e.on < ops.size := by have := (Array.getElem?_eq_some_iff.1 ho).1; omega
          exact ih e.on h4 _ (Array.getElem?_eq_getElem hlt) (hdc _ _ (Array.getElem?_eq_getElem hlt) hl) (by rw [List.getD_eq_getElem?_getD, h3, Option.getD_some]; exact h)

section
variable {E : Env} {ops : Array Oper} {D : Nat → Bool} {S : List Nat}

def AAny (D : Nat → Bool) (E : Env) (ops : Array Oper) (S : List Nat) (K : St → Prop) : Nat → Array Bool → St → Prop
  | 0, listed, s => Region.ready .any ops listed = [] ∧ K s
  | fuel + 1, listed, s => (Region.ready .any ops listed = [] → K s) ∧ ∀ i ∈ Region.ready .any ops listed, ∀ o, ops[i]? = some o → DStep (!S.contains i) D E ops o s (AAny D E ops S K fuel (listed.setIfInBounds i true))

theorem any_sound (hb : ∀ (i : Nat) (o : Oper), ops[i]? = some o → dstOk E.N o = true) {K : St → Prop} {Q : Exit → Act → World → Prop} (hQ : ∀ s' a' w', K s' → Rel E s' a' w' → Q .normal a' w') :
    ∀ (fuel : Nat) (listed : Array Bool) (s : St) (a : Act) (w : World), AAny D E ops S K fuel listed s → Rel E s a w → wpAny E.P .any ops Q fuel listed a w
  | 0, listed, s, a, w, h, r => ⟨h.1, hQ _ _ _ h.2 r⟩
  | fuel + 1, listed, s, a, w, h, r => by
    refine ⟨fun h0 => hQ _ _ _ (h.1 h0) r, fun i hi => ?_⟩
    obtain ⟨_, o, ho, _⟩ := mem_ready.1 hi
    exact step_sound ho (hb i o ho) (dstep_step (h.2 i hi o ho)) r fun s' a' w' h' r' => any_sound hb hQ fuel _ s' a' w' h' r'

theorem dc_set {listed : Array Bool} (hdc : DC ops listed) {i : Nat} (hi : i ∈ Region.ready .any ops listed) : DC ops (listed.setIfInBounds i true) := by
  intro j o ho hj e he hb
  by_cases hji : i = j
  · subst hji
    obtain ⟨_, o', ho', hall⟩ := mem_ready.1 hi
    rw [ho] at ho'
    simp only [Option.some.injEq] at ho'
    subst ho'
    exact getD_set_true (hall e he hb)
  · rw [getD_set_ne false hji] at hj
    exact getD_set_true (hdc j o ho hj e he hb)

theorem any_first {K : St → Prop} {i : Nat} {oi : Oper} (hi : ops[i]? = some oi) : ∀ (fuel : Nat) (listed : Array Bool) (s : St), DC ops listed →
    (∀ j oj, ops[j]? = some oj → j ≠ i → listed.getD j true = false → ((ancs ops.toList []).getD j 0).testBit i = false →
      oi.apart ops oj = true ∧ ((noHeap oi.op = true ∨ noHeap oj.op = true) ∨ (isRead oi.op = true ∨ isRead oj.op = true) ∧ (isRead oi.op = false → (!S.contains i) = true) ∧ (isRead oj.op = false → (!S.contains j) = true))) →
    i ∈ Region.ready .any ops listed → DStep (!S.contains i) D E ops oi s (AAny D E ops S K fuel (listed.setIfInBounds i true)) → AAny D E ops S K (fuel + 1) listed s := by
  intro fuel
  induction fuel with
  | zero =>
    intro listed s hdc hfree hr h
    refine ⟨fun h0 => (by rw [h0] at hr; cases hr), fun j hj o ho => ?_⟩
    by_cases hji : j = i
    · subst hji
      rw [hi] at ho
      simp only [Option.some.injEq] at ho
      subst ho
      exact h
    · have hrj := ready_mono hj hji
      refine DStep.mono (K := fun _ => False) ?_ (fun _ h => h.elim)
      -- the head's outcome says that nothing is ready any more
      have hno : ¬ Region.ready .any ops (listed.setIfInBounds i true) = [] := fun h0 => (by rw [h0] at hrj; cases hrj)
      have hF : DStep (!S.contains i) D E ops oi s fun _ => False := h.mono fun s' h' => hno h'.1
      obtain ⟨hjun, oj, hoj, hall⟩ := mem_ready.1 hj
      rw [ho] at hoj
      simp only [Option.some.injEq] at hoj
      subst hoj
      obtain ⟨hu, _, _, _⟩ := mem_ready.1 hr
      have hanc : ((ancs ops.toList []).getD j 0).testBit i = false := by
        cases hc : ((ancs ops.toList []).getD j 0).testBit i with
        | false => rfl
        | true =>
          have := anc_listed hdc j o ho hall hc
          rcases Nat.lt_or_ge i listed.size with h' | h'
          · simp [h'] at hu this; rw [hu] at this; cases this
          · simp [Array.getElem?_eq_none h'] at this
      obtain ⟨x, H', h0⟩ := dout_has (dstep_out ▸ hF)
      exact h0.elim
  | succ fuel ih =>
    intro listed s hdc hfree hr h
    refine ⟨fun h0 => (by rw [h0] at hr; cases hr), fun j hj o ho => ?_⟩
    by_cases hji : j = i
    · subst hji
      rw [hi] at ho
      simp only [Option.some.injEq] at ho
      subst ho
      exact h
    · have hrj := ready_mono hj hji
      obtain ⟨hjun, oj, hoj, hall⟩ := mem_ready.1 hj
      rw [ho] at hoj
      simp only [Option.some.injEq] at hoj
      subst hoj
      obtain ⟨hu, _, _, _⟩ := mem_ready.1 hr
      have hanc : ((ancs ops.toList []).getD j 0).testBit i = false := by
        cases hc : ((ancs ops.toList []).getD j 0).testBit i with
        | false => rfl
        | true =>
          have := anc_listed hdc j o ho hall hc
          rcases Nat.lt_or_ge i listed.size with h' | h'
          · simp [h'] at hu this; rw [hu] at this; cases this
          · simp [Array.getElem?_eq_none h'] at this
      obtain ⟨f1, f2⟩ := hfree j o ho hji hjun hanc
      have h1 : DStep (!S.contains i) D E ops oi s fun s1 => DStep (!S.contains j) D E ops o s1 (AAny D E ops S K fuel ((listed.setIfInBounds i true).setIfInBounds j true)) := h.mono fun s' h' => h'.2 j hrj o ho
      refine DStep.mono (f2.elim (fun f => dstep_swap0 f1 f h1) fun f => dstep_swap f1 f.1 f.2.1 f.2.2 h1) fun s2 h2 => ?_
      refine ih (listed.setIfInBounds j true) s2 (dc_set hdc hj) (fun k ok hk hki hun hno => hfree k ok hk hki ?_ hno) (ready_mono hr (Ne.symm hji)) ?_
      · by_cases hjk : j = k
        · subst hjk; exact hjun
        · rw [getD_set_ne true hjk] at hun; exact hun
      · rw [Array.setIfInBounds_comm _ _ hji]
        exact h2

theorem any_lex {K : St → Prop} (hB : regionB ops S = true) : ∀ (l : List Oper) (k : Nat) (listed : Array Bool) (s : St), (∀ j : Nat, l[j]? = ops[k + j]?) → listed.size = ops.size → (∀ j, j < ops.size → listed.getD j false = decide (j < k)) → DC ops listed →
    ADOps D E ops S l k s K → AAny D E ops S K l.length listed s
  | [], k, listed, s, hl, hsz, hpre, _, h => by
    refine ⟨?_, h⟩
    have hk : ops.size ≤ k := by
      have h0 := hl 0
      simp only [List.getElem?_nil, Nat.add_zero] at h0
      exact Array.getElem?_eq_none_iff.1 h0.symm
    unfold Region.ready
    rw [List.filter_eq_nil_iff]
    intro i hi
    have hlt := List.mem_range.1 hi
    have := hpre i hlt
    rw [decide_eq_true (by omega)] at this
    have hg : listed.getD i true = true := by
      simp only [Array.getD_eq_getD_getElem?, Array.getElem?_eq_getElem (show i < listed.size by omega), Option.getD_some] at this ⊢
      exact this
    simp [hg]
  | o :: l, k, listed, s, hl, hsz, hpre, hdc, h => by
    have h0 : ops[k]? = some o := by simpa using (hl 0).symm
    have hk : k < ops.size := (Array.getElem?_eq_some_iff.1 h0).1
    unfold regionB at hB
    have hBk := List.all_eq_true.1 hB k (List.mem_range.2 hk)
    simp only [h0, Bool.and_eq_true, List.all_eq_true] at hBk
    obtain ⟨hedge, hpair⟩ := hBk
    have hgetD : ∀ j, j < ops.size → listed.getD j true = decide (j < k) := fun j hj => by
      have := hpre j hj
      simp only [Array.getD_eq_getD_getElem?, Array.getElem?_eq_getElem (show j < listed.size by omega), Option.getD_some] at this ⊢
      exact this
    have hready : k ∈ Region.ready .any ops listed := by
      rw [mem_ready]
      refine ⟨by rw [hgetD k hk]; simp, o, h0, fun e he hb => ?_⟩
      have := hedge e (by simpa using he)
      simp only [hb, Bool.not_true, Bool.false_or, decide_eq_true_eq] at this
      rw [hpre _ (by omega)]
      simpa using this
    refine any_first h0 l.length listed s hdc (fun j oj hj hjk hun hanc => ?_) hready ?_
    · have hjlt : j < ops.size := (Array.getElem?_eq_some_iff.1 hj).1
      rw [hgetD j hjlt] at hun
      simp only [decide_eq_false_iff_not] at hun
      have := hpair j (List.mem_range.2 hjlt)
      simp only [hj, Bool.or_eq_true, decide_eq_true_eq, pairOk, hanc, Bool.false_eq_true, false_or, Bool.and_eq_true] at this
      have := this.resolve_left (by omega)
      refine ⟨this.1, ?_⟩
      rcases this.2 with h' | h'
      · exact .inl h'
      refine .inr ⟨h'.1.1, fun h => ?_, fun h => ?_⟩
      · have := h'.1.2
        rw [h] at this
        simpa using this
      · have := h'.2
        rw [h] at this
        simpa using this
    · have h' : DStep (!S.contains k) D E ops o s fun s' => ADOps D E ops S l (k + 1) s' K := h
      refine h'.mono fun s' h1 => ?_
      refine any_lex hB l (k + 1) _ s' (fun j => by have := hl (j + 1); simpa [Nat.add_assoc, Nat.add_comm 1 j] using this) (by simp [hsz]) (fun j hj => ?_) (dc_set hdc hready) h1
      by_cases hkj : k = j
      · subst hkj
        simp [hsz, hk]
      · rw [getD_set_ne false hkj, hpre j hj]
        simp only [decide_eq_decide]
        omega

theorem rel_drawn {s : St} {a : Act} {w : World} (r : Rel E s a w) : Rel E s a { w with drawn := w.drawn + 1 } := by
  obtain ⟨ρ, ok, g, hx, hd, hs, hr⟩ := r
  obtain ⟨g', x'⟩ := g.step (w' := { w with drawn := w.drawn + 1 }) (ok' := ok) (fun _ => False) rfl rfl rfl (Nat.le_refl _) (fun _ _ _ => rfl) (fun _ h => h.elim) (fun _ h => h) (fun _ h => .inl h)
  exact ⟨ρ, ok, g', hx.trans x', hd, hs, fun i => (hr i).ext x'⟩

/-- The abstract 'wp' of code. -/
def AWp (E : Env) (c : Code) (s : St) (Q : Exit → St → Prop) : Prop :=
  ∀ (a : Act) (w : World), Rel E s a w → c.wp E.P (fun x a' w' => ∃ s', Q x s' ∧ Rel E s' a' w') a w

def dstsOk (N : Nat) (ops : Array Oper) : Bool := ops.toList.all (dstOk N)

theorem awp_region {id : Nat} {s : St} {Q : Exit → St → Prop} (hb : dstsOk E.N ops = true) (h : AOps E ops ops.toList s (Q .normal)) : AWp E (.region id ops false) s Q := by
  intro a w r
  refine wp_region ?_
  have := ops_sound (E := E) (ops := ops) ops.toList 0 (by simp) (fun o ho => List.all_eq_true.1 hb o ho) (K := Q .normal) (Q := fun x a' w' => ∃ s', Q x s' ∧ Rel E s' a' w') (fun s' a' w' h1 h2 => ⟨s', h1, h2⟩) h r
  rwa [List.range_eq_range'] 

theorem awp_draw {id : Nat} {s : St} {Q : Exit → St → Prop} (D : Nat → Bool) (S : List Nat) (hm : E.P.follows .mixedOrders = true) (hb : dstsOk E.N ops = true) (hB : regionB ops S = true) (h : ADOps D E ops S ops.toList 0 s (Q .normal)) : AWp E (.region id ops true) s Q := by
  intro a w r
  refine wp_region_any hm ?_
  refine any_sound (D := D) (S := S) (K := Q .normal) (fun i o ho => List.all_eq_true.1 hb o (by simpa using Array.mem_of_getElem? ho)) (fun s' a' w' h1 h2 => ⟨s', h1, h2⟩) ops.size _ s a _ ?_ (rel_drawn r)
  have := any_lex (K := Q .normal) hB ops.toList 0 (Array.replicate ops.size false) s (by simp) (by simp) (fun j hj => by simp [hj]) (fun j o ho hj => by
    exfalso
    simp only [Array.getD_eq_getD_getElem?] at hj
    rcases Nat.lt_or_ge j ops.size with hlt | hge
    · simp [hlt] at hj
    · simp [Array.getElem?_eq_none (show (Array.replicate ops.size false).size ≤ j by simpa using hge)] at hj) h
  simpa using this

end
end Go.PA
