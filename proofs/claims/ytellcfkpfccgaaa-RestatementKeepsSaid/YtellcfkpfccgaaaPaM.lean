/- PA: contracts of functions that work on objects of their caller's. -/
import Derived.Test.YtellcfkpfccgaaaPaOwn
namespace Go.PA
open Go.RowKit

def AM (P : Program) (rs : List ResultVar) (C : AV → Heap → Prop) : Exit → St → Prop
  | .normal, s | .ret, s => match ares P s rs with
    | some r => C r s.H
    | none => False
  | _, _ => False

/-- Called where the objects are H, with these arguments: what it hands back and what becomes of the objects is one of C's. -/
def MFun (P : Program) (row src : Option Nat) (f : FuncId) (args : List AV) (H : Heap) (C : AV → Heap → Prop) : Prop :=
  ∀ E : Env, E.P = P → E.row = row → E.src = src → ACall E f args H C

theorem MFun.mono {P : Program} {row src : Option Nat} {f : FuncId} {args : List AV} {H : Heap} {C D : AV → Heap → Prop} (h : MFun P row src f args H C) (hd : ∀ x H', C x H' → D x H') : MFun P row src f args H D :=
  fun E h1 h2 h3 => (h E h1 h2 h3).mono hd

theorem mfun_of_AWp {P : Program} {row src : Option Nat} {f : FuncId} {args : List AV} {H : Heap} {C : AV → Heap → Prop} {fn : Func} {body : Code}
    (hf : P.funcs[f]? = some fn) (hb : fn.body = some body) (hn : args.length ≤ fn.ntmps) (hex : ∃ x H', C x H')
    (h : ∀ E : Env, E.P = P → E.row = row → E.src = src → E.N = fn.ntmps → AWp E body ⟨initT args, H⟩ (AM P fn.results.toList C)) : MFun P row src f args H C := by
  intro E hP hrow hsrc
  refine ⟨hex, fun w ρ ok vs g hsz hrep => ?_⟩
  subst hP; subst hrow; subst hsrc
  let E' : Env := { P := E.P, w0 := w, okA := ok, row := E.row, src := E.src, N := fn.ntmps, W := fun b => ∃ id o c, H[id]? = some (some o) ∧ ρ id = some (b, c), ρ0 := ρ, H0 := H }
  have gE : Good E' w ρ H ok := ⟨rfl, rfl, rfl, Nat.le_refl _, fun _ _ _ _ => rfl, g.inv, fun b hb => ⟨(g.oks b hb).1, (g.oks b hb).2.1, .inl hb⟩, fun id o b c ho hρ => ⟨(g.own id o b c ho hρ).1, (g.own id o b c ho hρ).2.1, .inl ⟨id, o, c, ho, hρ⟩⟩, g.inj, g.len, g.obj⟩
  have r : Rel E' ⟨initT args, H⟩ { tmps := vs ++ Array.replicate (fn.ntmps - vs.size) undef, defers := [] } w := by
    refine ⟨ρ, ok, gE, Ext.refl _ _ _ _, rfl, by simp [E']; omega, fun i => ?_⟩
    simp only [initT]
    rcases Nat.lt_or_ge i args.length with hlt | hge
    · have e1 : args.getD i (.sc undef) = args[i] := by simp [List.getD, List.getElem?_eq_getElem hlt]
      have hv : vs[i]? = some (vs[i]'(by omega)) := Array.getElem?_eq_getElem (by omega)
      have e2 : (vs ++ Array.replicate (fn.ntmps - vs.size) undef).getD i undef = vs[i]'(by omega) := by
        rw [Array.getD_eq_getD_getElem?, Array.getElem?_append_left (by omega), hv]
        rfl
      rw [e1, e2]
      exact hrep i _ _ hv (List.getElem?_eq_getElem hlt)
    · have e1 : args.getD i (.sc undef) = .sc undef := by simp [List.getD, List.getElem?_eq_none hge]
      have e2 : (vs ++ Array.replicate (fn.ntmps - vs.size) undef).getD i undef = undef := by
        rw [Array.getD_eq_getD_getElem?, Array.getElem?_append_right (by omega), Array.getElem?_replicate]
        split <;> rfl
      rw [e1, e2]
      exact .sc
  refine calls_of_wp hf hb (wp_mono (h E' rfl rfl rfl rfl _ _ r) fun e a' w' h' => ?_)
  obtain ⟨s', hq, ρ', ok', g', hx', hd, _, hr⟩ := h'
  have gF : Good E w' ρ' s'.H ok' := by
    have hnW : ∀ b, b < E.w0.heap.size → ¬ E.W b → ¬ E'.W b := fun b hb hW ⟨id, o, c, ho, hρ⟩ => by
      rcases (g.own id o b c ho hρ).2.2 with h | h
      · exact hW h
      · omega
    refine ⟨g'.os.trans g.os, g'.tape.trans g.tape, g'.output.trans g.output, Nat.le_trans g.size g'.size, fun b hb hW hr' => (g'.blk b (Nat.lt_of_lt_of_le hb g.size) (hnW b hb hW) hr').trans (g.blk b hb hW hr'), g'.inv, fun b hb => ?_, fun id o b c ho hρ => ?_, g'.inj, g'.len, g'.obj⟩
    · obtain ⟨x1, x2, x3⟩ := g'.oks b hb
      refine ⟨x1, x2, ?_⟩
      rcases x3 with x3 | x3
      · exact (g.oks b x3).2.2
      · exact .inr (Nat.le_trans g.size x3)
    · obtain ⟨x1, x2, x3⟩ := g'.own id o b c ho hρ
      refine ⟨x1, x2, ?_⟩
      rcases x3 with ⟨id', o', c', ho', hρ'⟩ | x3
      · exact (g.own id' o' b c' ho' hρ').2.2
      · exact .inr (Nat.le_trans g.size x3)
  have fin : ∀ {r : AV}, ares E.P s' fn.results.toList = some r → C r s'.H → a'.defers = [] ∧ ∃ v, (results fn a'.tmps).run E.P w' = .ok v w' ∧
      ∃ (v' : Value) (x : AV) (H' : Heap) (ρ' : Places) (ok' : Nat → Prop), Ending.returned v = .returned v' ∧ C x H' ∧ Good E w' ρ' H' ok' ∧ Ext w ρ H ok w' ρ' H' ok' ∧ Rep w' ρ' H' ok' v' x := by
    intro r hres hc
    obtain ⟨v, hrun, hrep'⟩ := ares_sound (E := E) gF hr hres
    exact ⟨hd, v, hrun, v, r, s'.H, ρ', ok', rfl, hc, gF, hx', hrep'⟩
  cases e with
  | normal =>
    simp only [AM] at hq
    split at hq
    · rename_i r hres; exact fin hres hq
    · exact hq.elim
  | ret =>
    simp only [AM] at hq
    split at hq
    · rename_i r hres; exact fin hres hq
    · exact hq.elim
  | _ => exact hq.elim

theorem mfun_intro {P : Program} {row src : Option Nat} {f : FuncId} {args : List AV} {H : Heap} {C : AV → Heap → Prop} {fn : Func} {body : Code}
    (hf : P.funcs[f]? = some fn) (hb : fn.body = some body) (hn : args.length ≤ fn.ntmps) (hc : codeOk fn.ntmps body = true) (hex : ∃ x H', C x H')
    (h : ∀ E : Env, E.P = P → E.row = row → E.src = src → E.N = fn.ntmps → awp E body ⟨initT args, H⟩ (AM P fn.results.toList C)) : MFun P row src f args H C :=
  mfun_of_AWp hf hb hn hex fun E h1 h2 h3 h5 => awp_sound body _ _ (h5 ▸ hc) (h E h1 h2 h3 h5)

theorem am_ret {P : Program} {rs : List ResultVar} {C : AV → Heap → Prop} {s : St} : AM P rs C .ret s = OB (ares P s rs) (fun r => C r s.H) .mk := by
  simp only [AM]
  cases ares P s rs <;> rfl
theorem am_normal {P : Program} {rs : List ResultVar} {C : AV → Heap → Prop} {s : St} : AM P rs C .normal s = OB (ares P s rs) (fun r => C r s.H) .mk := by
  simp only [AM]
  cases ares P s rs <;> rfl
attribute [go_sem ↓] am_ret am_normal

theorem callB_m {E : Env} {f : FuncId} {args : List AV} {H : Heap} {C C' : AV → Heap → Prop} {b : Bx C} {P : Program} (h : MFun P E.row E.src f args H C') (hP : E.P = P) (hen : enterable P f = true) (hC : ∀ r H', C' r H' → C r H') : CallB E f args H C b :=
  ⟨hP ▸ hen, (h E hP rfl rfl).mono hC⟩

/-- What was there is there still, but for the objects of X. -/
def Kept (X : List Nat) (H H' : Heap) : Prop := ∀ j o, j ∉ X → H[j]? = some (some o) → H'[j]? = some (some o)
theorem kept_refl (X : List Nat) (H : Heap) : Kept X H H := fun _ _ _ h => h
theorem Kept.trans {X : List Nat} {H H' H'' : Heap} (h : Kept X H H') (k : Kept X H' H'') : Kept X H H'' := fun j o hj ho => k j o hj (h j o hj ho)
theorem kept_push {X : List Nat} {H H' : Heap} (x : Option AObj) (h : Kept X H H') : Kept X H (H' ++ [x]) := fun j o hj ho => by
  have := h j o hj ho
  rw [List.getElem?_append_left (List.getElem?_eq_some_iff.1 this).1]
  exact this
theorem kept_app (X : List Nat) (H l : Heap) : Kept X H (H ++ l) := fun j o _ ho => by
  rw [List.getElem?_append_left (List.getElem?_eq_some_iff.1 ho).1]
  exact ho
theorem kept_set {X : List Nat} {H H' : Heap} {i : Nat} (x : Option AObj) (hi : i ∈ X) (h : Kept X H H') : Kept X H (H'.set i x) := fun j o hj ho => by
  rw [List.getElem?_set_ne (by rintro rfl; exact hj hi)]
  exact h j o hj ho
theorem kept_new {X : List Nat} {H H' : Heap} {i : Nat} (x : Option AObj) (hi : H.length ≤ i) (h : Kept X H H') : Kept X H (H'.set i x) := fun j o hj ho => by
  have := (List.getElem?_eq_some_iff.1 ho).1
  rw [List.getElem?_set_ne (by omega)]
  exact h j o hj ho
theorem Kept.mono {X Y : List Nat} {H H' : Heap} (h : Kept X H H') (hs : ∀ x, x ∈ X → x ∈ Y) : Kept Y H H' := fun j o hj ho => h j o (fun hx => hj (hs _ hx)) ho

/-- The same of one that hands back plain values: it needs no memory of its own any more. -/
theorem mfun_of_flat {P : Program} {row src : Option Nat} {f : FuncId} {args args' : List AV} {Q : AV → Prop} {H : Heap} (h : PFun P row src f args' Q) (ha : Args H args args') (hex : ∃ r, Q r) (hfl : ∀ r, Q r → Flat r) : MFun P row src f args H (fun r H' => Q r ∧ H' = H) := by
  intro E hP hrow hsrc
  subst hrow; subst hsrc
  exact acall_flat args' hP h ha hex hfl fun r hr => ⟨hr, rfl⟩

/-- An empty list may be any empty slice. -/
theorem mfun_list_nil {P : Program} {row src : Option Nat} {f : FuncId} {args : List AV} {k : Nat} {H : Heap} {C : AV → Heap → Prop} (h : ∀ A c, MFun P row src f (.sc (.slice A 0 c) :: args) H C) : MFun P row src f (.list k [] :: args) H C := by
  intro E hP hrow hsrc
  refine ⟨(h none 0 E hP hrow hsrc).1, fun w ρ ok vs g hs hr => ?_⟩
  have h0 : 0 < vs.size := by rw [hs]; simp
  have hv := hr 0 vs[0] (.list k []) (Array.getElem?_eq_getElem h0) rfl
  have key : ∃ A c, vs[0] = .slice A 0 c := by
    generalize vs[0] = v at hv
    cases hv with
    | listNil => exact ⟨_, _, rfl⟩
    | list f hn _ _ _ _ _ _ => subst hn; exact ⟨_, _, rfl⟩
  obtain ⟨A, c, hA⟩ := key
  refine (h A c E hP hrow hsrc).2 w ρ ok vs g hs fun i v a hv ha => ?_
  match i, hv, ha with
  | 0, hv, ha =>
    rw [Array.getElem?_eq_getElem h0, hA] at hv
    simp at hv ha
    subst hv; subst ha
    exact .sc
  | i + 1, hv, ha => exact hr (i + 1) v a hv ha

/-- A nil that is handed back is taken as an empty slice of the caller's own. -/
theorem MFun.ownNil {P : Program} {row src : Option Nat} {f : FuncId} {args : List AV} {H : Heap} {C : AV → Heap → Prop} (ty : TypeId) (k : Nat) (h : MFun P row src f args H C) :
    MFun P row src f args H (fun r H' => (∃ H0, C .nil H0 ∧ r = .sref H0.length 0 0 ∧ H' = H0 ++ [some ⟨ty, k, []⟩]) ∨ (r ≠ .nil ∧ C r H')) := by
  intro E hP hrow hsrc
  obtain ⟨⟨x0, H0, h0⟩, hw⟩ := h E hP hrow hsrc
  refine ⟨?_, fun w ρ ok vs g hs hr => (hw w ρ ok vs g hs hr).mono ?_⟩
  · by_cases hx : x0 = .nil
    · subst hx; exact ⟨_, _, .inl ⟨H0, h0, rfl, rfl⟩⟩
    · exact ⟨_, _, .inr ⟨hx, h0⟩⟩
  · rintro e w' ⟨v, x, H', ρ', ok', rfl, hc, g', x', r'⟩
    by_cases hx : x = .nil
    · subst hx
      obtain ⟨g2, x2⟩ := g'.add ⟨ty, k, []⟩ none rfl (by simp) (by simp)
      refine ⟨v, _, _, _, _, rfl, .inl ⟨H', hc, rfl, rfl⟩, g2, x'.trans x2, ?_⟩
      cases r'
      exact .srefNil push_new (by simp [updP])
    · exact ⟨v, x, H', ρ', ok', rfl, .inr ⟨hx, hc⟩, g', x', r'⟩

/-- A slice reads as a list. -/
def SlIs (H : Heap) (x : AV) (k : Nat) (es : List (List AV)) : Prop := x = .list k es ∨ (x = .nil ∧ es = []) ∨ ∃ id ty, x = .sref id 0 es.length ∧ H[id]? = some (some ⟨ty, k, es⟩)
theorem SlIs.kept {H H' : Heap} {x : AV} {k : Nat} {es : List (List AV)} (h : SlIs H x k es) (hk : Kept [] H H') : SlIs H' x k es := by
  rcases h with h | h | ⟨id, ty, h1, h2⟩
  · exact .inl h
  · exact .inr (.inl h)
  · exact .inr (.inr ⟨id, ty, h1, hk id _ (by simp) h2⟩)
theorem SlIs.len {H : Heap} {x : AV} {k : Nat} {es : List (List AV)} (h : SlIs H x k es) : alen H x = some (es.length : Int) := by
  rcases h with h | ⟨rfl, rfl⟩ | ⟨id, ty, rfl, h2⟩
  · subst h; rfl
  · rfl
  · simp only [alen, h2]
theorem SlIs.idx {P : Program} {t e : TypeId} {H : Heap} {x : AV} {k : Nat} {es : List (List AV)} (h : SlIs H x k es) (ht : Go.PA.elemOf P t = some e) (hk : k = szOf P e) (hn : knownT P e = true) (i : Nat) (hi : i < es.length) :
    ∃ a, aindexAddr P t H x i = some a ∧ addrCells H a = some es[i] := by
  rcases h with h | ⟨rfl, rfl⟩ | ⟨id, ty, rfl, h2⟩
  · subst h
    refine ⟨.iref es[i], ?_, rfl⟩
    rw [aix_list ht]
    simp [hk, hn, hi]
  · simp at hi
  · refine ⟨.ref id i 0, ?_, ?_⟩
    · rw [aix_sref ht]
      simp [h2, hk, hn, hi]
    · rw [addr_ref]
      simp [h2, hi]

/-- A slice of the walk's own is taken as one that nobody writes any more. -/
theorem weaker_frz {E : Env} {s : St} (hW : ∀ b, ¬ E.W b) (j : Nat) {id lo n : Nat} {o : AObj} (hj : s.t j = .sref id lo n) (ho : s.H[id]? = some (some o)) (hi : Imm (.list o.k ((o.es.drop lo).take n))) :
    Weaker E s ⟨upd s.t j (.list o.k ((o.es.drop lo).take n)), s.H.set id none⟩ := by
  rintro a w ⟨ρ, ok, g, hx, hd, hs, hr⟩
  obtain ⟨g', x'⟩ := g.kill id (fun b => ok b ∨ ∃ o c, s.H[id]? = some (some o) ∧ ρ id = some (b, c)) (fun _ h => .inl h) (fun b hb => hb.imp (fun h => h) fun ⟨o, c, h1, h2⟩ => ⟨o, c, h1, h2, hW b⟩)
  refine ⟨ρ, _, g', hx.trans x', hd, hs, fun i => ?_⟩
  simp only [upd]
  split
  · rename_i hij
    subst hij
    have hv := hr i
    have hview : view s.H (s.t i) = .list o.k ((o.es.drop lo).take n) := by rw [hj, view_sref, ho, viewS_some]
    have := view_soundX (fun x => x = id) g hv (by rw [hview]; exact hi) (fun x hx => by rw [hj] at hx; simpa [srefs, srefs2, srefs1] using hx)
    rw [hview] at this
    refine this.imm (fun b hb => ?_) hi
    rcases hb with hb | ⟨x, o', c, rfl, h1, h2⟩
    · exact .inl hb
    · exact .inr ⟨o', c, h1, h2⟩
  · exact (hr i).ext x'

/-- A loop behind which the slice in slot j is frozen. -/
def RoundF (j n : Nat) (I : Nat → St → Prop) (Q : Exit → St → Prop) (_ : Bx (I, Q)) : Exit → St → Prop
  | .normal, s' => ∃ n', n' < n ∧ I n' s'
  | .exit i, s' => ∃ id lo m o, s'.t j = .sref id lo m ∧ s'.H[id]? = some (some o) ∧ Imm (.list o.k ((o.es.drop lo).take m)) ∧ Q (.exit i) ⟨upd s'.t j (.list o.k ((o.es.drop lo).take m)), s'.H.set id none⟩
  | x, s' => Q x s'
theorem roundF_normal {j n : Nat} {I : Nat → St → Prop} {Q : Exit → St → Prop} {b : Bx (I, Q)} {s : St} : RoundF j n I Q b .normal s = (∃ n', n' < n ∧ I n' s) := rfl
theorem roundF_exit {j n i : Nat} {I : Nat → St → Prop} {Q : Exit → St → Prop} {b : Bx (I, Q)} {s : St} : RoundF j n I Q b (.exit i) s = (∃ id lo m o, s.t j = .sref id lo m ∧ s.H[id]? = some (some o) ∧ Imm (.list o.k ((o.es.drop lo).take m)) ∧ Q (.exit i) ⟨upd s.t j (.list o.k ((o.es.drop lo).take m)), s.H.set id none⟩) := rfl
theorem roundF_ret {j n : Nat} {I : Nat → St → Prop} {Q : Exit → St → Prop} {b : Bx (I, Q)} {s : St} : RoundF j n I Q b .ret s = Q .ret s := rfl
/-- What is left to show there. -/
def Frz (j : Nat) (s : St) (k : St → Prop) : Prop := ∃ id lo m o, s.t j = .sref id lo m ∧ s.H[id]? = some (some o) ∧ Imm (.list o.k ((o.es.drop lo).take m)) ∧ k ⟨upd s.t j (.list o.k ((o.es.drop lo).take m)), s.H.set id none⟩
theorem roundF_frz {j n i : Nat} {I : Nat → St → Prop} {Q : Exit → St → Prop} {b : Bx (I, Q)} {s : St} : RoundF j n I Q b (.exit i) s = Frz j s (Q (.exit i)) := rfl
theorem frz {j : Nat} {s : St} {k : St → Prop} (id n : Nat) (ty : TypeId) (kk : Nat) (es : List (List AV)) (h1 : s.t j = .sref id 0 n) (h2 : s.H[id]? = some (some ⟨ty, kk, es⟩)) (hn : n = es.length) (hi : Imm (.list kk es)) (h : k ⟨upd s.t j (.list kk es), s.H.set id none⟩) : Frz j s k := by
  refine ⟨id, 0, n, _, h1, h2, ?_, ?_⟩
  · simpa [hn] using hi
  · simpa [hn] using h
attribute [go_sem ↓] roundF_normal roundF_frz roundF_ret
theorem aloopF {E : Env} {c : Code} {s0 : St} {Q : Exit → St → Prop} {b : Bx (c, Q)} (j : Nat) (hW : ∀ b, ¬ E.W b) (I : Nat → St → Prop) (n0 : Nat) (hc : codeOk E.N c = true) (h0 : I n0 s0)
    (round : ∀ n s, I n s → awp E c s (RoundF j n I Q .mk)) : ALoop E c s0 Q b := by
  intro a w r
  refine wp_loop_ghost (fun n a w => ∃ s, I n s ∧ Rel E s a w) n0 ⟨_, h0, r⟩ fun n a w hI => ?_
  obtain ⟨s, hs, r⟩ := hI
  refine wp_mono (awp_sound c s _ hc (round n s hs) a w r) fun e a' w' h' => ?_
  obtain ⟨s', h1, h2⟩ := h'
  cases e with
  | normal =>
    obtain ⟨n', hlt, hI'⟩ := h1
    exact ⟨n', hlt, _, hI', h2⟩
  | exit i =>
    obtain ⟨id, lo, m, o, e1, e2, e3, e4⟩ := h1
    exact ⟨_, e4, weaker_frz hW j e1 e2 e3 a' w' h2⟩
  | _ => exact ⟨s', h1, h2⟩

/-- The cells of a list's elements. -/
def encL {α : Type} (enc : α → List AV) (l : List α) : List (List AV) := l.map enc
section
variable {α : Type} (enc : α → List AV)
theorem encL_nil : encL enc [] = [] := rfl
theorem encL_len (l : List α) : (encL enc l).length = l.length := by simp [encL]
theorem encL_snoc (l : List α) (a : α) : encL enc l ++ [enc a] = encL enc (l ++ [a]) := by simp [encL]
theorem encL_app (l m : List α) : encL enc l ++ encL enc m = encL enc (l ++ m) := by simp [encL]
theorem encL_take (l : List α) (n : Nat) (h : n = l.length) : (encL enc l).take n = encL enc l := by subst h; rw [← encL_len enc l, List.take_length]
theorem encL_takeL (l : List α) : (encL enc l).take l.length = encL enc l := encL_take enc l _ rfl
theorem encL_get (l : List α) (i : Nat) : (encL enc l)[i]? = (l[i]?).map enc := by simp [encL]
theorem imm_encL {k : Nat} (h : ∀ a c, c ∈ enc a → Imm c) (l : List α) : Imm (.list k (encL enc l)) := by
  refine .list fun e he c hc => ?_
  simp only [encL, List.mem_map] at he
  obtain ⟨a, _, rfl⟩ := he
  exact h a c hc
theorem encL_set (l : List α) (i : Nat) (a : α) : (encL enc l).set i (enc a) = encL enc (l.set i a) := by simp [encL, List.map_set]
attribute [go_sem] encL_nil encL_len encL_takeL encL_get
end

/-- Where the first one is; -1 if there is none. -/
def idxFrom {α : Type} (p : α → Bool) : Nat → List α → Int
  | _, [] => -1
  | k, a :: l => if p a = true then k else idxFrom p (k + 1) l
def idxI {α : Type} (p : α → Bool) (l : List α) : Int := idxFrom p 0 l
theorem idxFrom_spec {α : Type} (p : α → Bool) : ∀ (l : List α) (k : Nat), (idxFrom p k l = -1 ∧ ∀ a, a ∈ l → p a = false) ∨ ∃ (i : Nat) (a : α), l[i]? = some a ∧ p a = true ∧ idxFrom p k l = ((k + i : Nat) : Int) ∧ ∀ (j : Nat) (b : α), j < i → l[j]? = some b → p b = false
  | [], k => .inl ⟨rfl, by simp⟩
  | a :: l, k => by
    simp only [idxFrom]
    by_cases h : p a = true
    · rw [if_pos h]
      exact .inr ⟨0, a, rfl, h, rfl, fun j b hj => by omega⟩
    · rw [if_neg h]
      have h' : p a = false := by simpa using h
      rcases idxFrom_spec p l (k + 1) with ⟨h1, h2⟩ | ⟨i, b, h1, h2, h3, h4⟩
      · refine .inl ⟨h1, fun b hb => ?_⟩
        rcases List.mem_cons.1 hb with rfl | hb
        · exact h'
        · exact h2 b hb
      · refine .inr ⟨i + 1, b, by simpa using h1, h2, by rw [h3]; congr 1; omega, fun j c hj hc => ?_⟩
        match j, hj, hc with
        | 0, hj, hc => simp at hc; subst hc; exact h'
        | j + 1, hj, hc => exact h4 j c (by omega) (by simpa using hc)
theorem idxI_spec {α : Type} (p : α → Bool) (l : List α) : (idxI p l = -1 ∧ ∀ a, a ∈ l → p a = false) ∨ ∃ (i : Nat) (a : α), l[i]? = some a ∧ p a = true ∧ idxI p l = (i : Int) ∧ ∀ (j : Nat) (b : α), j < i → l[j]? = some b → p b = false := by
  have := idxFrom_spec p l 0
  simpa [idxI] using this

theorem args_sref {H : Heap} {id n : Nat} {ty : TypeId} {k : Nat} {es : List (List AV)} {as as' : List AV} (hH : H[id]? = some (some ⟨ty, k, es⟩)) (hn : n = es.length) (hi : Imm (.list k es)) (ht : Args H as as') : Args H (.sref id 0 n :: as) (.list k es :: as') := by
  have hv : view H (.sref id 0 n) = .list k es := by rw [view_sref, hH, viewS_some]; simp [hn]
  exact .cons (by rw [hv]; exact .refl _) (by rw [hv]; exact hi) ht
theorem args_imm {H : Heap} {a : AV} {as as' : List AV} (hi : Imm a) (ht : Args H as as') : Args H (a :: as) (a :: as') := .cons (by rw [view_imm hi]; exact .refl _) (by rw [view_imm hi]; exact hi) ht
theorem args_nilL {H : Heap} {k : Nat} {as as' : List AV} (ht : Args H as as') : Args H (.nil :: as) (.list k [] :: as') := .cons (.nil k) .nil ht

/-- The cells of a struct, as others see them. -/
inductive CW (H : Heap) : List AV → List AV → Prop
  | nil : CW H [] []
  | cons {a a' : AV} {as as' : List AV} (h : Weak (view1 H a) a') (hi : Imm (view1 H a)) (hi' : Imm a') (t : CW H as as') : CW H (a :: as) (a' :: as')
theorem CW.len {H : Heap} {as as' : List AV} (h : CW H as as') : as.length = as'.length := by
  induction h with
  | nil => rfl
  | cons _ _ _ _ ih => simp [ih]
theorem CW.weak {H : Heap} {as as' : List AV} (h : CW H as as') : Weak (.agg (as.map (view1 H))) (.agg as') := by
  refine .agg (by simpa using h.len) ?_
  induction h with
  | nil => intro i a b h; simp at h
  | cons h _ _ _ ih =>
    intro i a b ha hb
    match i, ha, hb with
    | 0, ha, hb => simp at ha hb; subst ha; subst hb; exact h
    | i + 1, ha, hb => exact ih i a b (by simpa using ha) (by simpa using hb)
theorem CW.imm {H : Heap} {as as' : List AV} (h : CW H as as') : Imm (.agg (as.map (view1 H))) := by
  refine .agg fun c hc => ?_
  induction h with
  | nil => simp at hc
  | cons _ h _ _ ih =>
    rcases List.mem_cons.1 hc with rfl | hc
    · exact h
    · exact ih hc
theorem CW.imm' {H : Heap} {as as' : List AV} (h : CW H as as') : Imm (.agg as') := by
  refine .agg fun c hc => ?_
  induction h with
  | nil => simp at hc
  | cons _ _ h _ ih =>
    rcases List.mem_cons.1 hc with rfl | hc
    · exact h
    · exact ih hc
theorem cw_imm {H : Heap} {a : AV} {as as' : List AV} (hi : Imm a) (t : CW H as as') : CW H (a :: as) (a :: as') := by
  refine .cons ?_ ?_ hi t
  · rw [view1_imm hi]; exact .refl a
  · rw [view1_imm hi]; exact hi
theorem cw_sc {H : Heap} {v : Value} {as as' : List AV} (t : CW H as as') : CW H (.sc v :: as) (.sc v :: as') := cw_imm .sc t
theorem cw_nil {H : Heap} {k : Nat} {as as' : List AV} (t : CW H as as') : CW H (.nil :: as) (.list k [] :: as') := .cons (.nil k) .nil (imm_list.2 (by simp)) t
theorem cw_sref {H : Heap} {id n : Nat} {ty : TypeId} {k : Nat} {es : List (List AV)} {as as' : List AV} (hH : H[id]? = some (some ⟨ty, k, es⟩)) (hn : n = es.length) (hi : Imm (.list k es)) (t : CW H as as') : CW H (.sref id 0 n :: as) (.list k es :: as') := by
  have hv : view1 H (.sref id 0 n) = .list k es := by rw [view1_sref, hH, viewS_some]; simp [hn]
  exact .cons (by rw [hv]; exact .refl _) (by rw [hv]; exact hi) hi t
theorem args_agg {H : Heap} {cs cs' as as' : List AV} (h : CW H cs cs') (ht : Args H as as') : Args H (.agg cs :: as) (.agg cs' :: as') := .cons h.weak h.imm ht
theorem done_agg {H : Heap} {cs cs' : List AV} {Q : AV → Prop} {b : Bx Q} (h : CW H cs cs') (hq : Q (.agg cs')) : Done H (.agg cs) Q b := done_weak h.imm h.imm' h.weak hq
theorem done_agg2 {H : Heap} {cs cs' : List AV} {v : Value} {Q : AV → Prop} {b : Bx Q} (h : CW H cs cs') (hq : Q (.tup [.agg cs', .sc v])) : Done H (.tup [.agg cs, .sc v]) Q b :=
  done_weak (imm_pair h.imm .sc) (imm_pair h.imm' .sc) (weak_tup2 h.weak (.refl _)) hq

end Go.PA
