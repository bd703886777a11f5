/- PA: a function that hands back a pointer to a variable of its own; the source of numbers taken over by those that draw from it. -/
import Derived.Test.YtellcfkpfccgaaaPaUse
namespace Go.PA
open Go.RowKit

/-- What such a function does. -/
def POwn (P : Program) (row src : Option Nat) (f : FuncId) (args : List AV) (ty : TypeId) (k : Nat) (Q : List (List AV) → Prop) : Prop :=
  ∀ (w : World) (ok : Nat → Prop) (vs : Array Value), (∀ b, ok b → b < w.heap.size ∧ some b ≠ row) → Inv row src ok w → vs.size = args.length → (∀ (i : Nat) (v : Value) (a : AV), vs[i]? = some v → args[i]? = some a → RepI w ok v a) →
    Calls P f vs w fun e w' => ∃ (b cap : Nat) (es : List (List AV)), e = .returned (.pointer (some ⟨b, 0, none⟩)) ∧ Q es ∧ w.heap.size ≤ b ∧ b < w'.heap.size ∧ (∀ e, e ∈ es → e.length = k) ∧
      CellsOk w' (fun _ => none) [] (fun x => (ok x ∨ (w.heap.size ≤ x ∧ x < w'.heap.size)) ∧ x ≠ b) ⟨ty, k, es⟩ b cap ∧ (∀ e, e ∈ es → ∀ a, a ∈ e → Imm a) ∧ w.grownBy w' row ∧ Inv row src ok w'

def AOwn (P : Program) (rs : List ResultVar) (ty : TypeId) (k : Nat) (Q : List (List AV) → Prop) : Exit → St → Prop
  | .normal, s | .ret, s => ∃ id es, ares P s rs = some (.ref id 0 0) ∧ s.H[id]? = some (some ⟨ty, k, es⟩) ∧ (∀ e, e ∈ es → ∀ a, a ∈ e → Imm a) ∧ Q es
  | _, _ => False

theorem pown_intro {P : Program} {row src : Option Nat} {f : FuncId} {args : List AV} {ty : TypeId} {k : Nat} {Q : List (List AV) → Prop} {fn : Func} {body : Code}
    (hf : P.funcs[f]? = some fn) (hb : fn.body = some body) (hn : args.length ≤ fn.ntmps) (hc : codeOk fn.ntmps body = true)
    (h : ∀ E : Env, E.P = P → E.row = row → E.src = src → (∀ b, ¬ E.W b) → E.N = fn.ntmps → awp E body ⟨initT args, []⟩ (AOwn P fn.results.toList ty k Q)) : POwn P row src f args ty k Q := by
  intro w ok vs h1 h2 h3 h4
  let E : Env := { P := P, w0 := w, okA := ok, row := row, src := src, N := fn.ntmps, W := fun _ => False, ρ0 := fun _ => none, H0 := [] }
  have g : Good E w (fun _ => none) [] ok := ⟨rfl, rfl, rfl, Nat.le_refl _, fun _ _ _ _ => rfl, h2, fun b hb => ⟨(h1 b hb).1, (h1 b hb).2, .inl hb⟩, by simp, by simp, by simp, by simp⟩
  have r : Rel E ⟨initT args, []⟩ { tmps := vs ++ Array.replicate (fn.ntmps - vs.size) undef, defers := [] } w := by
    refine ⟨fun _ => none, ok, g, Ext.refl _ _ _ _, rfl, by simp [E]; omega, fun i => ?_⟩
    simp only [initT]
    rcases Nat.lt_or_ge i args.length with hlt | hge
    · have e1 : args.getD i (.sc undef) = args[i] := by simp [List.getD, List.getElem?_eq_getElem hlt]
      have hv : vs[i]? = some (vs[i]'(by omega)) := Array.getElem?_eq_getElem (by omega)
      have e2 : (vs ++ Array.replicate (fn.ntmps - vs.size) undef).getD i undef = vs[i]'(by omega) := by
        rw [Array.getD_eq_getD_getElem?, Array.getElem?_append_left (by omega), hv]
        rfl
      rw [e1, e2]
      exact h4 i _ _ hv (List.getElem?_eq_getElem hlt)
    · have e1 : args.getD i (.sc undef) = .sc undef := by simp [List.getD, List.getElem?_eq_none hge]
      have e2 : (vs ++ Array.replicate (fn.ntmps - vs.size) undef).getD i undef = undef := by
        rw [Array.getD_eq_getD_getElem?, Array.getElem?_append_right (by omega), Array.getElem?_replicate]
        split <;> rfl
      rw [e1, e2]
      exact .sc
  have hw := awp_sound (E := E) body _ _ hc (h E rfl rfl rfl (fun _ h => h) rfl) _ _ r
  refine calls_of_wp hf hb (wp_mono hw fun e a' w' h' => ?_)
  obtain ⟨s', hq, ρ, ok', g', _, hd, _, hr⟩ := h'
  have fin : (∃ id es, ares P s' fn.results.toList = some (.ref id 0 0) ∧ s'.H[id]? = some (some ⟨ty, k, es⟩) ∧ (∀ e, e ∈ es → ∀ a, a ∈ e → Imm a) ∧ Q es) → a'.defers = [] ∧ ∃ v, (results fn a'.tmps).run P w' = .ok v w' ∧
      ∃ (b cap : Nat) (es : List (List AV)), Ending.returned v = .returned (.pointer (some ⟨b, 0, none⟩)) ∧ Q es ∧ w.heap.size ≤ b ∧ b < w'.heap.size ∧ (∀ e, e ∈ es → e.length = k) ∧
      CellsOk w' (fun _ => none) [] (fun x => (ok x ∨ (w.heap.size ≤ x ∧ x < w'.heap.size)) ∧ x ≠ b) ⟨ty, k, es⟩ b cap ∧ (∀ e, e ∈ es → ∀ a, a ∈ e → Imm a) ∧ w.grownBy w' row ∧ Inv row src ok w' := by
    rintro ⟨id, es, hres, ho, hi, hq⟩
    obtain ⟨v, hrun, hrep⟩ := ares_sound (E := E) g' hr hres
    refine ⟨hd, v, hrun, ?_⟩
    cases hrep with
    | refDead hd' _ => rw [ho] at hd'; cases hd'
    | @ref _ _ _ o b cap ho' hρ hcap =>
      rw [ho] at ho'
      simp only [Option.some.injEq] at ho'
      subst ho'
      have hobj := g'.obj id _ ho
      rw [hρ] at hobj
      obtain ⟨a1, a2, a3⟩ := g'.own id _ b cap ho hρ
      have hb1 : w.heap.size ≤ b := a3.resolve_left (fun h => h)
      refine ⟨b, cap, es, by simp, hq, hb1, hobj.lt, g'.len id _ ho, ?_, hi, ⟨g'.os, g'.tape, g'.output, g'.size, fun k hk hne => g'.blk k hk (fun h => h) hne⟩, h2.1, fun p hp => g'.inv.2 p hp⟩
      obtain ⟨cur, c1, c2, c3, c4, c5⟩ := hobj.cells hcap
      refine ⟨cur, c1, c2, c3, c4, fun i e j a he ha => ?_⟩
      obtain ⟨c, d1, d2, d3⟩ := c5 i e j a he ha
      refine ⟨c, d1, d2, d3.imm (fun x hx => ⟨?_, fun e => a1 (e ▸ hx)⟩) (hi e (List.mem_of_getElem? he) a (List.mem_of_getElem? ha))⟩
      obtain ⟨x1, _, x3⟩ := g'.oks x hx
      exact x3.imp (fun h => h) fun h => ⟨h, x1⟩
  cases e with
  | normal => exact fin hq
  | ret => exact fin hq
  | _ => exact hq.elim

section
variable {E : Env}

theorem callB_own {P : Program} {f : FuncId} {args : List AV} {args' : List AV} {H : Heap} {ty : TypeId} {k : Nat} {Q : List (List AV) → Prop} {C : AV → Heap → Prop} {b : Bx C} (h : POwn P E.row E.src f args' ty k Q) (hP : E.P = P) (hen : enterable P f = true) (ha : Args H args args') (hn : ∀ a, a ∈ args → srefs a = [])
    (hex : ∃ es, Q es) (hC : ∀ es, Q es → C (.ref H.length 0 0) (H ++ [some ⟨ty, k, es⟩])) : CallB E f args H C b := by
  subst hP
  obtain ⟨es0, hq0⟩ := hex
  refine ⟨hen, ⟨_, _, hC es0 hq0⟩, fun w ρ ok vs g hs hr => ?_⟩
  have hr' : ∀ (i : Nat) (v : Value) (a : AV), vs[i]? = some v → args'[i]? = some a → RepI w ok v a := fun i v a' hv ha' => by
    obtain ⟨a, h1, h2, h3⟩ := ha.get i a' ha'
    refine ((view_soundX (fun _ => False) g (hr i v a hv h1) h3 (fun id hid => ?_)).weak h2).ext ⟨by simp, by simp, ?_, fun _ _ => rfl⟩
    · rw [hn a (List.mem_of_getElem? h1)] at hid; cases hid
    · rintro b (hb | ⟨_, _, _, hf, _⟩)
      · exact hb
      · exact hf.elim
  refine (h w ok vs (fun b hb => ⟨(g.oks b hb).1, (g.oks b hb).2.1⟩) g.inv (hs.trans ha.len) hr').mono ?_
  rintro e w' ⟨b, cap, es, rfl, hq, hb1, hb2, hlen, hobj, hi, hg, hinv⟩
  obtain ⟨g1, x1⟩ := g.call (ok' := fun x => (ok x ∨ (w.heap.size ≤ x ∧ x < w'.heap.size)) ∧ x ≠ b) hg hinv (fun x hx => ⟨.inl hx, fun e => by have := (g.oks x hx).1; omega⟩) (fun x hx => hx.1)
  have hcm : cap ≤ maxLen := hobj.choose_spec.2.2.2.1
  have hobj' : ObjOk w' ρ H (fun x => (ok x ∨ (w.heap.size ≤ x ∧ x < w'.heap.size)) ∧ x ≠ b) ⟨ty, k, es⟩ (some (b, cap)) := by
    obtain ⟨cur, c1, c2, c3, c4, c5⟩ := hobj
    refine .inl ⟨cur, c1, c2, c3, c4, fun i e j a he ha => ?_⟩
    obtain ⟨c, d1, d2, d3⟩ := c5 i e j a he ha
    exact ⟨c, d1, d2, d3.imm (fun x hx => hx) (hi e (List.mem_of_getElem? he) a (List.mem_of_getElem? ha))⟩
  obtain ⟨g2, x2⟩ := g1.add ⟨ty, k, es⟩ (some (b, cap)) hobj' hlen (fun b' c' h' => by
    simp only [Option.some.injEq, Prod.mk.injEq] at h'
    obtain ⟨rfl, rfl⟩ := h'
    refine ⟨fun hx => hx.2 rfl, fun id o c ho hρ => ?_, fun hrow => ?_, .inr (Nat.le_trans g.size hb1)⟩
    · have := g.obj id o ho
      rw [hρ] at this
      have := this.lt
      omega
    · have := g.row_lt hrow.symm
      omega)
  refine ⟨_, .ref H.length 0 0, H ++ [some ⟨ty, k, es⟩], _, _, rfl, hC es hq, g2, x1.trans x2, ?_⟩
  have := Rep.ref (w := w') (ρ := updP ρ H.length (some (b, cap))) (H := H ++ [some ⟨ty, k, es⟩]) (ok := fun x => (ok x ∨ (w.heap.size ≤ x ∧ x < w'.heap.size)) ∧ x ≠ b) (id := H.length) (i := 0) (j := 0) (o := ⟨ty, k, es⟩) (b := b) (cap := cap) push_new (by simp [updP]) hcm
  simpa using this

theorem rep_int_list_cell {w : World} {ρ : Places} {H : Heap} {ok : Nat → Prop} {xs : List Int} {v : Value} (r : Rep w ρ H ok v (.list 1 (xs.map fun x => [.sc (.int .i64 x)]))) :
    ∃ A c, v = .slice A xs.length c ∧ ∀ i, i < xs.length → ∃ ad, A = some ad ∧ ok ad.block ∧ ∃ x, x ∈ xs ∧ w.cell? (ad.add i) = some (.int .i64 x) := by
  generalize hes : xs.map (fun x => [AV.sc (.int .i64 x)]) = es at r
  cases r with
  | listNil => simp at hes; subst hes; exact ⟨_, _, rfl, by simp⟩
  | @list ad n c _ _ f hn hnc hok hk hc h1 hr =>
    subst hes
    refine ⟨some ad, c, by simp at hn; rw [hn], fun i hi => ⟨ad, rfl, hok, xs[i], List.getElem_mem hi, ?_⟩⟩
    have he : (xs.map (fun x => [AV.sc (.int .i64 x)]))[i]? = some [.sc (.int .i64 xs[i])] := by simp [List.getElem?_map, List.getElem?_eq_getElem hi]
    have := hr i _ 0 _ he rfl
    have e := rep_sc this
    have h2 := hc i _ 0 _ he rfl
    rw [e] at h2
    simpa using h2

/-- The variable j of the walk's own, at which a source of numbers lies, becomes the source of all that follows. -/
theorem awp_adopt {c : Code} {s : St} {Q : Exit → St → Prop} (j : Nat) {ty : TypeId} {xs : List Int} {at_ : Nat} (hrow : E.row = none) (hsrc : E.src = none) (hW : ∀ b, ¬ E.W b) (ht : s.t j = .ref 0 0 0) (hH : s.H = [some ⟨ty, 2, [[.list 1 (xs.map fun x => [.sc (.int .i64 x)]), .sc (.int .i64 at_)]]⟩])
    (hat : at_ ≤ xs.length) (hl : xs.length ≤ 900) (hx : ∀ x, x ∈ xs → -9223372036854775808 ≤ x ∧ x ≤ 9223372036854775807) (hco : codeOk E.N c = true)
    (h : ∀ (E' : Env) (p : Nat), E'.P = E.P → E'.row = some p → E'.N = E.N → (∀ b, ¬ E'.W b) → awp E' c ⟨upd s.t j (.sc (.pointer (some ⟨p, 0, none⟩))), [none]⟩ Q) : AWp E c s Q := by
  rintro a w ⟨ρ, ok, g, hx0, hd, hs, hr⟩
  have h0 : s.H[0]? = some (some ⟨ty, 2, [[.list 1 (xs.map fun x => [.sc (.int .i64 x)]), .sc (.int .i64 at_)]]⟩) := by rw [hH]; rfl
  have hv := hr j
  rw [ht] at hv
  obtain ⟨o, b, cap, ho, hρ, hcap, hve⟩ : ∃ o b cap, s.H[0]? = some (some o) ∧ ρ 0 = some (b, cap) ∧ cap ≤ maxLen ∧ a.tmps.getD j undef = .pointer (some ⟨b, 0 * o.k + 0, none⟩) := by
    generalize hgen : a.tmps.getD j undef = v at hv
    cases hv with
    | ref ho hρ hcap => exact ⟨_, _, _, ho, hρ, hcap, rfl⟩
    | refDead hd _ => rw [h0] at hd; cases hd
  rw [h0] at ho
  simp only [Option.some.injEq] at ho
  subst ho
  have hobj := g.obj 0 _ h0
  rw [hρ] at hobj
  obtain ⟨hb1, _, hb3⟩ := g.own 0 _ b cap h0 hρ
  have hb3 := hb3.resolve_left (hW b)
  have hblt := hobj.lt
  obtain ⟨cur, c1, c2, c3, c4, c5⟩ := hobj.cells hcap
  obtain ⟨v0, d1, d2, d3⟩ := c5 0 _ 0 _ rfl rfl
  obtain ⟨v1, e1, e2, e3⟩ := c5 0 _ 1 _ rfl rfl
  obtain ⟨A, c', rfl, hA⟩ := rep_int_list_cell d3
  have e3 := rep_sc e3
  subst e3
  let src : Option Nat := if 0 < xs.length then A.map (·.block) else none
  let E' : Env := { P := E.P, w0 := w, okA := ok, row := some b, src := src, N := E.N, W := fun _ => False, ρ0 := ρ, H0 := [none] }
  have hsok : ∀ b', src = some b' → ok b' := fun b' hb' => by
    simp only [src] at hb'
    split at hb'
    · rename_i h0
      obtain ⟨ad, rfl, hk, _⟩ := hA 0 h0
      simp at hb'
      exact hb' ▸ hk
    · cases hb'
  have hS : SrcOk src w b := by
    refine ⟨cur, A, xs.length, c', at_, ty, ⟨c1, by simpa using d1, by simpa using e1⟩, hat, hl, fun i hi => ?_⟩
    obtain ⟨ad, rfl, hk, x, hxm, hc⟩ := hA i hi
    refine ⟨ad, x, rfl, ?_, fun e => hb1 (e ▸ hk), hc, hx x hxm⟩
    simp only [src]
    rw [if_pos (by omega)]
    rfl
  have gE : Good E' w ρ [none] ok := by
    have hlive : ∀ (id : Nat) (o : AObj), ([none] : Heap)[id]? = some (some o) → False := fun id o ho => by
      match id, ho with
      | 0, ho => simp at ho
      | id + 1, ho => simp at ho
    refine ⟨rfl, rfl, rfl, Nat.le_refl _, fun _ _ _ _ => rfl, ⟨hsok, fun p hp => ?_⟩, fun b' hb' => ⟨(g.oks b' hb').1, fun e => ?_, .inl hb'⟩, fun id o _ _ ho _ => (hlive id o ho).elim, fun id o _ _ _ _ _ ho _ _ _ => (hlive id o ho).elim, fun id o ho => (hlive id o ho).elim, fun id o ho => (hlive id o ho).elim⟩
    · cases hp; exact hS
    · simp only [E', Option.some.injEq] at e
      subst e
      exact hb1 hb'
  have hext : Ext w ρ s.H ok w ρ [none] ok := by
    refine ⟨fun id o ho => .inl ?_, fun id ho => ?_, fun _ h => h, fun _ _ => rfl⟩
    · rw [hH] at ho
      match id, ho with
      | 0, ho => rfl
      | id + 1, ho => simp at ho
    · rw [hH] at ho
      match id, ho with
      | 0, ho => simp at ho
      | id + 1, ho => simp at ho
  have rE : Rel E' ⟨upd s.t j (.sc (.pointer (some ⟨b, 0, none⟩))), [none]⟩ a w := by
    refine ⟨ρ, ok, gE, Ext.refl _ _ _ _, hd, hs, fun i => ?_⟩
    simp only [upd]
    split
    · rename_i hi
      subst hi
      rw [hve]
      simp only [Nat.zero_mul, Nat.zero_add]
      exact .sc
    · exact (hr i).ext hext
  refine wp_mono (awp_sound (E := E') c _ Q hco (h E' b rfl rfl rfl (fun _ h => h)) a w rE) fun e a' w' h' => ?_
  obtain ⟨s', hq, ρ', ok', g', hx', hd', hs', hr'⟩ := h'
  refine ⟨s', hq, ρ', ok', ⟨g'.os.trans g.os, g'.tape.trans g.tape, g'.output.trans g.output, Nat.le_trans g.size g'.size, fun b' hb' hW' hr' => ?_, ⟨fun b' hb' => (by rw [hsrc] at hb'; cases hb'), fun p hp => (by rw [hrow] at hp; cases hp)⟩, fun b' hb' => ?_, fun id o b' c ho hρ => ?_, g'.inj, g'.len, g'.obj⟩, (hx0.trans hext).trans hx', hd', hs', hr'⟩
  · refine (g'.blk b' (Nat.lt_of_lt_of_le hb' g.size) (fun h => h) (fun e => ?_)).trans (g.blk b' hb' hW' hr')
    simp only [E', Option.some.injEq] at e
    omega
  · obtain ⟨x1, x2, x3⟩ := g'.oks b' hb'
    refine ⟨x1, by rw [hrow]; simp, ?_⟩
    rcases x3 with x3 | x3
    · exact (g.oks b' x3).2.2
    · exact .inr (Nat.le_trans g.size x3)
  · obtain ⟨x1, x2, x3⟩ := g'.own id o b' c ho hρ
    exact ⟨x1, by rw [hrow]; simp, .inr (Nat.le_trans g.size (x3.resolve_left (fun h => h)))⟩

/-- The same, where other objects are the walk's own already: they stay so. -/
theorem awp_adoptG {c : Code} {s : St} {Q : Exit → St → Prop} (j id0 : Nat) {ty : TypeId} {xs : List Int} {at_ : Nat} (hrow : E.row = none) (hsrc : E.src = none) (ht : s.t j = .ref id0 0 0) (h0 : s.H[id0]? = some (some ⟨ty, 2, [[.list 1 (xs.map fun x => [.sc (.int .i64 x)]), .sc (.int .i64 at_)]]⟩))
    (hat : at_ ≤ xs.length) (hl : xs.length ≤ 900) (hx : ∀ x, x ∈ xs → -9223372036854775808 ≤ x ∧ x ≤ 9223372036854775807) (hco : codeOk E.N c = true)
    (h : ∀ (E' : Env) (p : Nat), E'.P = E.P → E'.row = some p → E'.N = E.N → awp E' c ⟨upd s.t j (.sc (.pointer (some ⟨p, 0, none⟩))), s.H.set id0 none⟩ Q) : AWp E c s Q := by
  rintro a w ⟨ρ, ok, g, hx0, hd, hs, hr⟩
  have hv := hr j
  rw [ht] at hv
  obtain ⟨o, b, cap, ho, hρ, hcap, hve⟩ : ∃ o b cap, s.H[id0]? = some (some o) ∧ ρ id0 = some (b, cap) ∧ cap ≤ maxLen ∧ a.tmps.getD j undef = .pointer (some ⟨b, 0 * o.k + 0, none⟩) := by
    generalize hgen : a.tmps.getD j undef = v at hv
    cases hv with
    | ref ho hρ hcap => exact ⟨_, _, _, ho, hρ, hcap, rfl⟩
    | refDead hd _ => rw [h0] at hd; cases hd
  rw [h0] at ho
  simp only [Option.some.injEq] at ho
  subst ho
  have hobj := g.obj id0 _ h0
  rw [hρ] at hobj
  obtain ⟨hb1, _, hb3⟩ := g.own id0 _ b cap h0 hρ
  have hblt := hobj.lt
  obtain ⟨cur, c1, c2, c3, c4, c5⟩ := hobj.cells hcap
  obtain ⟨v0, d1, d2, d3⟩ := c5 0 _ 0 _ rfl rfl
  obtain ⟨v1, e1, e2, e3⟩ := c5 0 _ 1 _ rfl rfl
  obtain ⟨A, c', rfl, hA⟩ := rep_int_list_cell d3
  have e3 := rep_sc e3
  subst e3
  have hlt0 : id0 < s.H.length := (List.getElem?_eq_some_iff.1 h0).1
  have old : ∀ (id : Nat) (o : AObj), (s.H.set id0 none)[id]? = some (some o) → ¬ id0 = id ∧ s.H[id]? = some (some o) := fun id o ho => by
    rw [List.getElem?_set] at ho
    split at ho
    · rename_i he
      first | (cases ho; done) | (split at ho <;> cases ho)
    · rename_i he
      exact ⟨he, ho⟩
  let src : Option Nat := if 0 < xs.length then A.map (·.block) else none
  let E' : Env := { P := E.P, w0 := w, okA := ok, row := some b, src := src, N := E.N, W := fun b' => ∃ id o c, (s.H.set id0 none)[id]? = some (some o) ∧ ρ id = some (b', c), ρ0 := ρ, H0 := s.H.set id0 none }
  have hsok : ∀ b', src = some b' → ok b' := fun b' hb' => by
    simp only [src] at hb'
    split at hb'
    · rename_i h0
      obtain ⟨ad, rfl, hk, _⟩ := hA 0 h0
      simp at hb'
      exact hb' ▸ hk
    · cases hb'
  have hS : SrcOk src w b := by
    refine ⟨cur, A, xs.length, c', at_, ty, ⟨c1, by simpa using d1, by simpa using e1⟩, hat, hl, fun i hi => ?_⟩
    obtain ⟨ad, rfl, hk, x, hxm, hc⟩ := hA i hi
    refine ⟨ad, x, rfl, ?_, fun e => hb1 (e ▸ hk), hc, hx x hxm⟩
    simp only [src]
    rw [if_pos (by omega)]
    rfl
  have hext : Ext w ρ s.H ok w ρ (s.H.set id0 none) ok := by
    refine ⟨fun id o ho => ?_, fun id ho => ?_, fun _ h => h, fun _ _ => rfl⟩
    · by_cases he : id0 = id
      · subst he
        exact .inl (List.getElem?_set_self hlt0)
      · exact .inr ⟨o, by rw [List.getElem?_set_ne he]; exact ho, rfl, rfl, Nat.le_refl _⟩
    · by_cases he : id0 = id
      · subst he
        exact List.getElem?_set_self hlt0
      · rw [List.getElem?_set_ne he]; exact ho
  have gE : Good E' w ρ (s.H.set id0 none) ok := by
    refine ⟨rfl, rfl, rfl, Nat.le_refl _, fun _ _ _ _ => rfl, ⟨hsok, fun p hp => ?_⟩, fun b' hb' => ⟨(g.oks b' hb').1, fun e => ?_, .inl hb'⟩, fun id o b' c ho hρ' => ?_, fun id o b' c id' o' c' ho hρ1 ho' hρ2 => ?_, fun id o ho => g.len id o (old id o ho).2, fun id o ho => ?_⟩
    · cases hp; exact hS
    · simp only [E', Option.some.injEq] at e
      subst e
      exact hb1 hb'
    · obtain ⟨hne, ho1⟩ := old id o ho
      refine ⟨(g.own id o b' c ho1 hρ').1, fun e => ?_, .inl ⟨id, o, c, ho, hρ'⟩⟩
      simp only [E', Option.some.injEq] at e
      subst e
      exact hne (g.inj id0 _ b' cap id o c h0 hρ ho1 hρ')
    · exact g.inj id o b' c id' o' c' (old id o ho).2 hρ1 (old id' o' ho').2 hρ2
    · exact (g.obj id o (old id o ho).2).ext hext (fun _ _ _ => rfl)
  have rE : Rel E' ⟨upd s.t j (.sc (.pointer (some ⟨b, 0, none⟩))), s.H.set id0 none⟩ a w := by
    refine ⟨ρ, ok, gE, Ext.refl _ _ _ _, hd, hs, fun i => ?_⟩
    simp only [upd]
    split
    · rename_i hi
      subst hi
      rw [hve]
      simp only [Nat.zero_mul, Nat.zero_add]
      exact .sc
    · exact (hr i).ext hext
  have wold : ∀ b', E'.W b' → E.W b' ∨ E.w0.heap.size ≤ b' := fun b' ⟨id, o, c, ho, hρ'⟩ => (g.own id o b' c (old id o ho).2 hρ').2.2
  refine wp_mono (awp_sound (E := E') c _ Q hco (h E' b rfl rfl rfl) a w rE) fun e a' w' h' => ?_
  obtain ⟨s', hq, ρ', ok', g', hx', hd', hs', hr'⟩ := h'
  refine ⟨s', hq, ρ', ok', ⟨g'.os.trans g.os, g'.tape.trans g.tape, g'.output.trans g.output, Nat.le_trans g.size g'.size, fun b' hb' hW' hr' => ?_, ⟨fun b' hb' => (by rw [hsrc] at hb'; cases hb'), fun p hp => (by rw [hrow] at hp; cases hp)⟩, fun b' hb' => ?_, fun id o b' c ho hρ => ?_, g'.inj, g'.len, g'.obj⟩, (hx0.trans hext).trans hx', hd', hs', hr'⟩
  · refine (g'.blk b' (Nat.lt_of_lt_of_le hb' g.size) (fun h => ?_) (fun e => ?_)).trans (g.blk b' hb' hW' hr')
    · rcases wold b' h with h | h
      · exact hW' h
      · omega
    · simp only [E', Option.some.injEq] at e
      subst e
      rcases hb3 with h | h
      · exact hW' h
      · omega
  · obtain ⟨x1, x2, x3⟩ := g'.oks b' hb'
    refine ⟨x1, by rw [hrow]; simp, ?_⟩
    rcases x3 with x3 | x3
    · exact (g.oks b' x3).2.2
    · exact .inr (Nat.le_trans g.size x3)
  · obtain ⟨x1, x2, x3⟩ := g'.own id o b' c ho hρ
    refine ⟨x1, by rw [hrow]; simp, ?_⟩
    rcases x3 with x3 | x3
    · exact wold b' x3
    · exact .inr (Nat.le_trans g.size x3)

/-- A walk cut behind its first part. -/
theorem awp_cut {a b : Code} {s : St} {Q : Exit → St → Prop} (hc : codeOk E.N a = true) (h : awp E a s (Athen (fun s' => AWp E b s' Q) Q)) : AWp E (.seq a b) s Q := by
  intro x w r
  refine wp_seq (wp_mono (awp_sound a s _ hc h x w r) fun e a' w' h' => ?_)
  obtain ⟨s', h1, h2⟩ := h'
  cases e with
  | normal => exact h1 a' w' h2
  | _ => exact ⟨s', h1, h2⟩
end

/-- 'pfun_intro', for a walk that is cut. -/
theorem pfun_introA {P : Program} {row src : Option Nat} {f : FuncId} {args : List AV} {Q : AV → Prop} {fn : Func} {body : Code}
    (hf : P.funcs[f]? = some fn) (hb : fn.body = some body) (hn : args.length ≤ fn.ntmps)
    (h : ∀ E : Env, E.P = P → E.row = row → E.src = src → (∀ b, ¬ E.W b) → E.N = fn.ntmps → AWp E body ⟨initT args, []⟩ (ARet P fn.results.toList Q)) : PFun P row src f args Q := by
  have key : ∀ E : Env, E.P = P → E.row = row → E.src = src → (∀ b, ¬ E.W b) → E.N = fn.ntmps → AWp E body ⟨initT args, []⟩ (ARet P fn.results.toList Q) := h
  exact pfun_of_AWp hf hb hn key

end Go.PA
