/- Several texts of this claim, joined: PaC Types. -/
import Derived.Test.YtpllcolbcahicaaGreatDoorPk2
set_option linter.unusedSimpArgs false
set_option linter.unusedVariables false
namespace Go.PA
open Go.RowKit
def POwn (P : Program) (row src : Option Nat) (f : FuncId) (args : List AV) (ty : TypeId) (k : Nat) (Q : List (List AV) → Prop) : Prop :=
  ∀ (w : World) (ok : Nat → Prop) (vs : Array Value), (∀ b, ok b → b < w.heap.size ∧ some b ≠ row) → Inv row src ok w → vs.size = args.length → (∀ (i : Nat) (v : Value) (a : AV), vs[i]? = some v → args[i]? = some a → RepI w ok v a) →
    Calls P f vs w fun e w' => ∃ (b cap : Nat) (es : List (List AV)), e = .returned (.pointer (some ⟨b, 0, none⟩)) ∧ Q es ∧ w.heap.size ≤ b ∧ b < w'.heap.size ∧ (∀ e, e ∈ es → e.length = k) ∧
      CellsOk w' (fun _ => none) [] (fun x => (ok x ∨ (w.heap.size ≤ x ∧ x < w'.heap.size)) ∧ x ≠ b) ⟨ty, k, es⟩ b cap ∧ (∀ e, e ∈ es → ∀ a, a ∈ e → Imm a) ∧ w.grownBy w' row ∧ Inv row src ok w'
def AOwn (P : Program) (rs : List ResultVar) (ty : TypeId) (k : Nat) (Q : List (List AV) → Prop) : Exit → St → Prop
  | .normal, s | .ret, s => ∃ id es, ares P s rs = some (.ref id 0 0) ∧ s.H[id]? = some (some ⟨ty, k, es⟩) ∧ (∀ e, e ∈ es → ∀ a, a ∈ e → Imm a) ∧ Q es
  | _, _ => False
theorem pown_intro {P : Program} {row src : Option Nat} {f : FuncId} {args : List AV} {ty : TypeId} {k : Nat} {Q : List (List AV) → Prop} {fn : Func} {body : Code}
    (hf : P.funcs[f]? = some fn) (hb : fn.body = some body) (hn : args.length ≤ fn.ntmps) (hc : codeOk fn.ntmps body = true)
    (h : ∀ E : Env, E.P = P → E.row = row → E.src = src → (∀ b, ¬ E.W b) → E.N = fn.ntmps → awp E body ⟨initT args, []⟩ (AOwn P fn.results.toList ty k Q)) : POwn P row src f args ty k Q := by
  intro w ok vs h1 h2 h3 h4
  let E : Env := { P := P, w0 := w, okA := ok, row := row, src := src, N := fn.ntmps, W := fun _ => False, ρ0 := fun _ => none, H0 := [] }
  have g : Good E w (fun _ => none) [] ok := ⟨rfl, rfl, rfl, Nat.le_refl _, fun _ _ _ _ => rfl, h2, fun b hb => ⟨(h1 b hb).1, (h1 b hb).2, .inl hb⟩, by simp, by simp, by simp, by simp⟩
  have r : Rel E ⟨initT args, []⟩ { tmps := vs ++ Array.replicate (fn.ntmps - vs.size) undef, defers := [] } w := by
    refine ⟨fun _ => none, ok, g, Ext.refl _ _ _ _, rfl, by simp [E]; omega, fun i => ?_⟩
    simp only [initT]
    rcases Nat.lt_or_ge i args.length with hlt | hge
    · have e1 : args.getD i (.sc undef) = args[i] := by simp [List.getD, List.getElem?_eq_getElem hlt]
      have hv : vs[i]? = some (vs[i]'(by omega)) := Array.getElem?_eq_getElem (by omega)
      have e2 : (vs ++ Array.replicate (fn.ntmps - vs.size) undef).getD i undef = vs[i]'(by omega) := by
        rw [Array.getD_eq_getD_getElem?, Array.getElem?_append_left (by omega), hv]
        rfl
      rw [e1, e2]
      exact h4 i _ _ hv (List.getElem?_eq_getElem hlt)
    · have e1 : args.getD i (.sc undef) = .sc undef := by simp [List.getD, List.getElem?_eq_none hge]
      have e2 : (vs ++ Array.replicate (fn.ntmps - vs.size) undef).getD i undef = undef := by
        rw [Array.getD_eq_getD_getElem?, Array.getElem?_append_right (by omega), Array.getElem?_replicate]
        split <;> rfl
      rw [e1, e2]
      exact .sc
  have hw := awp_sound (E := E) body _ _ hc (h E rfl rfl rfl (fun _ h => h) rfl) _ _ r
  refine calls_of_wp hf hb (wp_mono hw fun e a' w' h' => ?_)
  obtain ⟨s', hq, ρ, ok', g', _, hd, _, hr⟩ := h'
  have fin : (∃ id es, ares P s' fn.results.toList = some (.ref id 0 0) ∧ s'.H[id]? = some (some ⟨ty, k, es⟩) ∧ (∀ e, e ∈ es → ∀ a, a ∈ e → Imm a) ∧ Q es) → a'.defers = [] ∧ ∃ v, (results fn a'.tmps).run P w' = .ok v w' ∧
      ∃ (b cap : Nat) (es : List (List AV)), Ending.returned v = .returned (.pointer (some ⟨b, 0, none⟩)) ∧ Q es ∧ w.heap.size ≤ b ∧ b < w'.heap.size ∧ (∀ e, e ∈ es → e.length = k) ∧
      CellsOk w' (fun _ => none) [] (fun x => (ok x ∨ (w.heap.size ≤ x ∧ x < w'.heap.size)) ∧ x ≠ b) ⟨ty, k, es⟩ b cap ∧ (∀ e, e ∈ es → ∀ a, a ∈ e → Imm a) ∧ w.grownBy w' row ∧ Inv row src ok w' := by
    rintro ⟨id, es, hres, ho, hi, hq⟩
    obtain ⟨v, hrun, hrep⟩ := ares_sound (E := E) g' hr hres
    refine ⟨hd, v, hrun, ?_⟩
    cases hrep with
    | refDead hd' _ => rw [ho] at hd'; cases hd'
    | @ref _ _ _ o b cap ho' hρ hcap =>
      rw [ho] at ho'
      simp only [Option.some.injEq] at ho'
      subst ho'
      have hobj := g'.obj id _ ho
      rw [hρ] at hobj
      obtain ⟨a1, a2, a3⟩ := g'.own id _ b cap ho hρ
      have hb1 : w.heap.size ≤ b := a3.resolve_left (fun h => h)
      refine ⟨b, cap, es, by simp, hq, hb1, hobj.lt, g'.len id _ ho, ?_, hi, ⟨g'.os, g'.tape, g'.output, g'.size, fun k hk hne => g'.blk k hk (fun h => h) hne⟩, ⟨h2.1.1, h2.1.2.at g'.inv.1.2⟩, fun p hp => g'.inv.2 p hp⟩
      obtain ⟨cur, c1, c2, c3, c4, c5⟩ := hobj.cells hcap
      refine ⟨cur, c1, c2, c3, c4, fun i e j a he ha => ?_⟩
      obtain ⟨c, d1, d2, d3⟩ := c5 i e j a he ha
      refine ⟨c, d1, d2, d3.imm (fun x hx => ⟨?_, fun e => a1 (e ▸ hx)⟩) (hi e (List.mem_of_getElem? he) a (List.mem_of_getElem? ha))⟩
      obtain ⟨x1, _, x3⟩ := g'.oks x hx
      exact x3.imp (fun h => h) fun h => ⟨h, x1⟩
  cases e with
  | normal => exact fin hq
  | ret => exact fin hq
  | _ => exact hq.elim
section
variable {E : Env}
theorem callB_own {P : Program} {f : FuncId} {args : List AV} {args' : List AV} {H : Heap} {ty : TypeId} {k : Nat} {Q : List (List AV) → Prop} {C : AV → Heap → Prop} {b : Bx C} (h : POwn P E.row E.src f args' ty k Q) (hP : E.P = P) (hen : enterable P f = true) (ha : Args H args args') (hn : ∀ a, a ∈ args → srefs a = [])
    (hex : ∃ es, Q es) (hC : ∀ es, Q es → C (.ref H.length 0 0) (H ++ [some ⟨ty, k, es⟩])) : CallB E f args H C b := by
  subst hP
  obtain ⟨es0, hq0⟩ := hex
  refine .inl ⟨hen, ⟨_, _, hC es0 hq0⟩, fun w ρ ok vs g hs hr => ?_⟩
  have hr' : ∀ (i : Nat) (v : Value) (a : AV), vs[i]? = some v → args'[i]? = some a → RepI w ok v a := fun i v a' hv ha' => by
    obtain ⟨a, h1, h2, h3⟩ := ha.get i a' ha'
    refine ((view_soundX (fun _ => False) g (hr i v a hv h1) h3 (fun id hid => ?_)).weak h2).ext ⟨by simp, by simp, ?_, fun _ _ => rfl⟩
    · rw [hn a (List.mem_of_getElem? h1)] at hid; cases hid
    · rintro b (hb | ⟨_, _, _, hf, _⟩)
      · exact hb
      · exact hf.elim
  refine (h w ok vs (fun b hb => ⟨(g.oks b hb).1, (g.oks b hb).2.1⟩) g.inv (hs.trans ha.len) hr').mono ?_
  rintro e w' ⟨b, cap, es, rfl, hq, hb1, hb2, hlen, hobj, hi, hg, hinv⟩
  obtain ⟨g1, x1⟩ := g.call (ok' := fun x => (ok x ∨ (w.heap.size ≤ x ∧ x < w'.heap.size)) ∧ x ≠ b) hg hinv (fun x hx => ⟨.inl hx, fun e => by have := (g.oks x hx).1; omega⟩) (fun x hx => hx.1)
  have hcm : cap ≤ maxLen := hobj.choose_spec.2.2.2.1
  have hobj' : ObjOk w' ρ H (fun x => (ok x ∨ (w.heap.size ≤ x ∧ x < w'.heap.size)) ∧ x ≠ b) ⟨ty, k, es⟩ (some (b, cap)) := by
    obtain ⟨cur, c1, c2, c3, c4, c5⟩ := hobj
    refine .inl ⟨cur, c1, c2, c3, c4, fun i e j a he ha => ?_⟩
    obtain ⟨c, d1, d2, d3⟩ := c5 i e j a he ha
    exact ⟨c, d1, d2, d3.imm (fun x hx => hx) (hi e (List.mem_of_getElem? he) a (List.mem_of_getElem? ha))⟩
  obtain ⟨g2, x2⟩ := g1.add ⟨ty, k, es⟩ (some (b, cap)) hobj' hlen (fun b' c' h' => by
    simp only [Option.some.injEq, Prod.mk.injEq] at h'
    obtain ⟨rfl, rfl⟩ := h'
    refine ⟨fun hx => hx.2 rfl, fun id o c ho hρ => ?_, fun hrow => ?_, .inr (Nat.le_trans g.size hb1)⟩
    · have := g.obj id o ho
      rw [hρ] at this
      have := this.lt
      omega
    · have := g.row_lt hrow.symm
      omega)
  refine ⟨_, .ref H.length 0 0, H ++ [some ⟨ty, k, es⟩], _, _, rfl, hC es hq, g2, x1.trans x2, ?_⟩
  have := Rep.ref (w := w') (ρ := updP ρ H.length (some (b, cap))) (H := H ++ [some ⟨ty, k, es⟩]) (ok := fun x => (ok x ∨ (w.heap.size ≤ x ∧ x < w'.heap.size)) ∧ x ≠ b) (id := H.length) (i := 0) (j := 0) (o := ⟨ty, k, es⟩) (b := b) (cap := cap) push_new (by simp [updP]) hcm
  simpa using this
theorem rep_int_list_cell {w : World} {ρ : Places} {H : Heap} {ok : Nat → Prop} {xs : List Int} {v : Value} (r : Rep w ρ H ok v (.list 1 (xs.map fun x => [.sc (.int .i64 x)]))) :
    ∃ A c, v = .slice A xs.length c ∧ ∀ i, i < xs.length → ∃ ad, A = some ad ∧ ok ad.block ∧ ∃ x, x ∈ xs ∧ w.cell? (ad.add i) = some (.int .i64 x) := by
  generalize hes : xs.map (fun x => [AV.sc (.int .i64 x)]) = es at r
  cases r with
  | listNil => simp at hes; subst hes; exact ⟨_, _, rfl, by simp⟩
  | @list ad n c _ _ f hn hnc hok hk hc h1 hr =>
    subst hes
    refine ⟨some ad, c, by simp at hn; rw [hn], fun i hi => ⟨ad, rfl, hok, xs[i], List.getElem_mem hi, ?_⟩⟩
    have he : (xs.map (fun x => [AV.sc (.int .i64 x)]))[i]? = some [.sc (.int .i64 xs[i])] := by simp [List.getElem?_map, List.getElem?_eq_getElem hi]
    have := hr i _ 0 _ he rfl
    have e := rep_sc this
    have h2 := hc i _ 0 _ he rfl
    rw [e] at h2
    simpa using h2
theorem awp_adopt {c : Code} {s : St} {Q : Exit → St → Prop} (j : Nat) {ty : TypeId} {xs : List Int} {at_ : Nat} (hrow : E.row = none) (hsrc : E.src = none) (hW : ∀ b, ¬ E.W b) (ht : s.t j = .ref 0 0 0) (hH : s.H = [some ⟨ty, 2, [[.list 1 (xs.map fun x => [.sc (.int .i64 x)]), .sc (.int .i64 at_)]]⟩])
    (hat : at_ ≤ xs.length) (hl : xs.length ≤ 900) (hx : ∀ x, x ∈ xs → -9223372036854775808 ≤ x ∧ x ≤ 9223372036854775807) (hco : codeOk E.N c = true)
    (h : ∀ (E' : Env) (p : Nat), E'.P = E.P → E'.row = some p → E'.N = E.N → (∀ b, ¬ E'.W b) → awp E' c ⟨upd s.t j (.sc (.pointer (some ⟨p, 0, none⟩))), [none]⟩ Q) : AWp E c s Q := by
  rintro a w ⟨ρ, ok, g, hx0, hd, hs, hr⟩
  have h0 : s.H[0]? = some (some ⟨ty, 2, [[.list 1 (xs.map fun x => [.sc (.int .i64 x)]), .sc (.int .i64 at_)]]⟩) := by rw [hH]; rfl
  have hv := hr j
  rw [ht] at hv
  obtain ⟨o, b, cap, ho, hρ, hcap, hve⟩ : ∃ o b cap, s.H[0]? = some (some o) ∧ ρ 0 = some (b, cap) ∧ cap ≤ maxLen ∧ a.tmps.getD j undef = .pointer (some ⟨b, 0 * o.k + 0, none⟩) := by
    generalize hgen : a.tmps.getD j undef = v at hv
    cases hv with
    | ref ho hρ hcap => exact ⟨_, _, _, ho, hρ, hcap, rfl⟩
    | refDead hd _ => rw [h0] at hd; cases hd
  rw [h0] at ho
  simp only [Option.some.injEq] at ho
  subst ho
  have hobj := g.obj 0 _ h0
  rw [hρ] at hobj
  obtain ⟨hb1, _, hb3⟩ := g.own 0 _ b cap h0 hρ
  have hb3 := hb3.resolve_left (hW b)
  have hblt := hobj.lt
  obtain ⟨cur, c1, c2, c3, c4, c5⟩ := hobj.cells hcap
  obtain ⟨v0, d1, d2, d3⟩ := c5 0 _ 0 _ rfl rfl
  obtain ⟨v1, e1, e2, e3⟩ := c5 0 _ 1 _ rfl rfl
  obtain ⟨A, c', rfl, hA⟩ := rep_int_list_cell d3
  have e3 := rep_sc e3
  subst e3
  let src : Option Nat := if 0 < xs.length then A.map (·.block) else none
  let E' : Env := { P := E.P, w0 := w, okA := ok, row := some b, src := src, N := E.N, W := fun _ => False, ρ0 := ρ, H0 := [none] }
  have hsok : ∀ b', src = some b' → ok b' := fun b' hb' => by
    simp only [src] at hb'
    split at hb'
    · rename_i h0
      obtain ⟨ad, rfl, hk, _⟩ := hA 0 h0
      simp at hb'
      exact hb' ▸ hk
    · cases hb'
  have hS : SrcOk src w b := by
    refine ⟨cur, A, xs.length, c', at_, ty, ⟨c1, by simpa using d1, by simpa using e1⟩, hat, hl, fun i hi => ?_⟩
    obtain ⟨ad, rfl, hk, x, hxm, hc⟩ := hA i hi
    refine ⟨ad, x, rfl, ?_, fun e => hb1 (e ▸ hk), hc, hx x hxm⟩
    simp only [src]
    rw [if_pos (by omega)]
    rfl
  have gE : Good E' w ρ [none] ok := by
    have hlive : ∀ (id : Nat) (o : AObj), ([none] : Heap)[id]? = some (some o) → False := fun id o ho => by
      match id, ho with
      | 0, ho => simp at ho
      | id + 1, ho => simp at ho
    refine ⟨rfl, rfl, rfl, Nat.le_refl _, fun _ _ _ _ => rfl, ⟨⟨hsok, g.inv.1.2⟩, fun p hp => ?_⟩, fun b' hb' => ⟨(g.oks b' hb').1, fun e => ?_, .inl hb'⟩, fun id o _ _ ho _ => (hlive id o ho).elim, fun id o _ _ _ _ _ ho _ _ _ => (hlive id o ho).elim, fun id o ho => (hlive id o ho).elim, fun id o ho => (hlive id o ho).elim⟩
    · cases hp; exact hS
    · simp only [E', Option.some.injEq] at e
      subst e
      exact hb1 hb'
  have hext : Ext w ρ s.H ok w ρ [none] ok := by
    refine ⟨fun id o ho => .inl ?_, fun id ho => ?_, fun _ h => h, fun _ _ => rfl⟩
    · rw [hH] at ho
      match id, ho with
      | 0, ho => rfl
      | id + 1, ho => simp at ho
    · rw [hH] at ho
      match id, ho with
      | 0, ho => simp at ho
      | id + 1, ho => simp at ho
  have rE : Rel E' ⟨upd s.t j (.sc (.pointer (some ⟨b, 0, none⟩))), [none]⟩ a w := by
    refine ⟨ρ, ok, gE, Ext.refl _ _ _ _, hd, hs, fun i => ?_⟩
    simp only [upd]
    split
    · rename_i hi
      subst hi
      rw [hve]
      simp only [Nat.zero_mul, Nat.zero_add]
      exact .sc
    · exact (hr i).ext hext
  refine wp_mono (awp_sound (E := E') c _ Q hco (h E' b rfl rfl rfl (fun _ h => h)) a w rE) fun e a' w' h' => ?_
  obtain ⟨s', hq, ρ', ok', g', hx', hd', hs', hr'⟩ := h'
  refine ⟨s', hq, ρ', ok', ⟨g'.os.trans g.os, g'.tape.trans g.tape, g'.output.trans g.output, Nat.le_trans g.size g'.size, fun b' hb' hW' hr' => ?_, ⟨⟨fun b' hb' => (by rw [hsrc] at hb'; cases hb'), g'.inv.1.2⟩, fun p hp => (by rw [hrow] at hp; cases hp)⟩, fun b' hb' => ?_, fun id o b' c ho hρ => ?_, g'.inj, g'.len, g'.obj⟩, (hx0.trans hext).trans hx', hd', hs', hr'⟩
  · refine (g'.blk b' (Nat.lt_of_lt_of_le hb' g.size) (fun h => h) (fun e => ?_)).trans (g.blk b' hb' hW' hr')
    simp only [E', Option.some.injEq] at e
    omega
  · obtain ⟨x1, x2, x3⟩ := g'.oks b' hb'
    refine ⟨x1, by rw [hrow]; simp, ?_⟩
    rcases x3 with x3 | x3
    · exact (g.oks b' x3).2.2
    · exact .inr (Nat.le_trans g.size x3)
  · obtain ⟨x1, x2, x3⟩ := g'.own id o b' c ho hρ
    exact ⟨x1, by rw [hrow]; simp, .inr (Nat.le_trans g.size (x3.resolve_left (fun h => h)))⟩
theorem awp_cut {a b : Code} {s : St} {Q : Exit → St → Prop} (hc : codeOk E.N a = true) (h : awp E a s (Athen (fun s' => AWp E b s' Q) Q)) : AWp E (.seq a b) s Q := by
  intro x w r
  refine wp_seq (wp_mono (awp_sound a s _ hc h x w r) fun e a' w' h' => ?_)
  obtain ⟨s', h1, h2⟩ := h'
  cases e with
  | normal => exact h1 a' w' h2
  | _ => exact ⟨s', h1, h2⟩
end
theorem pfun_introA {P : Program} {row src : Option Nat} {f : FuncId} {args : List AV} {Q : AV → Prop} {fn : Func} {body : Code}
    (hf : P.funcs[f]? = some fn) (hb : fn.body = some body) (hn : args.length ≤ fn.ntmps)
    (h : ∀ E : Env, E.P = P → E.row = row → E.src = src → (∀ b, ¬ E.W b) → E.N = fn.ntmps → AWp E body ⟨initT args, []⟩ (ARet P fn.results.toList Q)) : PFun P row src f args Q := by
  have key : ∀ E : Env, E.P = P → E.row = row → E.src = src → (∀ b, ¬ E.W b) → E.N = fn.ntmps → AWp E body ⟨initT args, []⟩ (ARet P fn.results.toList Q) := h
  exact pfun_of_AWp hf hb hn key
open Go.RowKit
def AM (P : Program) (rs : List ResultVar) (C : AV → Heap → Prop) : Exit → St → Prop
  | .normal, s | .ret, s => match ares P s rs with
    | some r => C r s.H
    | none => False
  | _, _ => False
def MFun (P : Program) (row src : Option Nat) (f : FuncId) (args : List AV) (H : Heap) (C : AV → Heap → Prop) : Prop :=
  ∀ E : Env, E.P = P → E.row = row → E.src = src → ACall E f args H C
theorem MFun.mono {P : Program} {row src : Option Nat} {f : FuncId} {args : List AV} {H : Heap} {C D : AV → Heap → Prop} (h : MFun P row src f args H C) (hd : ∀ x H', C x H' → D x H') : MFun P row src f args H D :=
  fun E h1 h2 h3 => (h E h1 h2 h3).mono hd
theorem mfun_of_AWp {P : Program} {row src : Option Nat} {f : FuncId} {args : List AV} {H : Heap} {C : AV → Heap → Prop} {fn : Func} {body : Code}
    (hf : P.funcs[f]? = some fn) (hb : fn.body = some body) (hn : args.length ≤ fn.ntmps) (hex : ∃ x H', C x H')
    (h : ∀ E : Env, E.P = P → E.row = row → E.src = src → E.N = fn.ntmps → AWp E body ⟨initT args, H⟩ (AM P fn.results.toList C)) : MFun P row src f args H C := by
  intro E hP hrow hsrc
  refine ⟨hex, fun w ρ ok vs g hsz hrep => ?_⟩
  subst hP; subst hrow; subst hsrc
  let E' : Env := { P := E.P, w0 := w, okA := ok, row := E.row, src := E.src, N := fn.ntmps, W := fun b => ∃ id o c, H[id]? = some (some o) ∧ ρ id = some (b, c), ρ0 := ρ, H0 := H }
  have gE : Good E' w ρ H ok := ⟨rfl, rfl, rfl, Nat.le_refl _, fun _ _ _ _ => rfl, g.inv, fun b hb => ⟨(g.oks b hb).1, (g.oks b hb).2.1, .inl hb⟩, fun id o b c ho hρ => ⟨(g.own id o b c ho hρ).1, (g.own id o b c ho hρ).2.1, .inl ⟨id, o, c, ho, hρ⟩⟩, g.inj, g.len, g.obj⟩
  have r : Rel E' ⟨initT args, H⟩ { tmps := vs ++ Array.replicate (fn.ntmps - vs.size) undef, defers := [] } w := by
    refine ⟨ρ, ok, gE, Ext.refl _ _ _ _, rfl, by simp [E']; omega, fun i => ?_⟩
    simp only [initT]
    rcases Nat.lt_or_ge i args.length with hlt | hge
    · have e1 : args.getD i (.sc undef) = args[i] := by simp [List.getD, List.getElem?_eq_getElem hlt]
      have hv : vs[i]? = some (vs[i]'(by omega)) := Array.getElem?_eq_getElem (by omega)
      have e2 : (vs ++ Array.replicate (fn.ntmps - vs.size) undef).getD i undef = vs[i]'(by omega) := by
        rw [Array.getD_eq_getD_getElem?, Array.getElem?_append_left (by omega), hv]
        rfl
      rw [e1, e2]
      exact hrep i _ _ hv (List.getElem?_eq_getElem hlt)
    · have e1 : args.getD i (.sc undef) = .sc undef := by simp [List.getD, List.getElem?_eq_none hge]
      have e2 : (vs ++ Array.replicate (fn.ntmps - vs.size) undef).getD i undef = undef := by
        rw [Array.getD_eq_getD_getElem?, Array.getElem?_append_right (by omega), Array.getElem?_replicate]
        split <;> rfl
      rw [e1, e2]
      exact .sc
  refine calls_of_wp hf hb (wp_mono (h E' rfl rfl rfl rfl _ _ r) fun e a' w' h' => ?_)
  obtain ⟨s', hq, ρ', ok', g', hx', hd, _, hr⟩ := h'
  have gF : Good E w' ρ' s'.H ok' := by
    have hnW : ∀ b, b < E.w0.heap.size → ¬ E.W b → ¬ E'.W b := fun b hb hW ⟨id, o, c, ho, hρ⟩ => by
      rcases (g.own id o b c ho hρ).2.2 with h | h
      · exact hW h
      · omega
    refine ⟨g'.os.trans g.os, g'.tape.trans g.tape, g'.output.trans g.output, Nat.le_trans g.size g'.size, fun b hb hW hr' => (g'.blk b (Nat.lt_of_lt_of_le hb g.size) (hnW b hb hW) hr').trans (g.blk b hb hW hr'), g'.inv, fun b hb => ?_, fun id o b c ho hρ => ?_, g'.inj, g'.len, g'.obj⟩
    · obtain ⟨x1, x2, x3⟩ := g'.oks b hb
      refine ⟨x1, x2, ?_⟩
      rcases x3 with x3 | x3
      · exact (g.oks b x3).2.2
      · exact .inr (Nat.le_trans g.size x3)
    · obtain ⟨x1, x2, x3⟩ := g'.own id o b c ho hρ
      refine ⟨x1, x2, ?_⟩
      rcases x3 with ⟨id', o', c', ho', hρ'⟩ | x3
      · exact (g.own id' o' b c' ho' hρ').2.2
      · exact .inr (Nat.le_trans g.size x3)
  have fin : ∀ {r : AV}, ares E.P s' fn.results.toList = some r → C r s'.H → a'.defers = [] ∧ ∃ v, (results fn a'.tmps).run E.P w' = .ok v w' ∧
      ∃ (v' : Value) (x : AV) (H' : Heap) (ρ' : Places) (ok' : Nat → Prop), Ending.returned v = .returned v' ∧ C x H' ∧ Good E w' ρ' H' ok' ∧ Ext w ρ H ok w' ρ' H' ok' ∧ Rep w' ρ' H' ok' v' x := by
    intro r hres hc
    obtain ⟨v, hrun, hrep'⟩ := ares_sound (E := E) gF hr hres
    exact ⟨hd, v, hrun, v, r, s'.H, ρ', ok', rfl, hc, gF, hx', hrep'⟩
  cases e with
  | normal =>
    simp only [AM] at hq
    split at hq
    · rename_i r hres; exact fin hres hq
    · exact hq.elim
  | ret =>
    simp only [AM] at hq
    split at hq
    · rename_i r hres; exact fin hres hq
    · exact hq.elim
  | _ => exact hq.elim
theorem mfun_intro {P : Program} {row src : Option Nat} {f : FuncId} {args : List AV} {H : Heap} {C : AV → Heap → Prop} {fn : Func} {body : Code}
    (hf : P.funcs[f]? = some fn) (hb : fn.body = some body) (hn : args.length ≤ fn.ntmps) (hc : codeOk fn.ntmps body = true) (hex : ∃ x H', C x H')
    (h : ∀ E : Env, E.P = P → E.row = row → E.src = src → E.N = fn.ntmps → awp E body ⟨initT args, H⟩ (AM P fn.results.toList C)) : MFun P row src f args H C :=
  mfun_of_AWp hf hb hn hex fun E h1 h2 h3 h5 => awp_sound body _ _ (h5 ▸ hc) (h E h1 h2 h3 h5)
theorem am_ret {P : Program} {rs : List ResultVar} {C : AV → Heap → Prop} {s : St} : AM P rs C .ret s = OB (ares P s rs) (fun r => C r s.H) .mk := by
  simp only [AM]
  cases ares P s rs <;> rfl
theorem am_normal {P : Program} {rs : List ResultVar} {C : AV → Heap → Prop} {s : St} : AM P rs C .normal s = OB (ares P s rs) (fun r => C r s.H) .mk := by
  simp only [AM]
  cases ares P s rs <;> rfl
attribute [go_sem ↓] am_ret am_normal
theorem callB_m {E : Env} {f : FuncId} {args : List AV} {H : Heap} {C C' : AV → Heap → Prop} {b : Bx C} {P : Program} (h : MFun P E.row E.src f args H C') (hP : E.P = P) (hen : enterable P f = true) (hC : ∀ r H', C' r H' → C r H') : CallB E f args H C b :=
  .inl ⟨hP ▸ hen, (h E hP rfl rfl).mono hC⟩
def Kept (X : List Nat) (H H' : Heap) : Prop := ∀ j o, j ∉ X → H[j]? = some (some o) → H'[j]? = some (some o)
theorem kept_refl (X : List Nat) (H : Heap) : Kept X H H := fun _ _ _ h => h
theorem Kept.trans {X : List Nat} {H H' H'' : Heap} (h : Kept X H H') (k : Kept X H' H'') : Kept X H H'' := fun j o hj ho => k j o hj (h j o hj ho)
theorem kept_push {X : List Nat} {H H' : Heap} (x : Option AObj) (h : Kept X H H') : Kept X H (H' ++ [x]) := fun j o hj ho => by
  have := h j o hj ho
  rw [List.getElem?_append_left (List.getElem?_eq_some_iff.1 this).1]
  exact this
theorem kept_app (X : List Nat) (H l : Heap) : Kept X H (H ++ l) := fun j o _ ho => by
  rw [List.getElem?_append_left (List.getElem?_eq_some_iff.1 ho).1]
  exact ho
theorem kept_set {X : List Nat} {H H' : Heap} {i : Nat} (x : Option AObj) (hi : i ∈ X) (h : Kept X H H') : Kept X H (H'.set i x) := fun j o hj ho => by
  rw [List.getElem?_set_ne (by rintro rfl; exact hj hi)]
  exact h j o hj ho
theorem kept_new {X : List Nat} {H H' : Heap} {i : Nat} (x : Option AObj) (hi : H.length ≤ i) (h : Kept X H H') : Kept X H (H'.set i x) := fun j o hj ho => by
  have := (List.getElem?_eq_some_iff.1 ho).1
  rw [List.getElem?_set_ne (by omega)]
  exact h j o hj ho
theorem Kept.mono {X Y : List Nat} {H H' : Heap} (h : Kept X H H') (hs : ∀ x, x ∈ X → x ∈ Y) : Kept Y H H' := fun j o hj ho => h j o (fun hx => hj (hs _ hx)) ho
theorem mfun_list_nil {P : Program} {row src : Option Nat} {f : FuncId} {args : List AV} {k : Nat} {H : Heap} {C : AV → Heap → Prop} (h : ∀ A c, MFun P row src f (.sc (.slice A 0 c) :: args) H C) : MFun P row src f (.list k [] :: args) H C := by
  intro E hP hrow hsrc
  refine ⟨(h none 0 E hP hrow hsrc).1, fun w ρ ok vs g hs hr => ?_⟩
  have h0 : 0 < vs.size := by rw [hs]; simp
  have hv := hr 0 vs[0] (.list k []) (Array.getElem?_eq_getElem h0) rfl
  have key : ∃ A c, vs[0] = .slice A 0 c := by
    generalize vs[0] = v at hv
    cases hv with
    | listNil => exact ⟨_, _, rfl⟩
    | list f hn _ _ _ _ _ _ => subst hn; exact ⟨_, _, rfl⟩
  obtain ⟨A, c, hA⟩ := key
  refine (h A c E hP hrow hsrc).2 w ρ ok vs g hs fun i v a hv ha => ?_
  match i, hv, ha with
  | 0, hv, ha =>
    rw [Array.getElem?_eq_getElem h0, hA] at hv
    simp at hv ha
    subst hv; subst ha
    exact .sc
  | i + 1, hv, ha => exact hr (i + 1) v a hv ha
theorem MFun.ownNil {P : Program} {row src : Option Nat} {f : FuncId} {args : List AV} {H : Heap} {C : AV → Heap → Prop} (ty : TypeId) (k : Nat) (h : MFun P row src f args H C) :
    MFun P row src f args H (fun r H' => (∃ H0, C .nil H0 ∧ r = .sref H0.length 0 0 ∧ H' = H0 ++ [some ⟨ty, k, []⟩]) ∨ (r ≠ .nil ∧ C r H')) := by
  intro E hP hrow hsrc
  obtain ⟨⟨x0, H0, h0⟩, hw⟩ := h E hP hrow hsrc
  refine ⟨?_, fun w ρ ok vs g hs hr => (hw w ρ ok vs g hs hr).mono ?_⟩
  · by_cases hx : x0 = .nil
    · subst hx; exact ⟨_, _, .inl ⟨H0, h0, rfl, rfl⟩⟩
    · exact ⟨_, _, .inr ⟨hx, h0⟩⟩
  · rintro e w' ⟨v, x, H', ρ', ok', rfl, hc, g', x', r'⟩
    by_cases hx : x = .nil
    · subst hx
      obtain ⟨g2, x2⟩ := g'.add ⟨ty, k, []⟩ none rfl (by simp) (by simp)
      refine ⟨v, _, _, _, _, rfl, .inl ⟨H', hc, rfl, rfl⟩, g2, x'.trans x2, ?_⟩
      cases r'
      exact .srefNil push_new (by simp [updP])
    · exact ⟨v, x, H', ρ', ok', rfl, .inr ⟨hx, hc⟩, g', x', r'⟩
def SlIs (H : Heap) (x : AV) (k : Nat) (es : List (List AV)) : Prop := x = .list k es ∨ (x = .nil ∧ es = []) ∨ ∃ id ty, x = .sref id 0 es.length ∧ H[id]? = some (some ⟨ty, k, es⟩)
theorem SlIs.kept {H H' : Heap} {x : AV} {k : Nat} {es : List (List AV)} (h : SlIs H x k es) (hk : Kept [] H H') : SlIs H' x k es := by
  rcases h with h | h | ⟨id, ty, h1, h2⟩
  · exact .inl h
  · exact .inr (.inl h)
  · exact .inr (.inr ⟨id, ty, h1, hk id _ (by simp) h2⟩)
theorem SlIs.len {H : Heap} {x : AV} {k : Nat} {es : List (List AV)} (h : SlIs H x k es) : alen H x = some (es.length : Int) := by
  rcases h with h | ⟨rfl, rfl⟩ | ⟨id, ty, rfl, h2⟩
  · subst h; rfl
  · rfl
  · simp only [alen, h2]
theorem SlIs.idx {P : Program} {t e : TypeId} {H : Heap} {x : AV} {k : Nat} {es : List (List AV)} (h : SlIs H x k es) (ht : Go.PA.elemOf P t = some e) (hk : k = szOf P e) (hn : knownT P e = true) (i : Nat) (hi : i < es.length) :
    ∃ a, aindexAddr P t H x i = some a ∧ addrCells H a = some es[i] := by
  rcases h with h | ⟨rfl, rfl⟩ | ⟨id, ty, rfl, h2⟩
  · subst h
    refine ⟨.iref es[i], ?_, rfl⟩
    rw [aix_list ht]
    simp [hk, hn, hi]
  · simp at hi
  · refine ⟨.ref id i 0, ?_, ?_⟩
    · rw [aix_sref ht]
      simp [h2, hk, hn, hi]
    · rw [addr_ref]
      simp [h2, hi]
theorem weaker_frz {E : Env} {s : St} (hW : ∀ b, ¬ E.W b) (j : Nat) {id lo n : Nat} {o : AObj} (hj : s.t j = .sref id lo n) (ho : s.H[id]? = some (some o)) (hi : Imm (.list o.k ((o.es.drop lo).take n))) :
    Weaker E s ⟨upd s.t j (.list o.k ((o.es.drop lo).take n)), s.H.set id none⟩ := by
  rintro a w ⟨ρ, ok, g, hx, hd, hs, hr⟩
  obtain ⟨g', x'⟩ := g.kill id (fun b => ok b ∨ ∃ o c, s.H[id]? = some (some o) ∧ ρ id = some (b, c)) (fun _ h => .inl h) (fun b hb => hb.imp (fun h => h) fun ⟨o, c, h1, h2⟩ => ⟨o, c, h1, h2, hW b⟩)
  refine ⟨ρ, _, g', hx.trans x', hd, hs, fun i => ?_⟩
  simp only [upd]
  split
  · rename_i hij
    subst hij
    have hv := hr i
    have hview : view s.H (s.t i) = .list o.k ((o.es.drop lo).take n) := by rw [hj, view_sref, ho, viewS_some]
    have := view_soundX (fun x => x = id) g hv (by rw [hview]; exact hi) (fun x hx => by rw [hj] at hx; simpa [srefs, srefs2, srefs1] using hx)
    rw [hview] at this
    refine this.imm (fun b hb => ?_) hi
    rcases hb with hb | ⟨x, o', c, rfl, h1, h2⟩
    · exact .inl hb
    · exact .inr ⟨o', c, h1, h2⟩
  · exact (hr i).ext x'
def RoundF (j n : Nat) (I : Nat → St → Prop) (Q : Exit → St → Prop) (_ : Bx (I, Q)) : Exit → St → Prop
  | .normal, s' => ∃ n', n' < n ∧ I n' s'
  | .exit i, s' => ∃ id lo m o, s'.t j = .sref id lo m ∧ s'.H[id]? = some (some o) ∧ Imm (.list o.k ((o.es.drop lo).take m)) ∧ Q (.exit i) ⟨upd s'.t j (.list o.k ((o.es.drop lo).take m)), s'.H.set id none⟩
  | x, s' => Q x s'
theorem roundF_normal {j n : Nat} {I : Nat → St → Prop} {Q : Exit → St → Prop} {b : Bx (I, Q)} {s : St} : RoundF j n I Q b .normal s = (∃ n', n' < n ∧ I n' s) := rfl
theorem roundF_ret {j n : Nat} {I : Nat → St → Prop} {Q : Exit → St → Prop} {b : Bx (I, Q)} {s : St} : RoundF j n I Q b .ret s = Q .ret s := rfl
def Frz (j : Nat) (s : St) (k : St → Prop) : Prop := ∃ id lo m o, s.t j = .sref id lo m ∧ s.H[id]? = some (some o) ∧ Imm (.list o.k ((o.es.drop lo).take m)) ∧ k ⟨upd s.t j (.list o.k ((o.es.drop lo).take m)), s.H.set id none⟩
theorem roundF_frz {j n i : Nat} {I : Nat → St → Prop} {Q : Exit → St → Prop} {b : Bx (I, Q)} {s : St} : RoundF j n I Q b (.exit i) s = Frz j s (Q (.exit i)) := rfl
theorem frz {j : Nat} {s : St} {k : St → Prop} (id n : Nat) (ty : TypeId) (kk : Nat) (es : List (List AV)) (h1 : s.t j = .sref id 0 n) (h2 : s.H[id]? = some (some ⟨ty, kk, es⟩)) (hn : n = es.length) (hi : Imm (.list kk es)) (h : k ⟨upd s.t j (.list kk es), s.H.set id none⟩) : Frz j s k := by
  refine ⟨id, 0, n, _, h1, h2, ?_, ?_⟩
  · simpa [hn] using hi
  · simpa [hn] using h
attribute [go_sem ↓] roundF_normal roundF_frz roundF_ret
theorem aloopF {E : Env} {c : Code} {s0 : St} {Q : Exit → St → Prop} {b : Bx (c, Q)} (j : Nat) (hW : ∀ b, ¬ E.W b) (I : Nat → St → Prop) (n0 : Nat) (hc : codeOk E.N c = true) (h0 : I n0 s0)
    (round : ∀ n s, I n s → awp E c s (RoundF j n I Q .mk)) : ALoop E c s0 Q b := by
  intro a w r
  refine wp_loop_ghost (fun n a w => ∃ s, I n s ∧ Rel E s a w) n0 ⟨_, h0, r⟩ fun n a w hI => ?_
  obtain ⟨s, hs, r⟩ := hI
  refine wp_mono (awp_sound c s _ hc (round n s hs) a w r) fun e a' w' h' => ?_
  obtain ⟨s', h1, h2⟩ := h'
  cases e with
  | normal =>
    obtain ⟨n', hlt, hI'⟩ := h1
    exact ⟨n', hlt, _, hI', h2⟩
  | exit i =>
    obtain ⟨id, lo, m, o, e1, e2, e3, e4⟩ := h1
    exact ⟨_, e4, weaker_frz hW j e1 e2 e3 a' w' h2⟩
  | _ => exact ⟨s', h1, h2⟩
def encL {α : Type} (enc : α → List AV) (l : List α) : List (List AV) := l.map enc
section
variable {α : Type} (enc : α → List AV)
theorem encL_nil : encL enc [] = [] := rfl
theorem encL_len (l : List α) : (encL enc l).length = l.length := by simp [encL]
theorem encL_snoc (l : List α) (a : α) : encL enc l ++ [enc a] = encL enc (l ++ [a]) := by simp [encL]
theorem encL_app (l m : List α) : encL enc l ++ encL enc m = encL enc (l ++ m) := by simp [encL]
theorem encL_take (l : List α) (n : Nat) (h : n = l.length) : (encL enc l).take n = encL enc l := by subst h; rw [← encL_len enc l, List.take_length]
theorem encL_takeL (l : List α) : (encL enc l).take l.length = encL enc l := encL_take enc l _ rfl
theorem encL_get (l : List α) (i : Nat) : (encL enc l)[i]? = (l[i]?).map enc := by simp [encL]
theorem imm_encL {k : Nat} (h : ∀ a c, c ∈ enc a → Imm c) (l : List α) : Imm (.list k (encL enc l)) := by
  refine .list fun e he c hc => ?_
  simp only [encL, List.mem_map] at he
  obtain ⟨a, _, rfl⟩ := he
  exact h a c hc
theorem encL_set (l : List α) (i : Nat) (a : α) : (encL enc l).set i (enc a) = encL enc (l.set i a) := by simp [encL, List.map_set]
attribute [go_sem] encL_nil encL_len encL_takeL encL_get
end
def idxFrom {α : Type} (p : α → Bool) : Nat → List α → Int
  | _, [] => -1
  | k, a :: l => if p a = true then k else idxFrom p (k + 1) l
def idxI {α : Type} (p : α → Bool) (l : List α) : Int := idxFrom p 0 l
theorem idxFrom_spec {α : Type} (p : α → Bool) : ∀ (l : List α) (k : Nat), (idxFrom p k l = -1 ∧ ∀ a, a ∈ l → p a = false) ∨ ∃ (i : Nat) (a : α), l[i]? = some a ∧ p a = true ∧ idxFrom p k l = ((k + i : Nat) : Int) ∧ ∀ (j : Nat) (b : α), j < i → l[j]? = some b → p b = false
  | [], k => .inl ⟨rfl, by simp⟩
  | a :: l, k => by
    simp only [idxFrom]
    by_cases h : p a = true
    · rw [if_pos h]
      exact .inr ⟨0, a, rfl, h, rfl, fun j b hj => by omega⟩
    · rw [if_neg h]
      have h' : p a = false := by simpa using h
      rcases idxFrom_spec p l (k + 1) with ⟨h1, h2⟩ | ⟨i, b, h1, h2, h3, h4⟩
      · refine .inl ⟨h1, fun b hb => ?_⟩
        rcases List.mem_cons.1 hb with rfl | hb
        · exact h'
        · exact h2 b hb
      · refine .inr ⟨i + 1, b, by simpa using h1, h2, by rw [h3]; congr 1; omega, fun j c hj hc => ?_⟩
        match j, hj, hc with
        | 0, hj, hc => simp at hc; subst hc; exact h'
        | j + 1, hj, hc => exact h4 j c (by omega) (by simpa using hc)
theorem idxI_spec {α : Type} (p : α → Bool) (l : List α) : (idxI p l = -1 ∧ ∀ a, a ∈ l → p a = false) ∨ ∃ (i : Nat) (a : α), l[i]? = some a ∧ p a = true ∧ idxI p l = (i : Int) ∧ ∀ (j : Nat) (b : α), j < i → l[j]? = some b → p b = false := by
  have := idxFrom_spec p l 0
  simpa [idxI] using this
theorem args_sref {H : Heap} {id n : Nat} {ty : TypeId} {k : Nat} {es : List (List AV)} {as0 as' : List AV} (hH : H[id]? = some (some ⟨ty, k, es⟩)) (hn : n = es.length) (hi : Imm (.list k es)) (ht : Args H as0 as') : Args H (.sref id 0 n :: as0) (.list k es :: as') := by
  have hv : view H (.sref id 0 n) = .list k es := by rw [view_sref, hH, viewS_some]; simp [hn]
  exact .cons (by rw [hv]; exact .refl _) (by rw [hv]; exact hi) ht
theorem args_imm {H : Heap} {a : AV} {as0 as' : List AV} (hi : Imm a) (ht : Args H as0 as') : Args H (a :: as0) (a :: as') := .cons (by rw [view_imm hi]; exact .refl _) (by rw [view_imm hi]; exact hi) ht
theorem args_nilL {H : Heap} {k : Nat} {as0 as' : List AV} (ht : Args H as0 as') : Args H (.nil :: as0) (.list k [] :: as') := .cons (.nil k) .nil ht
inductive CW (H : Heap) : List AV → List AV → Prop
  | nil : CW H [] []
  | cons {a a' : AV} {as0 as' : List AV} (h : Weak (view1 H a) a') (hi : Imm (view1 H a)) (hi' : Imm a') (t : CW H as0 as') : CW H (a :: as0) (a' :: as')
theorem CW.len {H : Heap} {as0 as' : List AV} (h : CW H as0 as') : as0.length = as'.length := by
  induction h with
  | nil => rfl
  | cons _ _ _ _ ih => simp [ih]
theorem CW.weak {H : Heap} {as0 as' : List AV} (h : CW H as0 as') : Weak (.agg (as0.map (view1 H))) (.agg as') := by
  refine .agg (by simpa using h.len) ?_
  induction h with
  | nil => intro i a b h; simp at h
  | cons h _ _ _ ih =>
    intro i a b ha hb
    match i, ha, hb with
    | 0, ha, hb => simp at ha hb; subst ha; subst hb; exact h
    | i + 1, ha, hb => exact ih i a b (by simpa using ha) (by simpa using hb)
theorem CW.imm {H : Heap} {as0 as' : List AV} (h : CW H as0 as') : Imm (.agg (as0.map (view1 H))) := by
  refine .agg fun c hc => ?_
  induction h with
  | nil => simp at hc
  | cons _ h _ _ ih =>
    rcases List.mem_cons.1 hc with rfl | hc
    · exact h
    · exact ih hc
theorem CW.imm' {H : Heap} {as0 as' : List AV} (h : CW H as0 as') : Imm (.agg as') := by
  refine .agg fun c hc => ?_
  induction h with
  | nil => simp at hc
  | cons _ _ h _ ih =>
    rcases List.mem_cons.1 hc with rfl | hc
    · exact h
    · exact ih hc
theorem cw_imm {H : Heap} {a : AV} {as0 as' : List AV} (hi : Imm a) (t : CW H as0 as') : CW H (a :: as0) (a :: as') := by
  refine .cons ?_ ?_ hi t
  · rw [view1_imm hi]; exact .refl a
  · rw [view1_imm hi]; exact hi
theorem cw_sc {H : Heap} {v : Value} {as0 as' : List AV} (t : CW H as0 as') : CW H (.sc v :: as0) (.sc v :: as') := cw_imm .sc t
theorem cw_nil {H : Heap} {k : Nat} {as0 as' : List AV} (t : CW H as0 as') : CW H (.nil :: as0) (.list k [] :: as') := .cons (.nil k) .nil (imm_list.2 (by simp)) t
theorem cw_sref {H : Heap} {id n : Nat} {ty : TypeId} {k : Nat} {es : List (List AV)} {as0 as' : List AV} (hH : H[id]? = some (some ⟨ty, k, es⟩)) (hn : n = es.length) (hi : Imm (.list k es)) (t : CW H as0 as') : CW H (.sref id 0 n :: as0) (.list k es :: as') := by
  have hv : view1 H (.sref id 0 n) = .list k es := by rw [view1_sref, hH, viewS_some]; simp [hn]
  exact .cons (by rw [hv]; exact .refl _) (by rw [hv]; exact hi) hi t
theorem args_agg {H : Heap} {cs cs' as0 as' : List AV} (h : CW H cs cs') (ht : Args H as0 as') : Args H (.agg cs :: as0) (.agg cs' :: as') := .cons h.weak h.imm ht
theorem done_agg2 {H : Heap} {cs cs' : List AV} {v : Value} {Q : AV → Prop} {b : Bx Q} (h : CW H cs cs') (hq : Q (.tup [.agg cs', .sc v])) : Done H (.tup [.agg cs, .sc v]) Q b :=
  done_weak (imm_pair h.imm .sc) (imm_pair h.imm' .sc) (weak_tup2 h.weak (.refl _)) hq
open Go.RowKit
def valI : Int → Value := Value.int .i64
def valB : Bool → Value := Value.bool
def encK {β : Type} (f : β → Value) (l : List (Int × β)) : List (List AV) := l.map fun e => [.sc (.int .i64 e.1), .sc (f e.2)]
def imK {β : Type} (f : β → Value) (l : List (Int × β)) : List (Value × Value) := l.map fun e => (.int .i64 e.1, f e.2)
def getM {β : Type} : List (Int × β) → Int → Option β
  | [], _ => none
  | e :: l, k => if e.1 = k then some e.2 else getM l k
def putM {β : Type} : List (Int × β) → Int → β → List (Int × β)
  | [], k, v => [(k, v)]
  | e :: l, k, v => if e.1 = k then (k, v) :: l else e :: putM l k v
section
variable {β : Type} {f : β → Value}
theorem entsOf_encK (l : List (Int × β)) : entsOf (encK f l) = some (l.map fun e => (.int .i64 e.1, .sc (f e.2))) := by
  induction l with
  | nil => rfl
  | cons e l ih =>
    simp only [encK, List.map_cons, entsOf] at ih ⊢
    rw [ih]
    rfl
theorem ents1_encK (l : List (Int × β)) : ents1 (encK f l) = some (imK f l) := by
  induction l with
  | nil => rfl
  | cons e l ih =>
    simp only [encK, List.map_cons, ents1] at ih ⊢
    rw [ih]
    rfl
theorem afind_map (l : List (Int × β)) (n : Int) : afind (.int .i64) (.int .i64 n) (l.map fun e => (.int .i64 e.1, .sc (f e.2))) = some ((getM l n).map fun b => .sc (f b)) := by
  induction l with
  | nil => rfl
  | cons e l ih =>
    simp only [List.map_cons, afind, Instr.sameNow, getM, if_true]
    by_cases h : n = e.1
    · subst h; simp
    · rw [if_neg (fun q => h q.symm)]
      have hb : (n == e.1) = false := by simpa using h
      rw [hb]
      simp only [ih]
theorem aput_encK (l : List (Int × β)) (n : Int) (b : β) : aput (.int .i64) (.int .i64 n) (.sc (f b)) (encK f l) = some (encK f (putM l n b)) := by
  induction l with
  | nil => rfl
  | cons e l ih =>
    simp only [encK, List.map_cons, aput, Instr.sameNow, putM, if_true] at ih ⊢
    by_cases h : n = e.1
    · subst h; simp
    · rw [if_neg (fun q => h q.symm)]
      have hb : (n == e.1) = false := by simpa using h
      rw [hb]
      simp only [ih, Option.map_some, List.map_cons]
end
section
variable {E : Env} {P : Program} {H : Heap}
theorem aeff_makeMap {t : TypeId} {ev : Operand → AV} {C : AV → Heap → Prop} : AEff E (.makeMap t none) ev H C = OV2 (.mref H.length) (H ++ [some ⟨0, 2, []⟩]) C .mk := rfl
theorem aeff_mapUpdate {t : TypeId} {x k v : Operand} {ev : Operand → AV} {C : AV → Heap → Prop} : AEff E (.mapUpdate t x k v) ev H C = OB (aupdate E.P t H (ev x) (ev k) (ev v)) (fun H' => C (.sc undef) H') .mk := by
  simp only [AEff]
  cases aupdate E.P t H (ev x) (ev k) (ev v) <;> rfl
theorem aeff_lookup {t : TypeId} {x k : Operand} {c : Bool} {ev : Operand → AV} {C : AV → Heap → Prop} : AEff E (.lookup t x k c) ev H C = OB (alookup E.P t H (ev x) (ev k) c) (fun v => C v H) .mk := aeff_read rfl
theorem aeff_entry {x : Operand} {ev : Operand → AV} {C : AV → Heap → Prop} : AEff E (.entry x) ev H C = OB (aentry H (ev x)) (fun v => C v H) .mk := aeff_read rfl
def rangeV (E : Env) (t : TypeId) (x : AV) (H : Heap) (C : AV → Heap → Prop) (_ : Bx C) : Prop := match x with
  | .imap es => if isMapT E.P t then C (.miter H.length) (H ++ [some ⟨0, 3, [[.junk, .junk, .imap es]]⟩]) else False
  | _ => False
theorem aeff_range {t : TypeId} {x : Operand} {ev : Operand → AV} {C : AV → Heap → Prop} : AEff E (.range t x) ev H C = rangeV E t (ev x) H C .mk := by
  simp only [AEff, rangeV]
  rfl
theorem rangeV_imap {t : TypeId} {es : List (Value × Value)} {C : AV → Heap → Prop} {b : Bx C} (h : isMapT E.P t = true) : rangeV E t (.imap es) H C b = OV2 (.miter H.length) (H ++ [some ⟨0, 3, [[.junk, .junk, .imap es]]⟩]) C .mk := by
  simp only [rangeV, h, if_true, OV2]
def ANext (left : List (Value × Value)) (id : Nat) (o : AObj) (H : Heap) (C : AV → Heap → Prop) (_ : Bx C) : Prop :=
  (left = [] → C (.tup [.sc (.bool false)]) H) ∧ ∀ (i : Nat) (e : Value × Value), left[i]? = some e → C (.tup [.sc (.bool true), .sc e.1, .sc e.2]) (H.set id (some { o with es := [[.sc e.1, .sc e.2, .imap (left.eraseIdx i)]] }))
def nextV (x : AV) (s : Bool) (H : Heap) (C : AV → Heap → Prop) (b : Bx C) : Prop := match x with
  | .miter id => match H[id]? with
    | some (some o) => match o.es with
      | [[_, _, .imap left]] => s = false ∧ ANext left id o H C b
      | _ => False
    | _ => False
  | _ => False
def nextO (y : Option (Option AObj)) (id : Nat) (H : Heap) (C : AV → Heap → Prop) (b : Bx C) : Prop := match y with
  | some (some o) => match o.es with
    | [[_, _, .imap left]] => ANext left id o H C b
    | _ => False
  | _ => False
theorem aeff_next {x : Operand} {ev : Operand → AV} {C : AV → Heap → Prop} : AEff E (.next x false) ev H C = nextV (ev x) false H C .mk := by
  simp only [AEff, nextV, ANext]
  rfl
theorem nextV_it {id : Nat} {C : AV → Heap → Prop} {b : Bx C} : nextV (.miter id) false H C b = nextO H[id]? id H C .mk := by
  simp only [nextV, nextO, true_and]
theorem nextO_some {id ty k : Nat} {a1 a2 : AV} {left : List (Value × Value)} {C : AV → Heap → Prop} {b : Bx C} : nextO (some (some ⟨ty, k, [[a1, a2, .imap left]]⟩)) id H C b = ANext left id ⟨ty, k, [[a1, a2, .imap left]]⟩ H C .mk := rfl
def alookO (P : Program) (t : TypeId) (y : Option (Option AObj)) (k : AV) (c : Bool) : Option AV := match mapOf P t, k, (match y with | some (some o) => entsOf o.es | _ => none) with
  | some (_, d, et), .sc kv, some es => if isKeyB d kv then lkR P et c (afind d kv es) else none
  | some (kt, _, et), .agg cs, some es => match keySig P kt with
    | some ks => match keyVs ks cs with
      | some vs => lkR P et c (afindA ks vs es)
      | none => none
    | none => none
  | _, _, _ => none
theorem alook_mref {t : TypeId} {id : Nat} {k : AV} {c : Bool} : alookup P t H (.mref id) k c = alookO P t H[id]? k c := rfl
theorem look_core {β : Type} {f : β → Value} {d : β} {et : TypeId} (hz : azero1 P et = some (.sc (f d))) (l : List (Int × β)) (n : Int) (c : Bool) :
    lkR P et c (afind (.int .i64) (.int .i64 n) (l.map fun e => (.int .i64 e.1, .sc (f e.2)))) = some (if c then .tup [.sc (f ((getM l n).getD d)), .sc (.bool (getM l n).isSome)] else .sc (f ((getM l n).getD d))) := by
  rw [afind_map]
  unfold lkR
  cases getM l n with
  | none => simp [hz]
  | some b => simp
theorem alookO_enc {β : Type} {f : β → Value} {d : β} {t kt et : TypeId} (hm : mapOf P t = some (kt, .int .i64, et)) (hz : azero1 P et = some (.sc (f d))) {ty k : Nat} {l : List (Int × β)} {n : Int} {c : Bool} :
    alookO P t (some (some ⟨ty, k, encK f l⟩)) (.sc (.int .i64 n)) c = some (if c then .tup [.sc (f ((getM l n).getD d)), .sc (.bool (getM l n).isSome)] else .sc (f ((getM l n).getD d))) := by
  rw [← look_core hz l n c]
  simp only [alookO, hm, entsOf_encK, isKeyB, decide_true, if_true]
theorem alook_imap {β : Type} {f : β → Value} {d : β} {t kt et : TypeId} (hm : mapOf P t = some (kt, .int .i64, et)) (hz : azero1 P et = some (.sc (f d))) {l : List (Int × β)} {n : Int} {c : Bool} :
    alookup P t H (.imap (imK f l)) (.sc (.int .i64 n)) c = some (if c then .tup [.sc (f ((getM l n).getD d)), .sc (.bool (getM l n).isSome)] else .sc (f ((getM l n).getD d))) := by
  rw [← look_core hz l n c]
  simp only [alookup, hm, ents, imK, List.map_map, isKeyB, decide_true, if_true]
  rfl
theorem alookO_I {t : TypeId} (h : IMap P t (.sc (.int .i64 0))) {ty k : Nat} {l : List (Int × Int)} {n : Int} :
    alookO P t (some (some ⟨ty, k, encK valI l⟩)) (.sc (.int .i64 n)) false = some (.sc (.int .i64 ((getM l n).getD 0))) := by
  obtain ⟨kt, et, hm, hz⟩ := h
  exact (alookO_enc (f := valI) (d := 0) hm hz).trans rfl
theorem alook_I {t : TypeId} (h : IMap P t (.sc (.int .i64 0))) {l : List (Int × Int)} {n : Int} :
    alookup P t H (.imap (imK valI l)) (.sc (.int .i64 n)) false = some (.sc (.int .i64 ((getM l n).getD 0))) := by
  obtain ⟨kt, et, hm, hz⟩ := h
  exact (alook_imap (f := valI) (d := 0) hm hz).trans rfl
theorem alookO_B {t : TypeId} (h : IMap P t (.sc (.bool false))) {ty k : Nat} {l : List (Int × Bool)} {n : Int} :
    alookO P t (some (some ⟨ty, k, encK valB l⟩)) (.sc (.int .i64 n)) false = some (.sc (.bool ((getM l n).getD false))) := by
  obtain ⟨kt, et, hm, hz⟩ := h
  exact (alookO_enc (f := valB) (d := false) hm hz).trans rfl
def aupdO (P : Program) (t : TypeId) (id : Nat) (H : Heap) (y : Option (Option AObj)) (k v : AV) : Option Heap := match mapOf P t, k, y with
  | some (_, d, _), .sc kv, some (some o) => if isKeyB d kv then (aput d kv v o.es).map fun es => H.set id (some { o with es := es }) else none
  | some (kt, _, _), .agg cs, some (some o) => match keySig P kt with
    | some ks => match keyVs ks cs with
      | some vs => (aputA ks vs v o.es).map fun es => H.set id (some { o with es := es })
      | none => none
    | none => none
  | _, _, _ => none
theorem aupd_mref {t : TypeId} {id : Nat} {k v : AV} : aupdate P t H (.mref id) k v = aupdO P t id H H[id]? k v := by
  unfold aupdate aupdO
  cases mapOf P t with
  | none => rfl
  | some m =>
    obtain ⟨kt, d, et⟩ := m
    cases k <;> first | rfl | skip
    · simp only
      generalize H[id]? = y
      cases y with
      | none => simp
      | some y => cases y with
        | none => simp
        | some o => rfl
    · simp only
      generalize H[id]? = y
      cases y with
      | none => cases keySig P kt with
        | none => rfl
        | some ks => simp only; split <;> rfl
      | some y => cases y with
        | none => cases keySig P kt with
          | none => rfl
          | some ks => simp only; split <;> rfl
        | some o => rfl
theorem aupdO_enc {β : Type} {f : β → Value} {t kt et : TypeId} (hm : mapOf P t = some (kt, .int .i64, et)) {id ty k : Nat} {l : List (Int × β)} {n : Int} {b : β} :
    aupdO P t id H (some (some ⟨ty, k, encK f l⟩)) (.sc (.int .i64 n)) (.sc (f b)) = some (H.set id (some ⟨ty, k, encK f (putM l n b)⟩)) := by
  simp only [aupdO, hm, isKeyB, decide_true, if_true, aput_encK, Option.map_some]
theorem aupdO_I {t : TypeId} (h : IMap P t (.sc (.int .i64 0))) {id ty k : Nat} {l : List (Int × Int)} {n b : Int} :
    aupdO P t id H (some (some ⟨ty, k, encK valI l⟩)) (.sc (.int .i64 n)) (.sc (.int .i64 b)) = some (H.set id (some ⟨ty, k, encK valI (putM l n b)⟩)) := by
  obtain ⟨kt, et, hm, hz⟩ := h
  exact aupdO_enc (f := valI) hm
theorem aupdO_B {t : TypeId} (h : IMap P t (.sc (.bool false))) {id ty k : Nat} {l : List (Int × Bool)} {n : Int} {b : Bool} :
    aupdO P t id H (some (some ⟨ty, k, encK valB l⟩)) (.sc (.int .i64 n)) (.sc (.bool b)) = some (H.set id (some ⟨ty, k, encK valB (putM l n b)⟩)) := by
  obtain ⟨kt, et, hm, hz⟩ := h
  exact aupdO_enc (f := valB) hm
def aentryO (y : Option (Option AObj)) : Option AV := match y with
  | some (some o) => match o.es with
    | [[.sc k, .sc v, _]] => some (.tup [.sc k, .sc v])
    | _ => none
  | _ => none
theorem aentry_it {id : Nat} : aentry H (.miter id) = aentryO H[id]? := rfl
theorem aentryO_some {ty k : Nat} {a b : Value} {c : AV} : aentryO (some (some ⟨ty, k, [[.sc a, .sc b, c]]⟩)) = some (.tup [.sc a, .sc b]) := rfl
def viewM (y : Option (Option AObj)) : AV := match y with
  | some (some o) => match ents1 o.es with
    | some es => .imap es
    | none => .junk
  | _ => .junk
theorem view_mref {id : Nat} : view H (.mref id) = viewM H[id]? := rfl
theorem view1_mref {id : Nat} : view1 H (.mref id) = viewM H[id]? := rfl
theorem view2_mref {id : Nat} : view2 H (.mref id) = viewM H[id]? := rfl
theorem viewM_enc {β : Type} {f : β → Value} {ty k : Nat} {l : List (Int × β)} : viewM (some (some ⟨ty, k, encK f l⟩)) = .imap (imK f l) := by simp only [viewM, ents1_encK]
end
section
variable {E : Env} {ev : Operand → AV} {H : Heap} {k : AV → Prop} {b : Bx k}
theorem ard_lookup {t : TypeId} {x y : Operand} {c : Bool} : ARd E (.lookup t x y c) ev H k b = AEff E (.lookup t x y c) ev H fun v _ => k v := ard_aeff rfl
theorem ard_entry {x : Operand} : ARd E (.entry x) ev H k b = AEff E (.entry x) ev H fun v _ => k v := ard_aeff rfl
end
attribute [go_sem ↓] ard_lookup ard_entry
attribute [go_sem ↓] aeff_makeMap aeff_mapUpdate aeff_lookup aeff_entry aeff_range aeff_next
attribute [go_sem] rangeV_imap nextV_it nextO_some alook_mref alookO_I alookO_B alook_I aupd_mref aupdO_I aupdO_B aentry_it aentryO_some view_mref view1_mref view2_mref viewM_enc
section
variable {E : Env}
end
theorem agree_push {n : Nat} {H l : Heap} (h : n ≤ H.length) : Agree (fun id => decide (id < n)) H (H ++ l) := fun id hid => List.getElem?_append_left (by simp at hid; omega)
theorem agree_3 {a b c : Option AObj} {l l' : Heap} : Agree (fun id => decide (id < 3)) (a :: b :: c :: l) (a :: b :: c :: l') := fun id hid => by
  have : id < 3 := by simpa using hid
  rcases id with _ | _ | _ | id
  · rfl
  · rfl
  · rfl
  · omega
theorem agree_two {H H' : Heap} {X : List Nat} {p q : Nat} {o o' : AObj} (hk : Kept X H H') (hp : H[p]? = some (some o)) (hq : H[q]? = some (some o')) (np : p ∉ X) (nq : q ∉ X) : Agree (fun i => decide (i = p) || decide (i = q)) H H' := fun i hi => by
  simp only [Bool.or_eq_true, decide_eq_true_eq] at hi
  rcases hi with rfl | rfl
  · rw [hp, hk _ _ np hp]
  · rw [hq, hk _ _ nq hq]
theorem agree_live {D : Nat → Bool} {X : List Nat} {H H' : Heap} (hk : Kept X H H') (hD : ∀ i, D i = true → i ∉ X ∧ ∃ o, H[i]? = some (some o)) : Agree D H H' := fun i hi => by
  obtain ⟨h1, o, ho⟩ := hD i hi
  rw [ho, hk i o h1 ho]
theorem heap_set_at {H : Heap} {x : Option AObj} {i : Nat} (h : i < H.length) (y : Option AObj) : ((H ++ [x]).set i y)[H.length]? = some x := by
  rw [List.getElem?_set_ne (by omega)]; simp
theorem heap_set_self {H : Heap} {x : Option AObj} {i : Nat} (h : i < H.length) (y : Option AObj) : ((H ++ [x]).set i y)[i]? = some y := List.getElem?_set_self (by simp; omega)
theorem valI_eq (v : Int) : valI v = Value.int .i64 v := rfl
theorem valB_eq (v : Bool) : valB v = Value.bool v := rfl
def aixA (P : Program) (H : Heap) (a : Option (Nat × TypeId)) (id i j : Nat) (n : Int) : Option AV := match a with
  | some (len, e) => if knownT P e = true ∧ 0 ≤ n ∧ n < len then (if (addrCells H (.ref id i j)).isSome then some (.ref id i (j + n.toNat * szOf P e)) else none) else none
  | none => none
theorem aix_ref {P : Program} {t : TypeId} {H : Heap} {id i j : Nat} {n : Int} (h : Go.PA.elemOf P t = none) : aindexAddr P t H (.ref id i j) n = aixA P H (arrOf P t) id i j n := by
  simp only [aindexAddr, h, aixA]
  cases arrOf P t <;> rfl
theorem aixA_some {P : Program} {H : Heap} {len : Nat} {e : TypeId} {id i j : Nat} {n : Int} : aixA P H (some (len, e)) id i j n = if knownT P e = true ∧ 0 ≤ n ∧ n < len then (if (addrCells H (.ref id i j)).isSome then some (.ref id i (j + n.toNat * szOf P e)) else none) else none := rfl
def aixVA (P : Program) (cs : List AV) (n : Int) (a : Option (Nat × TypeId)) : Option AV := match a with
  | some (len, e) => if knownT P e = true ∧ 0 ≤ n ∧ n < len then apart P e cs (n.toNat * szOf P e) else none
  | none => none
theorem aixV_agg {P : Program} {t : TypeId} {cs : List AV} {k : IntKind} {n : Int} : aixV P t (.agg cs) (.sc (.int k n)) = aixVA P cs n (arrOf P t) := by
  simp only [aixV, aixVA]
  cases arrOf P t <;> rfl
theorem aixVA_some {P : Program} {cs : List AV} {n : Int} {len : Nat} {e : TypeId} : aixVA P cs n (some (len, e)) = if knownT P e = true ∧ 0 ≤ n ∧ n < len then apart P e cs (n.toNat * szOf P e) else none := rfl
attribute [go_sem] aix_ref aixA_some aixV_agg aixVA_some valI_eq valB_eq
def arI (xs : List Int) : List AV := xs.map fun x => .sc (.int .i64 x)
theorem arI_len (xs : List Int) : (arI xs).length = xs.length := by simp [arI]
theorem arI_at (xs : List Int) (j : Nat) : ((arI xs).drop j).head? = (xs[j]?).map fun x => .sc (.int .i64 x) := by simp [arI]
theorem arI_dropLen (xs : List Int) (j : Nat) : ((arI xs).drop j).length = xs.length - j := by simp [arI]
theorem arI_get (xs : List Int) (j : Nat) : (arI xs)[j]? = (xs[j]?).map fun x => .sc (.int .i64 x) := by simp [arI]
theorem arI_all (xs : List Int) : (arI xs).all AV.cellish = true := by simp [arI, AV.cellish, Value.oneCell']
theorem arI_view1 (H : Heap) (xs : List Int) : (arI xs).map (view1 H) = arI xs := by simp [arI, view1]
attribute [go_sem] arI_len arI_at arI_dropLen arI_get arI_all arI_view1
section
variable {E : Env} {H : Heap}
end
end Go.PA
namespace Go.Proofs.YtpllcolbcahicaaGreatDoor
open Go.PA
open Go.RowKit
abbrev iv (n : Int) : AV := .sc (.int .i64 n)
abbrev bv (b : Bool) : AV := .sc (.bool b)
def encI (n : Int) : List AV := [iv n]
def encS (s : ByteArray) : List AV := [.sc (.string s)]
theorem imm_encI (n : Int) (c : AV) (h : c ∈ encI n) : Imm c := by simp [encI] at h; subst h; exact .sc
structure TSub where
  ID : Int
  Balance : Int
deriving DecidableEq, Inhabited
def TSub.cells (x : TSub) : List AV := [iv x.ID, iv x.Balance]
theorem TSub.len (x : TSub) : x.cells.length = 2 := by simp [TSub.cells]
theorem TSub.imm (x : TSub) (c : AV) (h : c ∈ x.cells) : Imm c := by
  simp only [TSub.cells, List.mem_cons, List.not_mem_nil, or_false] at h
  rcases h with rfl | rfl
  · exact .sc
  · exact .sc
structure TEntry where
  Number : Int
  Day : Int
  From : Int
  To : Int
  Amount : Int
  Ref : Int
deriving DecidableEq, Inhabited
def TEntry.cells (x : TEntry) : List AV := [iv x.Number, iv x.Day, iv x.From, iv x.To, iv x.Amount, iv x.Ref]
theorem TEntry.len (x : TEntry) : x.cells.length = 6 := by simp [TEntry.cells]
theorem TEntry.imm (x : TEntry) (c : AV) (h : c ∈ x.cells) : Imm c := by
  simp only [TEntry.cells, List.mem_cons, List.not_mem_nil, or_false] at h
  rcases h with rfl | rfl | rfl | rfl | rfl | rfl
  · exact .sc
  · exact .sc
  · exact .sc
  · exact .sc
  · exact .sc
  · exact .sc
structure TAccount where
  Credit : Int
  Subs : List TSub
  Entries : List TEntry
deriving DecidableEq, Inhabited
def TAccount.cells (x : TAccount) : List AV := [iv x.Credit, .list 2 (encL TSub.cells x.Subs), .list 6 (encL TEntry.cells x.Entries)]
theorem TAccount.len (x : TAccount) : x.cells.length = 3 := by simp [TAccount.cells]
theorem TAccount.imm (x : TAccount) (c : AV) (h : c ∈ x.cells) : Imm c := by
  simp only [TAccount.cells, List.mem_cons, List.not_mem_nil, or_false] at h
  rcases h with rfl | rfl | rfl
  · exact .sc
  · exact imm_encL _ (TSub.imm) _
  · exact imm_encL _ (TEntry.imm) _
structure TPosting where
  Number : Int
  Day : Int
  Entity : Int
  Debit : Int
  Credit : Int
  Amount : Int
  Partner : Int
  Ref : Int
deriving DecidableEq, Inhabited
def TPosting.cells (x : TPosting) : List AV := [iv x.Number, iv x.Day, iv x.Entity, iv x.Debit, iv x.Credit, iv x.Amount, iv x.Partner, iv x.Ref]
theorem TPosting.len (x : TPosting) : x.cells.length = 8 := by simp [TPosting.cells]
theorem TPosting.imm (x : TPosting) (c : AV) (h : c ∈ x.cells) : Imm c := by
  simp only [TPosting.cells, List.mem_cons, List.not_mem_nil, or_false] at h
  rcases h with rfl | rfl | rfl | rfl | rfl | rfl | rfl | rfl
  · exact .sc
  · exact .sc
  · exact .sc
  · exact .sc
  · exact .sc
  · exact .sc
  · exact .sc
  · exact .sc
structure TLedger where
  Postings : List TPosting
deriving DecidableEq, Inhabited
def TLedger.cells (x : TLedger) : List AV := [.list 8 (encL TPosting.cells x.Postings)]
theorem TLedger.len (x : TLedger) : x.cells.length = 1 := by simp [TLedger.cells]
theorem TLedger.imm (x : TLedger) (c : AV) (h : c ∈ x.cells) : Imm c := by
  simp only [TLedger.cells, List.mem_cons, List.not_mem_nil, or_false] at h
  rcases h with rfl
  · exact imm_encL _ (TPosting.imm) _
structure TClaim where
  ID : Int
  Payer : Int
  Amount : Int
  Open : Int
  Day : Int
  Code : ByteArray
deriving DecidableEq, Inhabited
def TClaim.cells (x : TClaim) : List AV := [iv x.ID, iv x.Payer, iv x.Amount, iv x.Open, iv x.Day, .sc (.string x.Code)]
theorem TClaim.len (x : TClaim) : x.cells.length = 6 := by simp [TClaim.cells]
theorem TClaim.imm (x : TClaim) (c : AV) (h : c ∈ x.cells) : Imm c := by
  simp only [TClaim.cells, List.mem_cons, List.not_mem_nil, or_false] at h
  rcases h with rfl | rfl | rfl | rfl | rfl | rfl
  · exact .sc
  · exact .sc
  · exact .sc
  · exact .sc
  · exact .sc
  · exact .sc
structure TClosing where
  Interest : Int
  Unpaid : Int
  Prepaid : Int
  Claims : List TClaim
deriving DecidableEq, Inhabited
def TClosing.cells (x : TClosing) : List AV := [iv x.Interest, iv x.Unpaid, iv x.Prepaid, .list 6 (encL TClaim.cells x.Claims)]
theorem TClosing.len (x : TClosing) : x.cells.length = 4 := by simp [TClosing.cells]
theorem TClosing.imm (x : TClosing) (c : AV) (h : c ∈ x.cells) : Imm c := by
  simp only [TClosing.cells, List.mem_cons, List.not_mem_nil, or_false] at h
  rcases h with rfl | rfl | rfl | rfl
  · exact .sc
  · exact .sc
  · exact .sc
  · exact imm_encL _ (TClaim.imm) _
structure TBalance where
  Account : Int
  Amount : Int
deriving DecidableEq, Inhabited
def TBalance.cells (x : TBalance) : List AV := [iv x.Account, iv x.Amount]
theorem TBalance.len (x : TBalance) : x.cells.length = 2 := by simp [TBalance.cells]
theorem TBalance.imm (x : TBalance) (c : AV) (h : c ∈ x.cells) : Imm c := by
  simp only [TBalance.cells, List.mem_cons, List.not_mem_nil, or_false] at h
  rcases h with rfl | rfl
  · exact .sc
  · exact .sc
structure TDifference where
  Kind : Int
  A : Int
  B : Int
  Ref : Int
  Amount : Int
deriving DecidableEq, Inhabited
def TDifference.cells (x : TDifference) : List AV := [iv x.Kind, iv x.A, iv x.B, iv x.Ref, iv x.Amount]
theorem TDifference.len (x : TDifference) : x.cells.length = 5 := by simp [TDifference.cells]
theorem TDifference.imm (x : TDifference) (c : AV) (h : c ∈ x.cells) : Imm c := by
  simp only [TDifference.cells, List.mem_cons, List.not_mem_nil, or_false] at h
  rcases h with rfl | rfl | rfl | rfl | rfl
  · exact .sc
  · exact .sc
  · exact .sc
  · exact .sc
  · exact .sc
structure TWhole where
  Balances : List TBalance
  Eliminated : Int
  Differences : List TDifference
deriving DecidableEq, Inhabited
def TWhole.cells (x : TWhole) : List AV := [.list 2 (encL TBalance.cells x.Balances), iv x.Eliminated, .list 5 (encL TDifference.cells x.Differences)]
theorem TWhole.len (x : TWhole) : x.cells.length = 3 := by simp [TWhole.cells]
theorem TWhole.imm (x : TWhole) (c : AV) (h : c ∈ x.cells) : Imm c := by
  simp only [TWhole.cells, List.mem_cons, List.not_mem_nil, or_false] at h
  rcases h with rfl | rfl | rfl
  · exact imm_encL _ (TBalance.imm) _
  · exact .sc
  · exact imm_encL _ (TDifference.imm) _
structure TPayment where
  Warrant : Int
  Payee : Int
  Amount : Int
  Due : Int
  Sub : Int
deriving DecidableEq, Inhabited
def TPayment.cells (x : TPayment) : List AV := [iv x.Warrant, iv x.Payee, iv x.Amount, iv x.Due, iv x.Sub]
theorem TPayment.len (x : TPayment) : x.cells.length = 5 := by simp [TPayment.cells]
theorem TPayment.imm (x : TPayment) (c : AV) (h : c ∈ x.cells) : Imm c := by
  simp only [TPayment.cells, List.mem_cons, List.not_mem_nil, or_false] at h
  rcases h with rfl | rfl | rfl | rfl | rfl
  · exact .sc
  · exact .sc
  · exact .sc
  · exact .sc
  · exact .sc
structure TBatch where
  Number : Int
  Day : Int
  Payments : List TPayment
deriving DecidableEq, Inhabited
def TBatch.cells (x : TBatch) : List AV := [iv x.Number, iv x.Day, .list 5 (encL TPayment.cells x.Payments)]
theorem TBatch.len (x : TBatch) : x.cells.length = 3 := by simp [TBatch.cells]
theorem TBatch.imm (x : TBatch) (c : AV) (h : c ∈ x.cells) : Imm c := by
  simp only [TBatch.cells, List.mem_cons, List.not_mem_nil, or_false] at h
  rcases h with rfl | rfl | rfl
  · exact .sc
  · exact .sc
  · exact imm_encL _ (TPayment.imm) _
structure TQueue where
  Waiting : List TPayment
  Known : List Int
  Batches : List TBatch
deriving DecidableEq, Inhabited
def TQueue.cells (x : TQueue) : List AV := [.list 5 (encL TPayment.cells x.Waiting), .list 1 (encL encI x.Known), .list 3 (encL TBatch.cells x.Batches)]
theorem TQueue.len (x : TQueue) : x.cells.length = 3 := by simp [TQueue.cells]
theorem TQueue.imm (x : TQueue) (c : AV) (h : c ∈ x.cells) : Imm c := by
  simp only [TQueue.cells, List.mem_cons, List.not_mem_nil, or_false] at h
  rcases h with rfl | rfl | rfl
  · exact imm_encL _ (TPayment.imm) _
  · exact imm_encL _ (imm_encI) _
  · exact imm_encL _ (TBatch.imm) _
structure TItem where
  Payment : TPayment
  State : Int
  Attempts : Int
deriving DecidableEq, Inhabited
def TItem.cells (x : TItem) : List AV := x.Payment.cells ++ [iv x.State, iv x.Attempts]
theorem TItem.len (x : TItem) : x.cells.length = 7 := by simp [TItem.cells, TPayment.len]
theorem TItem.imm (x : TItem) (c : AV) (h : c ∈ x.cells) : Imm c := by
  simp only [TItem.cells, List.mem_append, List.mem_cons, List.not_mem_nil, or_false] at h
  rcases h with (h) | (rfl | rfl)
  · exact TPayment.imm _ c h
  · exact .sc
  · exact .sc
structure TDesk where
  Account : TAccount
  Queue : TQueue
  Items : List TItem
deriving DecidableEq, Inhabited
def TDesk.cells (x : TDesk) : List AV := x.Account.cells ++ x.Queue.cells ++ [.list 7 (encL TItem.cells x.Items)]
theorem TDesk.len (x : TDesk) : x.cells.length = 7 := by simp [TDesk.cells, TAccount.len, TQueue.len]
theorem TDesk.imm (x : TDesk) (c : AV) (h : c ∈ x.cells) : Imm c := by
  simp only [TDesk.cells, List.mem_append, List.mem_cons, List.not_mem_nil, or_false] at h
  rcases h with ((h) | (h)) | (rfl)
  · exact TAccount.imm _ c h
  · exact TQueue.imm _ c h
  · exact imm_encL _ (TItem.imm) _
structure TIncome where
  Number : Int
  Day : Int
  Payer : Int
  Amount : Int
  Claim : Int
deriving DecidableEq, Inhabited
def TIncome.cells (x : TIncome) : List AV := [iv x.Number, iv x.Day, iv x.Payer, iv x.Amount, iv x.Claim]
theorem TIncome.len (x : TIncome) : x.cells.length = 5 := by simp [TIncome.cells]
theorem TIncome.imm (x : TIncome) (c : AV) (h : c ∈ x.cells) : Imm c := by
  simp only [TIncome.cells, List.mem_cons, List.not_mem_nil, or_false] at h
  rcases h with rfl | rfl | rfl | rfl | rfl
  · exact .sc
  · exact .sc
  · exact .sc
  · exact .sc
  · exact .sc
structure TMatch where
  Income : Int
  Claim : Int
  Amount : Int
deriving DecidableEq, Inhabited
def TMatch.cells (x : TMatch) : List AV := [iv x.Income, iv x.Claim, iv x.Amount]
theorem TMatch.len (x : TMatch) : x.cells.length = 3 := by simp [TMatch.cells]
theorem TMatch.imm (x : TMatch) (c : AV) (h : c ∈ x.cells) : Imm c := by
  simp only [TMatch.cells, List.mem_cons, List.not_mem_nil, or_false] at h
  rcases h with rfl | rfl | rfl
  · exact .sc
  · exact .sc
  · exact .sc
structure TCash where
  Claims : List TClaim
  Incomes : List TIncome
  Matches : List TMatch
  Loose : List Int
deriving DecidableEq, Inhabited
def TCash.cells (x : TCash) : List AV := [.list 6 (encL TClaim.cells x.Claims), .list 5 (encL TIncome.cells x.Incomes), .list 3 (encL TMatch.cells x.Matches), .list 1 (encL encI x.Loose)]
theorem TCash.len (x : TCash) : x.cells.length = 4 := by simp [TCash.cells]
theorem TCash.imm (x : TCash) (c : AV) (h : c ∈ x.cells) : Imm c := by
  simp only [TCash.cells, List.mem_cons, List.not_mem_nil, or_false] at h
  rcases h with rfl | rfl | rfl | rfl
  · exact imm_encL _ (TClaim.imm) _
  · exact imm_encL _ (TIncome.imm) _
  · exact imm_encL _ (TMatch.imm) _
  · exact imm_encL _ (imm_encI) _
structure TSecurity where
  ID : Int
  Unit : Int
  Issued : Int
  Maturity : Int
  Rate : Int
  Every : Int
  Indexed : Bool
deriving DecidableEq, Inhabited
def TSecurity.cells (x : TSecurity) : List AV := [iv x.ID, iv x.Unit, iv x.Issued, iv x.Maturity, iv x.Rate, iv x.Every, bv x.Indexed]
theorem TSecurity.len (x : TSecurity) : x.cells.length = 7 := by simp [TSecurity.cells]
theorem TSecurity.imm (x : TSecurity) (c : AV) (h : c ∈ x.cells) : Imm c := by
  simp only [TSecurity.cells, List.mem_cons, List.not_mem_nil, or_false] at h
  rcases h with rfl | rfl | rfl | rfl | rfl | rfl | rfl
  · exact .sc
  · exact .sc
  · exact .sc
  · exact .sc
  · exact .sc
  · exact .sc
  · exact .sc
structure THolding where
  Security : Int
  Holder : Int
  Amount : Int
deriving DecidableEq, Inhabited
def THolding.cells (x : THolding) : List AV := [iv x.Security, iv x.Holder, iv x.Amount]
theorem THolding.len (x : THolding) : x.cells.length = 3 := by simp [THolding.cells]
theorem THolding.imm (x : THolding) (c : AV) (h : c ∈ x.cells) : Imm c := by
  simp only [THolding.cells, List.mem_cons, List.not_mem_nil, or_false] at h
  rcases h with rfl | rfl | rfl
  · exact .sc
  · exact .sc
  · exact .sc
structure TMove where
  Number : Int
  Day : Int
  Kind : Int
  Security : Int
  From : Int
  To : Int
  Amount : Int
deriving DecidableEq, Inhabited
def TMove.cells (x : TMove) : List AV := [iv x.Number, iv x.Day, iv x.Kind, iv x.Security, iv x.From, iv x.To, iv x.Amount]
theorem TMove.len (x : TMove) : x.cells.length = 7 := by simp [TMove.cells]
theorem TMove.imm (x : TMove) (c : AV) (h : c ∈ x.cells) : Imm c := by
  simp only [TMove.cells, List.mem_cons, List.not_mem_nil, or_false] at h
  rcases h with rfl | rfl | rfl | rfl | rfl | rfl | rfl
  · exact .sc
  · exact .sc
  · exact .sc
  · exact .sc
  · exact .sc
  · exact .sc
  · exact .sc
structure TRegister where
  Securities : List TSecurity
  Holdings : List THolding
  Moves : List TMove
deriving DecidableEq, Inhabited
def TRegister.cells (x : TRegister) : List AV := [.list 7 (encL TSecurity.cells x.Securities), .list 3 (encL THolding.cells x.Holdings), .list 7 (encL TMove.cells x.Moves)]
theorem TRegister.len (x : TRegister) : x.cells.length = 3 := by simp [TRegister.cells]
theorem TRegister.imm (x : TRegister) (c : AV) (h : c ∈ x.cells) : Imm c := by
  simp only [TRegister.cells, List.mem_cons, List.not_mem_nil, or_false] at h
  rcases h with rfl | rfl | rfl
  · exact imm_encL _ (TSecurity.imm) _
  · exact imm_encL _ (THolding.imm) _
  · exact imm_encL _ (TMove.imm) _
structure TState where
  Desk : TDesk
  Cash : TCash
  Register : TRegister
  Ledger : TLedger
deriving DecidableEq, Inhabited
def TState.cells (x : TState) : List AV := x.Desk.cells ++ x.Cash.cells ++ x.Register.cells ++ x.Ledger.cells
theorem TState.len (x : TState) : x.cells.length = 15 := by simp [TState.cells, TDesk.len, TCash.len, TRegister.len, TLedger.len]
theorem TState.imm (x : TState) (c : AV) (h : c ∈ x.cells) : Imm c := by
  simp only [TState.cells, List.mem_append, List.mem_cons, List.not_mem_nil, or_false] at h
  rcases h with (((h) | (h)) | (h)) | (h)
  · exact TDesk.imm _ c h
  · exact TCash.imm _ c h
  · exact TRegister.imm _ c h
  · exact TLedger.imm _ c h
structure TDeed where
  Kind : Int
  Day : Int
  Sub : Int
  Who : Int
  Ref : Int
  Amount : Int
  Due : Int
deriving DecidableEq, Inhabited
def TDeed.cells (x : TDeed) : List AV := [iv x.Kind, iv x.Day, iv x.Sub, iv x.Who, iv x.Ref, iv x.Amount, iv x.Due]
theorem TDeed.len (x : TDeed) : x.cells.length = 7 := by simp [TDeed.cells]
theorem TDeed.imm (x : TDeed) (c : AV) (h : c ∈ x.cells) : Imm c := by
  simp only [TDeed.cells, List.mem_cons, List.not_mem_nil, or_false] at h
  rcases h with rfl | rfl | rfl | rfl | rfl | rfl | rfl
  · exact .sc
  · exact .sc
  · exact .sc
  · exact .sc
  · exact .sc
  · exact .sc
  · exact .sc
structure TFinding where
  Layer : Int
  Number : Int
deriving DecidableEq, Inhabited
def TFinding.cells (x : TFinding) : List AV := [iv x.Layer, iv x.Number]
theorem TFinding.len (x : TFinding) : x.cells.length = 2 := by simp [TFinding.cells]
theorem TFinding.imm (x : TFinding) (c : AV) (h : c ∈ x.cells) : Imm c := by
  simp only [TFinding.cells, List.mem_cons, List.not_mem_nil, or_false] at h
  rcases h with rfl | rfl
  · exact .sc
  · exact .sc
end Go.Proofs.YtpllcolbcahicaaGreatDoor
