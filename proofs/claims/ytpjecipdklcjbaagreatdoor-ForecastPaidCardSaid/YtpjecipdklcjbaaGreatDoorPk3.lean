/- Several texts of this claim, joined: PaC Types Facts PlayAll Frame. -/
import Derived.Test.YtpjecipdklcjbaaGreatDoorPk2
import Derived.Test.YtpjecipdklcjbaaGreatDoorProg
import Derived.KernelRfl
import Derived.WalkSpells
import Derived.WalkLawsBesides
import Derived.Deep.QuietTactic
import Derived.BigQuiet
import Derived.RegionTactic
import Derived.Lib.Hide
import Derived.Test.YtpjecipdklcjbaaGreatDoorRows
import Derived.ProofKit
import Derived.Below
import Derived.Carry
import Derived.ChangeSame
set_option linter.unusedSimpArgs false
set_option linter.unusedVariables false
namespace Go.PA
open Go.RowKit
def POwn (P : Program) (row src : Option Nat) (f : FuncId) (args : List AV) (ty : TypeId) (k : Nat) (Q : List (List AV) → Prop) : Prop :=
  ∀ (w : World) (ok : Nat → Prop) (vs : Array Value), (∀ b, ok b → b < w.heap.size ∧ some b ≠ row) → Inv row src ok w → vs.size = args.length → (∀ (i : Nat) (v : Value) (a : AV), vs[i]? = some v → args[i]? = some a → RepI w ok v a) →
    Calls P f vs w fun e w' => ∃ (b cap : Nat) (es : List (List AV)), e = .returned (.pointer (some ⟨b, 0, none⟩)) ∧ Q es ∧ w.heap.size ≤ b ∧ b < w'.heap.size ∧ (∀ e, e ∈ es → e.length = k) ∧
      CellsOk w' (fun _ => none) [] (fun x => (ok x ∨ (w.heap.size ≤ x ∧ x < w'.heap.size)) ∧ x ≠ b) ⟨ty, k, es⟩ b cap ∧ (∀ e, e ∈ es → ∀ a, a ∈ e → Imm a) ∧ w.grownBy w' row ∧ Inv row src ok w'
def AOwn (P : Program) (rs : List ResultVar) (ty : TypeId) (k : Nat) (Q : List (List AV) → Prop) : Exit → St → Prop
  | .normal, s | .ret, s => ∃ id es, ares P s rs = some (.ref id 0 0) ∧ s.H[id]? = some (some ⟨ty, k, es⟩) ∧ (∀ e, e ∈ es → ∀ a, a ∈ e → Imm a) ∧ Q es
  | _, _ => False
theorem pown_intro {P : Program} {row src : Option Nat} {f : FuncId} {args : List AV} {ty : TypeId} {k : Nat} {Q : List (List AV) → Prop} {fn : Func} {body : Code}
    (hf : P.funcs[f]? = some fn) (hb : fn.body = some body) (hn : args.length ≤ fn.ntmps) (hc : codeOk fn.ntmps body = true)
    (h : ∀ E : Env, E.P = P → E.row = row → E.src = src → (∀ b, ¬ E.W b) → E.N = fn.ntmps → awp E body ⟨initT args, []⟩ (AOwn P fn.results.toList ty k Q)) : POwn P row src f args ty k Q := by
  intro w ok vs h1 h2 h3 h4
  let E : Env := { P := P, w0 := w, okA := ok, row := row, src := src, N := fn.ntmps, W := fun _ => False, ρ0 := fun _ => none, H0 := [] }
  have g : Good E w (fun _ => none) [] ok := ⟨rfl, rfl, rfl, Nat.le_refl _, fun _ _ _ _ => rfl, h2, fun b hb => ⟨(h1 b hb).1, (h1 b hb).2, .inl hb⟩, by simp, by simp, by simp, by simp⟩
  have r : Rel E ⟨initT args, []⟩ { tmps := vs ++ Array.replicate (fn.ntmps - vs.size) undef, defers := [] } w := by
    refine ⟨fun _ => none, ok, g, Ext.refl _ _ _ _, rfl, by simp [E]; omega, fun i => ?_⟩
    simp only [initT]
    rcases Nat.lt_or_ge i args.length with hlt | hge
    · have e1 : args.getD i (.sc undef) = args[i] := by simp [List.getD, List.getElem?_eq_getElem hlt]
      have hv : vs[i]? = some (vs[i]'(by omega)) := Array.getElem?_eq_getElem (by omega)
      have e2 : (vs ++ Array.replicate (fn.ntmps - vs.size) undef).getD i undef = vs[i]'(by omega) := by
        rw [Array.getD_eq_getD_getElem?, Array.getElem?_append_left (by omega), hv]
        rfl
      rw [e1, e2]
      exact h4 i _ _ hv (List.getElem?_eq_getElem hlt)
    · have e1 : args.getD i (.sc undef) = .sc undef := by simp [List.getD, List.getElem?_eq_none hge]
      have e2 : (vs ++ Array.replicate (fn.ntmps - vs.size) undef).getD i undef = undef := by
        rw [Array.getD_eq_getD_getElem?, Array.getElem?_append_right (by omega), Array.getElem?_replicate]
        split <;> rfl
      rw [e1, e2]
      exact .sc
  have hw := awp_sound (E := E) body _ _ hc (h E rfl rfl rfl (fun _ h => h) rfl) _ _ r
  refine calls_of_wp hf hb (wp_mono hw fun e a' w' h' => ?_)
  obtain ⟨s', hq, ρ, ok', g', _, hd, _, hr⟩ := h'
  have fin : (∃ id es, ares P s' fn.results.toList = some (.ref id 0 0) ∧ s'.H[id]? = some (some ⟨ty, k, es⟩) ∧ (∀ e, e ∈ es → ∀ a, a ∈ e → Imm a) ∧ Q es) → a'.defers = [] ∧ ∃ v, (results fn a'.tmps).run P w' = .ok v w' ∧
      ∃ (b cap : Nat) (es : List (List AV)), Ending.returned v = .returned (.pointer (some ⟨b, 0, none⟩)) ∧ Q es ∧ w.heap.size ≤ b ∧ b < w'.heap.size ∧ (∀ e, e ∈ es → e.length = k) ∧
      CellsOk w' (fun _ => none) [] (fun x => (ok x ∨ (w.heap.size ≤ x ∧ x < w'.heap.size)) ∧ x ≠ b) ⟨ty, k, es⟩ b cap ∧ (∀ e, e ∈ es → ∀ a, a ∈ e → Imm a) ∧ w.grownBy w' row ∧ Inv row src ok w' := by
    rintro ⟨id, es, hres, ho, hi, hq⟩
    obtain ⟨v, hrun, hrep⟩ := ares_sound (E := E) g' hr hres
    refine ⟨hd, v, hrun, ?_⟩
    cases hrep with
    | refDead hd' _ => rw [ho] at hd'; cases hd'
    | @ref _ _ _ o b cap ho' hρ hcap =>
      rw [ho] at ho'
      simp only [Option.some.injEq] at ho'
      subst ho'
      have hobj := g'.obj id _ ho
      rw [hρ] at hobj
      obtain ⟨a1, a2, a3⟩ := g'.own id _ b cap ho hρ
      have hb1 : w.heap.size ≤ b := a3.resolve_left (fun h => h)
      refine ⟨b, cap, es, by simp, hq, hb1, hobj.lt, g'.len id _ ho, ?_, hi, ⟨g'.os, g'.tape, g'.output, g'.size, fun k hk hne => g'.blk k hk (fun h => h) hne⟩, ⟨h2.1.1, h2.1.2.at g'.inv.1.2⟩, fun p hp => g'.inv.2 p hp⟩
      obtain ⟨cur, c1, c2, c3, c4, c5⟩ := hobj.cells hcap
      refine ⟨cur, c1, c2, c3, c4, fun i e j a he ha => ?_⟩
      obtain ⟨c, d1, d2, d3⟩ := c5 i e j a he ha
      refine ⟨c, d1, d2, d3.imm (fun x hx => ⟨?_, fun e => a1 (e ▸ hx)⟩) (hi e (List.mem_of_getElem? he) a (List.mem_of_getElem? ha))⟩
      obtain ⟨x1, _, x3⟩ := g'.oks x hx
      exact x3.imp (fun h => h) fun h => ⟨h, x1⟩
  cases e with
  | normal => exact fin hq
  | ret => exact fin hq
  | _ => exact hq.elim
section
variable {E : Env}
theorem callB_own {P : Program} {f : FuncId} {args : List AV} {args' : List AV} {H : Heap} {ty : TypeId} {k : Nat} {Q : List (List AV) → Prop} {C : AV → Heap → Prop} {b : Bx C} (h : POwn P E.row E.src f args' ty k Q) (hP : E.P = P) (hen : enterable P f = true) (ha : Args H args args') (hn : ∀ a, a ∈ args → srefs a = [])
    (hex : ∃ es, Q es) (hC : ∀ es, Q es → C (.ref H.length 0 0) (H ++ [some ⟨ty, k, es⟩])) : CallB E f args H C b := by
  subst hP
  obtain ⟨es0, hq0⟩ := hex
  refine .inl ⟨hen, ⟨_, _, hC es0 hq0⟩, fun w ρ ok vs g hs hr => ?_⟩
  have hr' : ∀ (i : Nat) (v : Value) (a : AV), vs[i]? = some v → args'[i]? = some a → RepI w ok v a := fun i v a' hv ha' => by
    obtain ⟨a, h1, h2, h3⟩ := ha.get i a' ha'
    refine ((view_soundX (fun _ => False) g (hr i v a hv h1) h3 (fun id hid => ?_)).weak h2).ext ⟨by simp, by simp, ?_, fun _ _ => rfl⟩
    · rw [hn a (List.mem_of_getElem? h1)] at hid; cases hid
    · rintro b (hb | ⟨_, _, _, hf, _⟩)
      · exact hb
      · exact hf.elim
  refine (h w ok vs (fun b hb => ⟨(g.oks b hb).1, (g.oks b hb).2.1⟩) g.inv (hs.trans ha.len) hr').mono ?_
  rintro e w' ⟨b, cap, es, rfl, hq, hb1, hb2, hlen, hobj, hi, hg, hinv⟩
  obtain ⟨g1, x1⟩ := g.call (ok' := fun x => (ok x ∨ (w.heap.size ≤ x ∧ x < w'.heap.size)) ∧ x ≠ b) hg hinv (fun x hx => ⟨.inl hx, fun e => by have := (g.oks x hx).1; omega⟩) (fun x hx => hx.1)
  have hcm : cap ≤ maxLen := hobj.choose_spec.2.2.2.1
  have hobj' : ObjOk w' ρ H (fun x => (ok x ∨ (w.heap.size ≤ x ∧ x < w'.heap.size)) ∧ x ≠ b) ⟨ty, k, es⟩ (some (b, cap)) := by
    obtain ⟨cur, c1, c2, c3, c4, c5⟩ := hobj
    refine .inl ⟨cur, c1, c2, c3, c4, fun i e j a he ha => ?_⟩
    obtain ⟨c, d1, d2, d3⟩ := c5 i e j a he ha
    exact ⟨c, d1, d2, d3.imm (fun x hx => hx) (hi e (List.mem_of_getElem? he) a (List.mem_of_getElem? ha))⟩
  obtain ⟨g2, x2⟩ := g1.add ⟨ty, k, es⟩ (some (b, cap)) hobj' hlen (fun b' c' h' => by
    simp only [Option.some.injEq, Prod.mk.injEq] at h'
    obtain ⟨rfl, rfl⟩ := h'
    refine ⟨fun hx => hx.2 rfl, fun id o c ho hρ => ?_, fun hrow => ?_, .inr (Nat.le_trans g.size hb1)⟩
    · have := g.obj id o ho
      rw [hρ] at this
      have := this.lt
      omega
    · have := g.row_lt hrow.symm
      omega)
  refine ⟨_, .ref H.length 0 0, H ++ [some ⟨ty, k, es⟩], _, _, rfl, hC es hq, g2, x1.trans x2, ?_⟩
  have := Rep.ref (w := w') (ρ := updP ρ H.length (some (b, cap))) (H := H ++ [some ⟨ty, k, es⟩]) (ok := fun x => (ok x ∨ (w.heap.size ≤ x ∧ x < w'.heap.size)) ∧ x ≠ b) (id := H.length) (i := 0) (j := 0) (o := ⟨ty, k, es⟩) (b := b) (cap := cap) push_new (by simp [updP]) hcm
  simpa using this
theorem rep_int_list_cell {w : World} {ρ : Places} {H : Heap} {ok : Nat → Prop} {xs : List Int} {v : Value} (r : Rep w ρ H ok v (.list 1 (xs.map fun x => [.sc (.int .i64 x)]))) :
    ∃ A c, v = .slice A xs.length c ∧ ∀ i, i < xs.length → ∃ ad, A = some ad ∧ ok ad.block ∧ ∃ x, x ∈ xs ∧ w.cell? (ad.add i) = some (.int .i64 x) := by
  generalize hes : xs.map (fun x => [AV.sc (.int .i64 x)]) = es at r
  cases r with
  | listNil => simp at hes; subst hes; exact ⟨_, _, rfl, by simp⟩
  | @list ad n c _ _ f hn hnc hok hk hc h1 hr =>
    subst hes
    refine ⟨some ad, c, by simp at hn; rw [hn], fun i hi => ⟨ad, rfl, hok, xs[i], List.getElem_mem hi, ?_⟩⟩
    have he : (xs.map (fun x => [AV.sc (.int .i64 x)]))[i]? = some [.sc (.int .i64 xs[i])] := by simp [List.getElem?_map, List.getElem?_eq_getElem hi]
    have := hr i _ 0 _ he rfl
    have e := rep_sc this
    have h2 := hc i _ 0 _ he rfl
    rw [e] at h2
    simpa using h2
theorem awp_adopt {c : Code} {s : St} {Q : Exit → St → Prop} (j : Nat) {ty : TypeId} {xs : List Int} {at_ : Nat} (hrow : E.row = none) (hsrc : E.src = none) (hW : ∀ b, ¬ E.W b) (ht : s.t j = .ref 0 0 0) (hH : s.H = [some ⟨ty, 2, [[.list 1 (xs.map fun x => [.sc (.int .i64 x)]), .sc (.int .i64 at_)]]⟩])
    (hat : at_ ≤ xs.length) (hl : xs.length ≤ 900) (hx : ∀ x, x ∈ xs → -9223372036854775808 ≤ x ∧ x ≤ 9223372036854775807) (hco : codeOk E.N c = true)
    (h : ∀ (E' : Env) (p : Nat), E'.P = E.P → E'.row = some p → E'.N = E.N → (∀ b, ¬ E'.W b) → awp E' c ⟨upd s.t j (.sc (.pointer (some ⟨p, 0, none⟩))), [none]⟩ Q) : AWp E c s Q := by
  rintro a w ⟨ρ, ok, g, hx0, hd, hs, hr⟩
  have h0 : s.H[0]? = some (some ⟨ty, 2, [[.list 1 (xs.map fun x => [.sc (.int .i64 x)]), .sc (.int .i64 at_)]]⟩) := by rw [hH]; rfl
  have hv := hr j
  rw [ht] at hv
  obtain ⟨o, b, cap, ho, hρ, hcap, hve⟩ : ∃ o b cap, s.H[0]? = some (some o) ∧ ρ 0 = some (b, cap) ∧ cap ≤ maxLen ∧ a.tmps.getD j undef = .pointer (some ⟨b, 0 * o.k + 0, none⟩) := by
    generalize hgen : a.tmps.getD j undef = v at hv
    cases hv with
    | ref ho hρ hcap => exact ⟨_, _, _, ho, hρ, hcap, rfl⟩
    | refDead hd _ => rw [h0] at hd; cases hd
  rw [h0] at ho
  simp only [Option.some.injEq] at ho
  subst ho
  have hobj := g.obj 0 _ h0
  rw [hρ] at hobj
  obtain ⟨hb1, _, hb3⟩ := g.own 0 _ b cap h0 hρ
  have hb3 := hb3.resolve_left (hW b)
  have hblt := hobj.lt
  obtain ⟨cur, c1, c2, c3, c4, c5⟩ := hobj.cells hcap
  obtain ⟨v0, d1, d2, d3⟩ := c5 0 _ 0 _ rfl rfl
  obtain ⟨v1, e1, e2, e3⟩ := c5 0 _ 1 _ rfl rfl
  obtain ⟨A, c', rfl, hA⟩ := rep_int_list_cell d3
  have e3 := rep_sc e3
  subst e3
  let src : Option Nat := if 0 < xs.length then A.map (·.block) else none
  let E' : Env := { P := E.P, w0 := w, okA := ok, row := some b, src := src, N := E.N, W := fun _ => False, ρ0 := ρ, H0 := [none] }
  have hsok : ∀ b', src = some b' → ok b' := fun b' hb' => by
    simp only [src] at hb'
    split at hb'
    · rename_i h0
      obtain ⟨ad, rfl, hk, _⟩ := hA 0 h0
      simp at hb'
      exact hb' ▸ hk
    · cases hb'
  have hS : SrcOk src w b := by
    refine ⟨cur, A, xs.length, c', at_, ty, ⟨c1, by simpa using d1, by simpa using e1⟩, hat, hl, fun i hi => ?_⟩
    obtain ⟨ad, rfl, hk, x, hxm, hc⟩ := hA i hi
    refine ⟨ad, x, rfl, ?_, fun e => hb1 (e ▸ hk), hc, hx x hxm⟩
    simp only [src]
    rw [if_pos (by omega)]
    rfl
  have gE : Good E' w ρ [none] ok := by
    have hlive : ∀ (id : Nat) (o : AObj), ([none] : Heap)[id]? = some (some o) → False := fun id o ho => by
      match id, ho with
      | 0, ho => simp at ho
      | id + 1, ho => simp at ho
    refine ⟨rfl, rfl, rfl, Nat.le_refl _, fun _ _ _ _ => rfl, ⟨⟨hsok, g.inv.1.2⟩, fun p hp => ?_⟩, fun b' hb' => ⟨(g.oks b' hb').1, fun e => ?_, .inl hb'⟩, fun id o _ _ ho _ => (hlive id o ho).elim, fun id o _ _ _ _ _ ho _ _ _ => (hlive id o ho).elim, fun id o ho => (hlive id o ho).elim, fun id o ho => (hlive id o ho).elim⟩
    · cases hp; exact hS
    · simp only [E', Option.some.injEq] at e
      subst e
      exact hb1 hb'
  have hext : Ext w ρ s.H ok w ρ [none] ok := by
    refine ⟨fun id o ho => .inl ?_, fun id ho => ?_, fun _ h => h, fun _ _ => rfl⟩
    · rw [hH] at ho
      match id, ho with
      | 0, ho => rfl
      | id + 1, ho => simp at ho
    · rw [hH] at ho
      match id, ho with
      | 0, ho => simp at ho
      | id + 1, ho => simp at ho
  have rE : Rel E' ⟨upd s.t j (.sc (.pointer (some ⟨b, 0, none⟩))), [none]⟩ a w := by
    refine ⟨ρ, ok, gE, Ext.refl _ _ _ _, hd, hs, fun i => ?_⟩
    simp only [upd]
    split
    · rename_i hi
      subst hi
      rw [hve]
      simp only [Nat.zero_mul, Nat.zero_add]
      exact .sc
    · exact (hr i).ext hext
  refine wp_mono (awp_sound (E := E') c _ Q hco (h E' b rfl rfl rfl (fun _ h => h)) a w rE) fun e a' w' h' => ?_
  obtain ⟨s', hq, ρ', ok', g', hx', hd', hs', hr'⟩ := h'
  refine ⟨s', hq, ρ', ok', ⟨g'.os.trans g.os, g'.tape.trans g.tape, g'.output.trans g.output, Nat.le_trans g.size g'.size, fun b' hb' hW' hr' => ?_, ⟨⟨fun b' hb' => (by rw [hsrc] at hb'; cases hb'), g'.inv.1.2⟩, fun p hp => (by rw [hrow] at hp; cases hp)⟩, fun b' hb' => ?_, fun id o b' c ho hρ => ?_, g'.inj, g'.len, g'.obj⟩, (hx0.trans hext).trans hx', hd', hs', hr'⟩
  · refine (g'.blk b' (Nat.lt_of_lt_of_le hb' g.size) (fun h => h) (fun e => ?_)).trans (g.blk b' hb' hW' hr')
    simp only [E', Option.some.injEq] at e
    omega
  · obtain ⟨x1, x2, x3⟩ := g'.oks b' hb'
    refine ⟨x1, by rw [hrow]; simp, ?_⟩
    rcases x3 with x3 | x3
    · exact (g.oks b' x3).2.2
    · exact .inr (Nat.le_trans g.size x3)
  · obtain ⟨x1, x2, x3⟩ := g'.own id o b' c ho hρ
    exact ⟨x1, by rw [hrow]; simp, .inr (Nat.le_trans g.size (x3.resolve_left (fun h => h)))⟩
theorem awp_cut {a b : Code} {s : St} {Q : Exit → St → Prop} (hc : codeOk E.N a = true) (h : awp E a s (Athen (fun s' => AWp E b s' Q) Q)) : AWp E (.seq a b) s Q := by
  intro x w r
  refine wp_seq (wp_mono (awp_sound a s _ hc h x w r) fun e a' w' h' => ?_)
  obtain ⟨s', h1, h2⟩ := h'
  cases e with
  | normal => exact h1 a' w' h2
  | _ => exact ⟨s', h1, h2⟩
end
theorem pfun_introA {P : Program} {row src : Option Nat} {f : FuncId} {args : List AV} {Q : AV → Prop} {fn : Func} {body : Code}
    (hf : P.funcs[f]? = some fn) (hb : fn.body = some body) (hn : args.length ≤ fn.ntmps)
    (h : ∀ E : Env, E.P = P → E.row = row → E.src = src → (∀ b, ¬ E.W b) → E.N = fn.ntmps → AWp E body ⟨initT args, []⟩ (ARet P fn.results.toList Q)) : PFun P row src f args Q := by
  have key : ∀ E : Env, E.P = P → E.row = row → E.src = src → (∀ b, ¬ E.W b) → E.N = fn.ntmps → AWp E body ⟨initT args, []⟩ (ARet P fn.results.toList Q) := h
  exact pfun_of_AWp hf hb hn key
open Go.RowKit
def AM (P : Program) (rs : List ResultVar) (C : AV → Heap → Prop) : Exit → St → Prop
  | .normal, s | .ret, s => match ares P s rs with
    | some r => C r s.H
    | none => False
  | _, _ => False
def MFun (P : Program) (row src : Option Nat) (f : FuncId) (args : List AV) (H : Heap) (C : AV → Heap → Prop) : Prop :=
  ∀ E : Env, E.P = P → E.row = row → E.src = src → ACall E f args H C
theorem MFun.mono {P : Program} {row src : Option Nat} {f : FuncId} {args : List AV} {H : Heap} {C D : AV → Heap → Prop} (h : MFun P row src f args H C) (hd : ∀ x H', C x H' → D x H') : MFun P row src f args H D :=
  fun E h1 h2 h3 => (h E h1 h2 h3).mono hd
theorem mfun_of_AWp {P : Program} {row src : Option Nat} {f : FuncId} {args : List AV} {H : Heap} {C : AV → Heap → Prop} {fn : Func} {body : Code}
    (hf : P.funcs[f]? = some fn) (hb : fn.body = some body) (hn : args.length ≤ fn.ntmps) (hex : ∃ x H', C x H')
    (h : ∀ E : Env, E.P = P → E.row = row → E.src = src → E.N = fn.ntmps → AWp E body ⟨initT args, H⟩ (AM P fn.results.toList C)) : MFun P row src f args H C := by
  intro E hP hrow hsrc
  refine ⟨hex, fun w ρ ok vs g hsz hrep => ?_⟩
  subst hP; subst hrow; subst hsrc
  let E' : Env := { P := E.P, w0 := w, okA := ok, row := E.row, src := E.src, N := fn.ntmps, W := fun b => ∃ id o c, H[id]? = some (some o) ∧ ρ id = some (b, c), ρ0 := ρ, H0 := H }
  have gE : Good E' w ρ H ok := ⟨rfl, rfl, rfl, Nat.le_refl _, fun _ _ _ _ => rfl, g.inv, fun b hb => ⟨(g.oks b hb).1, (g.oks b hb).2.1, .inl hb⟩, fun id o b c ho hρ => ⟨(g.own id o b c ho hρ).1, (g.own id o b c ho hρ).2.1, .inl ⟨id, o, c, ho, hρ⟩⟩, g.inj, g.len, g.obj⟩
  have r : Rel E' ⟨initT args, H⟩ { tmps := vs ++ Array.replicate (fn.ntmps - vs.size) undef, defers := [] } w := by
    refine ⟨ρ, ok, gE, Ext.refl _ _ _ _, rfl, by simp [E']; omega, fun i => ?_⟩
    simp only [initT]
    rcases Nat.lt_or_ge i args.length with hlt | hge
    · have e1 : args.getD i (.sc undef) = args[i] := by simp [List.getD, List.getElem?_eq_getElem hlt]
      have hv : vs[i]? = some (vs[i]'(by omega)) := Array.getElem?_eq_getElem (by omega)
      have e2 : (vs ++ Array.replicate (fn.ntmps - vs.size) undef).getD i undef = vs[i]'(by omega) := by
        rw [Array.getD_eq_getD_getElem?, Array.getElem?_append_left (by omega), hv]
        rfl
      rw [e1, e2]
      exact hrep i _ _ hv (List.getElem?_eq_getElem hlt)
    · have e1 : args.getD i (.sc undef) = .sc undef := by simp [List.getD, List.getElem?_eq_none hge]
      have e2 : (vs ++ Array.replicate (fn.ntmps - vs.size) undef).getD i undef = undef := by
        rw [Array.getD_eq_getD_getElem?, Array.getElem?_append_right (by omega), Array.getElem?_replicate]
        split <;> rfl
      rw [e1, e2]
      exact .sc
  refine calls_of_wp hf hb (wp_mono (h E' rfl rfl rfl rfl _ _ r) fun e a' w' h' => ?_)
  obtain ⟨s', hq, ρ', ok', g', hx', hd, _, hr⟩ := h'
  have gF : Good E w' ρ' s'.H ok' := by
    have hnW : ∀ b, b < E.w0.heap.size → ¬ E.W b → ¬ E'.W b := fun b hb hW ⟨id, o, c, ho, hρ⟩ => by
      rcases (g.own id o b c ho hρ).2.2 with h | h
      · exact hW h
      · omega
    refine ⟨g'.os.trans g.os, g'.tape.trans g.tape, g'.output.trans g.output, Nat.le_trans g.size g'.size, fun b hb hW hr' => (g'.blk b (Nat.lt_of_lt_of_le hb g.size) (hnW b hb hW) hr').trans (g.blk b hb hW hr'), g'.inv, fun b hb => ?_, fun id o b c ho hρ => ?_, g'.inj, g'.len, g'.obj⟩
    · obtain ⟨x1, x2, x3⟩ := g'.oks b hb
      refine ⟨x1, x2, ?_⟩
      rcases x3 with x3 | x3
      · exact (g.oks b x3).2.2
      · exact .inr (Nat.le_trans g.size x3)
    · obtain ⟨x1, x2, x3⟩ := g'.own id o b c ho hρ
      refine ⟨x1, x2, ?_⟩
      rcases x3 with ⟨id', o', c', ho', hρ'⟩ | x3
      · exact (g.own id' o' b c' ho' hρ').2.2
      · exact .inr (Nat.le_trans g.size x3)
  have fin : ∀ {r : AV}, ares E.P s' fn.results.toList = some r → C r s'.H → a'.defers = [] ∧ ∃ v, (results fn a'.tmps).run E.P w' = .ok v w' ∧
      ∃ (v' : Value) (x : AV) (H' : Heap) (ρ' : Places) (ok' : Nat → Prop), Ending.returned v = .returned v' ∧ C x H' ∧ Good E w' ρ' H' ok' ∧ Ext w ρ H ok w' ρ' H' ok' ∧ Rep w' ρ' H' ok' v' x := by
    intro r hres hc
    obtain ⟨v, hrun, hrep'⟩ := ares_sound (E := E) gF hr hres
    exact ⟨hd, v, hrun, v, r, s'.H, ρ', ok', rfl, hc, gF, hx', hrep'⟩
  cases e with
  | normal =>
    simp only [AM] at hq
    split at hq
    · rename_i r hres; exact fin hres hq
    · exact hq.elim
  | ret =>
    simp only [AM] at hq
    split at hq
    · rename_i r hres; exact fin hres hq
    · exact hq.elim
  | _ => exact hq.elim
theorem mfun_intro {P : Program} {row src : Option Nat} {f : FuncId} {args : List AV} {H : Heap} {C : AV → Heap → Prop} {fn : Func} {body : Code}
    (hf : P.funcs[f]? = some fn) (hb : fn.body = some body) (hn : args.length ≤ fn.ntmps) (hc : codeOk fn.ntmps body = true) (hex : ∃ x H', C x H')
    (h : ∀ E : Env, E.P = P → E.row = row → E.src = src → E.N = fn.ntmps → awp E body ⟨initT args, H⟩ (AM P fn.results.toList C)) : MFun P row src f args H C :=
  mfun_of_AWp hf hb hn hex fun E h1 h2 h3 h5 => awp_sound body _ _ (h5 ▸ hc) (h E h1 h2 h3 h5)
theorem am_ret {P : Program} {rs : List ResultVar} {C : AV → Heap → Prop} {s : St} : AM P rs C .ret s = OB (ares P s rs) (fun r => C r s.H) .mk := by
  simp only [AM]
  cases ares P s rs <;> rfl
theorem am_normal {P : Program} {rs : List ResultVar} {C : AV → Heap → Prop} {s : St} : AM P rs C .normal s = OB (ares P s rs) (fun r => C r s.H) .mk := by
  simp only [AM]
  cases ares P s rs <;> rfl
attribute [go_sem ↓] am_ret am_normal
theorem callB_m {E : Env} {f : FuncId} {args : List AV} {H : Heap} {C C' : AV → Heap → Prop} {b : Bx C} {P : Program} (h : MFun P E.row E.src f args H C') (hP : E.P = P) (hen : enterable P f = true) (hC : ∀ r H', C' r H' → C r H') : CallB E f args H C b :=
  .inl ⟨hP ▸ hen, (h E hP rfl rfl).mono hC⟩
def Kept (X : List Nat) (H H' : Heap) : Prop := ∀ j o, j ∉ X → H[j]? = some (some o) → H'[j]? = some (some o)
theorem kept_refl (X : List Nat) (H : Heap) : Kept X H H := fun _ _ _ h => h
theorem Kept.trans {X : List Nat} {H H' H'' : Heap} (h : Kept X H H') (k : Kept X H' H'') : Kept X H H'' := fun j o hj ho => k j o hj (h j o hj ho)
theorem kept_push {X : List Nat} {H H' : Heap} (x : Option AObj) (h : Kept X H H') : Kept X H (H' ++ [x]) := fun j o hj ho => by
  have := h j o hj ho
  rw [List.getElem?_append_left (List.getElem?_eq_some_iff.1 this).1]
  exact this
theorem kept_app (X : List Nat) (H l : Heap) : Kept X H (H ++ l) := fun j o _ ho => by
  rw [List.getElem?_append_left (List.getElem?_eq_some_iff.1 ho).1]
  exact ho
theorem kept_set {X : List Nat} {H H' : Heap} {i : Nat} (x : Option AObj) (hi : i ∈ X) (h : Kept X H H') : Kept X H (H'.set i x) := fun j o hj ho => by
  rw [List.getElem?_set_ne (by rintro rfl; exact hj hi)]
  exact h j o hj ho
theorem kept_new {X : List Nat} {H H' : Heap} {i : Nat} (x : Option AObj) (hi : H.length ≤ i) (h : Kept X H H') : Kept X H (H'.set i x) := fun j o hj ho => by
  have := (List.getElem?_eq_some_iff.1 ho).1
  rw [List.getElem?_set_ne (by omega)]
  exact h j o hj ho
theorem Kept.mono {X Y : List Nat} {H H' : Heap} (h : Kept X H H') (hs : ∀ x, x ∈ X → x ∈ Y) : Kept Y H H' := fun j o hj ho => h j o (fun hx => hj (hs _ hx)) ho
def SlIs (H : Heap) (x : AV) (k : Nat) (es : List (List AV)) : Prop := x = .list k es ∨ (x = .nil ∧ es = []) ∨ ∃ id ty, x = .sref id 0 es.length ∧ H[id]? = some (some ⟨ty, k, es⟩)
theorem SlIs.kept {H H' : Heap} {x : AV} {k : Nat} {es : List (List AV)} (h : SlIs H x k es) (hk : Kept [] H H') : SlIs H' x k es := by
  rcases h with h | h | ⟨id, ty, h1, h2⟩
  · exact .inl h
  · exact .inr (.inl h)
  · exact .inr (.inr ⟨id, ty, h1, hk id _ (by simp) h2⟩)
theorem SlIs.len {H : Heap} {x : AV} {k : Nat} {es : List (List AV)} (h : SlIs H x k es) : alen H x = some (es.length : Int) := by
  rcases h with h | ⟨rfl, rfl⟩ | ⟨id, ty, rfl, h2⟩
  · subst h; rfl
  · rfl
  · simp only [alen, h2]
theorem SlIs.idx {P : Program} {t e : TypeId} {H : Heap} {x : AV} {k : Nat} {es : List (List AV)} (h : SlIs H x k es) (ht : Go.PA.elemOf P t = some e) (hk : k = szOf P e) (hn : knownT P e = true) (i : Nat) (hi : i < es.length) :
    ∃ a, aindexAddr P t H x i = some a ∧ addrCells H a = some es[i] := by
  rcases h with h | ⟨rfl, rfl⟩ | ⟨id, ty, rfl, h2⟩
  · subst h
    refine ⟨.iref es[i], ?_, rfl⟩
    rw [aix_list ht]
    simp [hk, hn, hi]
  · simp at hi
  · refine ⟨.ref id i 0, ?_, ?_⟩
    · rw [aix_sref ht]
      simp [h2, hk, hn, hi]
    · rw [addr_ref]
      simp [h2, hi]
theorem weaker_frz {E : Env} {s : St} (hW : ∀ b, ¬ E.W b) (j : Nat) {id lo n : Nat} {o : AObj} (hj : s.t j = .sref id lo n) (ho : s.H[id]? = some (some o)) (hi : Imm (.list o.k ((o.es.drop lo).take n))) :
    Weaker E s ⟨upd s.t j (.list o.k ((o.es.drop lo).take n)), s.H.set id none⟩ := by
  rintro a w ⟨ρ, ok, g, hx, hd, hs, hr⟩
  obtain ⟨g', x'⟩ := g.kill id (fun b => ok b ∨ ∃ o c, s.H[id]? = some (some o) ∧ ρ id = some (b, c)) (fun _ h => .inl h) (fun b hb => hb.imp (fun h => h) fun ⟨o, c, h1, h2⟩ => ⟨o, c, h1, h2, hW b⟩)
  refine ⟨ρ, _, g', hx.trans x', hd, hs, fun i => ?_⟩
  simp only [upd]
  split
  · rename_i hij
    subst hij
    have hv := hr i
    have hview : view s.H (s.t i) = .list o.k ((o.es.drop lo).take n) := by rw [hj, view_sref, ho, viewS_some]
    have := view_soundX (fun x => x = id) g hv (by rw [hview]; exact hi) (fun x hx => by rw [hj] at hx; simpa [srefs, srefs2, srefs1] using hx)
    rw [hview] at this
    refine this.imm (fun b hb => ?_) hi
    rcases hb with hb | ⟨x, o', c, rfl, h1, h2⟩
    · exact .inl hb
    · exact .inr ⟨o', c, h1, h2⟩
  · exact (hr i).ext x'
def RoundF (j n : Nat) (I : Nat → St → Prop) (Q : Exit → St → Prop) (_ : Bx (I, Q)) : Exit → St → Prop
  | .normal, s' => ∃ n', n' < n ∧ I n' s'
  | .exit i, s' => ∃ id lo m o, s'.t j = .sref id lo m ∧ s'.H[id]? = some (some o) ∧ Imm (.list o.k ((o.es.drop lo).take m)) ∧ Q (.exit i) ⟨upd s'.t j (.list o.k ((o.es.drop lo).take m)), s'.H.set id none⟩
  | x, s' => Q x s'
theorem roundF_normal {j n : Nat} {I : Nat → St → Prop} {Q : Exit → St → Prop} {b : Bx (I, Q)} {s : St} : RoundF j n I Q b .normal s = (∃ n', n' < n ∧ I n' s) := rfl
theorem roundF_ret {j n : Nat} {I : Nat → St → Prop} {Q : Exit → St → Prop} {b : Bx (I, Q)} {s : St} : RoundF j n I Q b .ret s = Q .ret s := rfl
def Frz (j : Nat) (s : St) (k : St → Prop) : Prop := ∃ id lo m o, s.t j = .sref id lo m ∧ s.H[id]? = some (some o) ∧ Imm (.list o.k ((o.es.drop lo).take m)) ∧ k ⟨upd s.t j (.list o.k ((o.es.drop lo).take m)), s.H.set id none⟩
theorem roundF_frz {j n i : Nat} {I : Nat → St → Prop} {Q : Exit → St → Prop} {b : Bx (I, Q)} {s : St} : RoundF j n I Q b (.exit i) s = Frz j s (Q (.exit i)) := rfl
theorem frz {j : Nat} {s : St} {k : St → Prop} (id n : Nat) (ty : TypeId) (kk : Nat) (es : List (List AV)) (h1 : s.t j = .sref id 0 n) (h2 : s.H[id]? = some (some ⟨ty, kk, es⟩)) (hn : n = es.length) (hi : Imm (.list kk es)) (h : k ⟨upd s.t j (.list kk es), s.H.set id none⟩) : Frz j s k := by
  refine ⟨id, 0, n, _, h1, h2, ?_, ?_⟩
  · simpa [hn] using hi
  · simpa [hn] using h
attribute [go_sem ↓] roundF_normal roundF_frz roundF_ret
theorem aloopF {E : Env} {c : Code} {s0 : St} {Q : Exit → St → Prop} {b : Bx (c, Q)} (j : Nat) (hW : ∀ b, ¬ E.W b) (I : Nat → St → Prop) (n0 : Nat) (hc : codeOk E.N c = true) (h0 : I n0 s0)
    (round : ∀ n s, I n s → awp E c s (RoundF j n I Q .mk)) : ALoop E c s0 Q b := by
  intro a w r
  refine wp_loop_ghost (fun n a w => ∃ s, I n s ∧ Rel E s a w) n0 ⟨_, h0, r⟩ fun n a w hI => ?_
  obtain ⟨s, hs, r⟩ := hI
  refine wp_mono (awp_sound c s _ hc (round n s hs) a w r) fun e a' w' h' => ?_
  obtain ⟨s', h1, h2⟩ := h'
  cases e with
  | normal =>
    obtain ⟨n', hlt, hI'⟩ := h1
    exact ⟨n', hlt, _, hI', h2⟩
  | exit i =>
    obtain ⟨id, lo, m, o, e1, e2, e3, e4⟩ := h1
    exact ⟨_, e4, weaker_frz hW j e1 e2 e3 a' w' h2⟩
  | _ => exact ⟨s', h1, h2⟩
def encL {α : Type} (enc : α → List AV) (l : List α) : List (List AV) := l.map enc
section
variable {α : Type} (enc : α → List AV)
theorem encL_nil : encL enc [] = [] := rfl
theorem encL_len (l : List α) : (encL enc l).length = l.length := by simp [encL]
theorem encL_snoc (l : List α) (a : α) : encL enc l ++ [enc a] = encL enc (l ++ [a]) := by simp [encL]
theorem encL_app (l m : List α) : encL enc l ++ encL enc m = encL enc (l ++ m) := by simp [encL]
theorem encL_take (l : List α) (n : Nat) (h : n = l.length) : (encL enc l).take n = encL enc l := by subst h; rw [← encL_len enc l, List.take_length]
theorem encL_takeL (l : List α) : (encL enc l).take l.length = encL enc l := encL_take enc l _ rfl
theorem encL_get (l : List α) (i : Nat) : (encL enc l)[i]? = (l[i]?).map enc := by simp [encL]
theorem imm_encL {k : Nat} (h : ∀ a c, c ∈ enc a → Imm c) (l : List α) : Imm (.list k (encL enc l)) := by
  refine .list fun e he c hc => ?_
  simp only [encL, List.mem_map] at he
  obtain ⟨a, _, rfl⟩ := he
  exact h a c hc
theorem encL_set (l : List α) (i : Nat) (a : α) : (encL enc l).set i (enc a) = encL enc (l.set i a) := by simp [encL, List.map_set]
attribute [go_sem] encL_nil encL_len encL_takeL encL_get
end
def idxFrom {α : Type} (p : α → Bool) : Nat → List α → Int
  | _, [] => -1
  | k, a :: l => if p a = true then k else idxFrom p (k + 1) l
def idxI {α : Type} (p : α → Bool) (l : List α) : Int := idxFrom p 0 l
theorem idxFrom_spec {α : Type} (p : α → Bool) : ∀ (l : List α) (k : Nat), (idxFrom p k l = -1 ∧ ∀ a, a ∈ l → p a = false) ∨ ∃ (i : Nat) (a : α), l[i]? = some a ∧ p a = true ∧ idxFrom p k l = ((k + i : Nat) : Int) ∧ ∀ (j : Nat) (b : α), j < i → l[j]? = some b → p b = false
  | [], k => .inl ⟨rfl, by simp⟩
  | a :: l, k => by
    simp only [idxFrom]
    by_cases h : p a = true
    · rw [if_pos h]
      exact .inr ⟨0, a, rfl, h, rfl, fun j b hj => by omega⟩
    · rw [if_neg h]
      have h' : p a = false := by simpa using h
      rcases idxFrom_spec p l (k + 1) with ⟨h1, h2⟩ | ⟨i, b, h1, h2, h3, h4⟩
      · refine .inl ⟨h1, fun b hb => ?_⟩
        rcases List.mem_cons.1 hb with rfl | hb
        · exact h'
        · exact h2 b hb
      · refine .inr ⟨i + 1, b, by simpa using h1, h2, by rw [h3]; congr 1; omega, fun j c hj hc => ?_⟩
        match j, hj, hc with
        | 0, hj, hc => simp at hc; subst hc; exact h'
        | j + 1, hj, hc => exact h4 j c (by omega) (by simpa using hc)
theorem idxI_spec {α : Type} (p : α → Bool) (l : List α) : (idxI p l = -1 ∧ ∀ a, a ∈ l → p a = false) ∨ ∃ (i : Nat) (a : α), l[i]? = some a ∧ p a = true ∧ idxI p l = (i : Int) ∧ ∀ (j : Nat) (b : α), j < i → l[j]? = some b → p b = false := by
  have := idxFrom_spec p l 0
  simpa [idxI] using this
theorem args_sref {H : Heap} {id n : Nat} {ty : TypeId} {k : Nat} {es : List (List AV)} {as0 as' : List AV} (hH : H[id]? = some (some ⟨ty, k, es⟩)) (hn : n = es.length) (hi : Imm (.list k es)) (ht : Args H as0 as') : Args H (.sref id 0 n :: as0) (.list k es :: as') := by
  have hv : view H (.sref id 0 n) = .list k es := by rw [view_sref, hH, viewS_some]; simp [hn]
  exact .cons (by rw [hv]; exact .refl _) (by rw [hv]; exact hi) ht
theorem args_imm {H : Heap} {a : AV} {as0 as' : List AV} (hi : Imm a) (ht : Args H as0 as') : Args H (a :: as0) (a :: as') := .cons (by rw [view_imm hi]; exact .refl _) (by rw [view_imm hi]; exact hi) ht
inductive CW (H : Heap) : List AV → List AV → Prop
  | nil : CW H [] []
  | cons {a a' : AV} {as0 as' : List AV} (h : Weak (view1 H a) a') (hi : Imm (view1 H a)) (hi' : Imm a') (t : CW H as0 as') : CW H (a :: as0) (a' :: as')
theorem CW.len {H : Heap} {as0 as' : List AV} (h : CW H as0 as') : as0.length = as'.length := by
  induction h with
  | nil => rfl
  | cons _ _ _ _ ih => simp [ih]
theorem CW.weak {H : Heap} {as0 as' : List AV} (h : CW H as0 as') : Weak (.agg (as0.map (view1 H))) (.agg as') := by
  refine .agg (by simpa using h.len) ?_
  induction h with
  | nil => intro i a b h; simp at h
  | cons h _ _ _ ih =>
    intro i a b ha hb
    match i, ha, hb with
    | 0, ha, hb => simp at ha hb; subst ha; subst hb; exact h
    | i + 1, ha, hb => exact ih i a b (by simpa using ha) (by simpa using hb)
theorem CW.imm {H : Heap} {as0 as' : List AV} (h : CW H as0 as') : Imm (.agg (as0.map (view1 H))) := by
  refine .agg fun c hc => ?_
  induction h with
  | nil => simp at hc
  | cons _ h _ _ ih =>
    rcases List.mem_cons.1 hc with rfl | hc
    · exact h
    · exact ih hc
theorem CW.imm' {H : Heap} {as0 as' : List AV} (h : CW H as0 as') : Imm (.agg as') := by
  refine .agg fun c hc => ?_
  induction h with
  | nil => simp at hc
  | cons _ _ h _ ih =>
    rcases List.mem_cons.1 hc with rfl | hc
    · exact h
    · exact ih hc
theorem cw_imm {H : Heap} {a : AV} {as0 as' : List AV} (hi : Imm a) (t : CW H as0 as') : CW H (a :: as0) (a :: as') := by
  refine .cons ?_ ?_ hi t
  · rw [view1_imm hi]; exact .refl a
  · rw [view1_imm hi]; exact hi
theorem cw_sc {H : Heap} {v : Value} {as0 as' : List AV} (t : CW H as0 as') : CW H (.sc v :: as0) (.sc v :: as') := cw_imm .sc t
theorem cw_nil {H : Heap} {k : Nat} {as0 as' : List AV} (t : CW H as0 as') : CW H (.nil :: as0) (.list k [] :: as') := .cons (.nil k) .nil (imm_list.2 (by simp)) t
theorem cw_sref {H : Heap} {id n : Nat} {ty : TypeId} {k : Nat} {es : List (List AV)} {as0 as' : List AV} (hH : H[id]? = some (some ⟨ty, k, es⟩)) (hn : n = es.length) (hi : Imm (.list k es)) (t : CW H as0 as') : CW H (.sref id 0 n :: as0) (.list k es :: as') := by
  have hv : view1 H (.sref id 0 n) = .list k es := by rw [view1_sref, hH, viewS_some]; simp [hn]
  exact .cons (by rw [hv]; exact .refl _) (by rw [hv]; exact hi) hi t
theorem args_agg {H : Heap} {cs cs' as0 as' : List AV} (h : CW H cs cs') (ht : Args H as0 as') : Args H (.agg cs :: as0) (.agg cs' :: as') := .cons h.weak h.imm ht
theorem done_agg {H : Heap} {cs cs' : List AV} {Q : AV → Prop} {b : Bx Q} (h : CW H cs cs') (hq : Q (.agg cs')) : Done H (.agg cs) Q b := done_weak h.imm h.imm' h.weak hq
theorem done_agg2 {H : Heap} {cs cs' : List AV} {v : Value} {Q : AV → Prop} {b : Bx Q} (h : CW H cs cs') (hq : Q (.tup [.agg cs', .sc v])) : Done H (.tup [.agg cs, .sc v]) Q b :=
  done_weak (imm_pair h.imm .sc) (imm_pair h.imm' .sc) (weak_tup2 h.weak (.refl _)) hq
open Go.RowKit
def valI : Int → Value := Value.int .i64
def valB : Bool → Value := Value.bool
def encK {β : Type} (f : β → Value) (l : List (Int × β)) : List (List AV) := l.map fun e => [.sc (.int .i64 e.1), .sc (f e.2)]
def imK {β : Type} (f : β → Value) (l : List (Int × β)) : List (Value × Value) := l.map fun e => (.int .i64 e.1, f e.2)
def getM {β : Type} : List (Int × β) → Int → Option β
  | [], _ => none
  | e :: l, k => if e.1 = k then some e.2 else getM l k
def putM {β : Type} : List (Int × β) → Int → β → List (Int × β)
  | [], k, v => [(k, v)]
  | e :: l, k, v => if e.1 = k then (k, v) :: l else e :: putM l k v
section
variable {β : Type} {f : β → Value}
theorem entsOf_encK (l : List (Int × β)) : entsOf (encK f l) = some (l.map fun e => (.int .i64 e.1, .sc (f e.2))) := by
  induction l with
  | nil => rfl
  | cons e l ih =>
    simp only [encK, List.map_cons, entsOf] at ih ⊢
    rw [ih]
    rfl
theorem ents1_encK (l : List (Int × β)) : ents1 (encK f l) = some (imK f l) := by
  induction l with
  | nil => rfl
  | cons e l ih =>
    simp only [encK, List.map_cons, ents1] at ih ⊢
    rw [ih]
    rfl
theorem afind_map (l : List (Int × β)) (n : Int) : afind (.int .i64) (.int .i64 n) (l.map fun e => (.int .i64 e.1, .sc (f e.2))) = some ((getM l n).map fun b => .sc (f b)) := by
  induction l with
  | nil => rfl
  | cons e l ih =>
    simp only [List.map_cons, afind, Instr.sameNow, getM, if_true]
    by_cases h : n = e.1
    · subst h; simp
    · rw [if_neg (fun q => h q.symm)]
      have hb : (n == e.1) = false := by simpa using h
      rw [hb]
      simp only [ih]
theorem aput_encK (l : List (Int × β)) (n : Int) (b : β) : aput (.int .i64) (.int .i64 n) (.sc (f b)) (encK f l) = some (encK f (putM l n b)) := by
  induction l with
  | nil => rfl
  | cons e l ih =>
    simp only [encK, List.map_cons, aput, Instr.sameNow, putM, if_true] at ih ⊢
    by_cases h : n = e.1
    · subst h; simp
    · rw [if_neg (fun q => h q.symm)]
      have hb : (n == e.1) = false := by simpa using h
      rw [hb]
      simp only [ih, Option.map_some, List.map_cons]
end
section
variable {E : Env} {P : Program} {H : Heap}
theorem aeff_makeMap {t : TypeId} {ev : Operand → AV} {C : AV → Heap → Prop} : AEff E (.makeMap t none) ev H C = OV2 (.mref H.length) (H ++ [some ⟨0, 2, []⟩]) C .mk := rfl
theorem aeff_mapUpdate {t : TypeId} {x k v : Operand} {ev : Operand → AV} {C : AV → Heap → Prop} : AEff E (.mapUpdate t x k v) ev H C = OB (aupdate E.P t H (ev x) (ev k) (ev v)) (fun H' => C (.sc undef) H') .mk := by
  simp only [AEff]
  cases aupdate E.P t H (ev x) (ev k) (ev v) <;> rfl
theorem aeff_lookup {t : TypeId} {x k : Operand} {c : Bool} {ev : Operand → AV} {C : AV → Heap → Prop} : AEff E (.lookup t x k c) ev H C = OB (alookup E.P t H (ev x) (ev k) c) (fun v => C v H) .mk := aeff_read rfl
theorem aeff_entry {x : Operand} {ev : Operand → AV} {C : AV → Heap → Prop} : AEff E (.entry x) ev H C = OB (aentry H (ev x)) (fun v => C v H) .mk := aeff_read rfl
def rangeV (E : Env) (t : TypeId) (x : AV) (H : Heap) (C : AV → Heap → Prop) (_ : Bx C) : Prop := match x with
  | .imap es => if isMapT E.P t then C (.miter H.length) (H ++ [some ⟨0, 3, [[.junk, .junk, .imap es]]⟩]) else False
  | _ => False
theorem aeff_range {t : TypeId} {x : Operand} {ev : Operand → AV} {C : AV → Heap → Prop} : AEff E (.range t x) ev H C = rangeV E t (ev x) H C .mk := by
  simp only [AEff, rangeV]
  rfl
theorem rangeV_imap {t : TypeId} {es : List (Value × Value)} {C : AV → Heap → Prop} {b : Bx C} (h : isMapT E.P t = true) : rangeV E t (.imap es) H C b = OV2 (.miter H.length) (H ++ [some ⟨0, 3, [[.junk, .junk, .imap es]]⟩]) C .mk := by
  simp only [rangeV, h, if_true, OV2]
def ANext (left : List (Value × Value)) (id : Nat) (o : AObj) (H : Heap) (C : AV → Heap → Prop) (_ : Bx C) : Prop :=
  (left = [] → C (.tup [.sc (.bool false)]) H) ∧ ∀ (i : Nat) (e : Value × Value), left[i]? = some e → C (.tup [.sc (.bool true), .sc e.1, .sc e.2]) (H.set id (some { o with es := [[.sc e.1, .sc e.2, .imap (left.eraseIdx i)]] }))
def nextV (x : AV) (s : Bool) (H : Heap) (C : AV → Heap → Prop) (b : Bx C) : Prop := match x with
  | .miter id => match H[id]? with
    | some (some o) => match o.es with
      | [[_, _, .imap left]] => s = false ∧ ANext left id o H C b
      | _ => False
    | _ => False
  | _ => False
def nextO (y : Option (Option AObj)) (id : Nat) (H : Heap) (C : AV → Heap → Prop) (b : Bx C) : Prop := match y with
  | some (some o) => match o.es with
    | [[_, _, .imap left]] => ANext left id o H C b
    | _ => False
  | _ => False
theorem aeff_next {x : Operand} {ev : Operand → AV} {C : AV → Heap → Prop} : AEff E (.next x false) ev H C = nextV (ev x) false H C .mk := by
  simp only [AEff, nextV, ANext]
  rfl
theorem nextV_it {id : Nat} {C : AV → Heap → Prop} {b : Bx C} : nextV (.miter id) false H C b = nextO H[id]? id H C .mk := by
  simp only [nextV, nextO, true_and]
theorem nextO_some {id ty k : Nat} {a1 a2 : AV} {left : List (Value × Value)} {C : AV → Heap → Prop} {b : Bx C} : nextO (some (some ⟨ty, k, [[a1, a2, .imap left]]⟩)) id H C b = ANext left id ⟨ty, k, [[a1, a2, .imap left]]⟩ H C .mk := rfl
def alookO (P : Program) (t : TypeId) (y : Option (Option AObj)) (k : AV) (c : Bool) : Option AV := match mapOf P t, k, (match y with | some (some o) => entsOf o.es | _ => none) with
  | some (_, d, et), .sc kv, some es => if isKeyB d kv then (match afind d kv es with
    | some (some a) => some (if c then .tup [a, .sc (.bool true)] else a)
    | some none => (azero1 P et).map fun z => if c then .tup [z, .sc (.bool false)] else z
    | none => none) else none
  | _, _, _ => none
theorem alook_mref {t : TypeId} {id : Nat} {k : AV} {c : Bool} : alookup P t H (.mref id) k c = alookO P t H[id]? k c := rfl
theorem look_core {β : Type} {f : β → Value} {d : β} {et : TypeId} (hz : azero1 P et = some (.sc (f d))) (l : List (Int × β)) (n : Int) (c : Bool) :
    (match afind (.int .i64) (.int .i64 n) (l.map fun e => (.int .i64 e.1, .sc (f e.2))) with
    | some (some a) => some (if c then .tup [a, .sc (.bool true)] else a)
    | some none => (azero1 P et).map fun z => if c then .tup [z, .sc (.bool false)] else z
    | none => none) = some (if c then .tup [.sc (f ((getM l n).getD d)), .sc (.bool (getM l n).isSome)] else .sc (f ((getM l n).getD d))) := by
  rw [afind_map]
  cases getM l n with
  | none => simp [hz]
  | some b => simp
theorem alookO_enc {β : Type} {f : β → Value} {d : β} {t kt et : TypeId} (hm : mapOf P t = some (kt, .int .i64, et)) (hz : azero1 P et = some (.sc (f d))) {ty k : Nat} {l : List (Int × β)} {n : Int} {c : Bool} :
    alookO P t (some (some ⟨ty, k, encK f l⟩)) (.sc (.int .i64 n)) c = some (if c then .tup [.sc (f ((getM l n).getD d)), .sc (.bool (getM l n).isSome)] else .sc (f ((getM l n).getD d))) := by
  rw [← look_core hz l n c]
  simp only [alookO, hm, entsOf_encK, isKeyB, decide_true, if_true]
theorem alook_imap {β : Type} {f : β → Value} {d : β} {t kt et : TypeId} (hm : mapOf P t = some (kt, .int .i64, et)) (hz : azero1 P et = some (.sc (f d))) {l : List (Int × β)} {n : Int} {c : Bool} :
    alookup P t H (.imap (imK f l)) (.sc (.int .i64 n)) c = some (if c then .tup [.sc (f ((getM l n).getD d)), .sc (.bool (getM l n).isSome)] else .sc (f ((getM l n).getD d))) := by
  rw [← look_core hz l n c]
  simp only [alookup, hm, ents, imK, List.map_map, isKeyB, decide_true, if_true]
  rfl
theorem alookO_I {t : TypeId} (h : IMap P t (.sc (.int .i64 0))) {ty k : Nat} {l : List (Int × Int)} {n : Int} :
    alookO P t (some (some ⟨ty, k, encK valI l⟩)) (.sc (.int .i64 n)) false = some (.sc (.int .i64 ((getM l n).getD 0))) := by
  obtain ⟨kt, et, hm, hz⟩ := h
  exact (alookO_enc (f := valI) (d := 0) hm hz).trans rfl
theorem alook_I {t : TypeId} (h : IMap P t (.sc (.int .i64 0))) {l : List (Int × Int)} {n : Int} :
    alookup P t H (.imap (imK valI l)) (.sc (.int .i64 n)) false = some (.sc (.int .i64 ((getM l n).getD 0))) := by
  obtain ⟨kt, et, hm, hz⟩ := h
  exact (alook_imap (f := valI) (d := 0) hm hz).trans rfl
theorem alookO_B {t : TypeId} (h : IMap P t (.sc (.bool false))) {ty k : Nat} {l : List (Int × Bool)} {n : Int} :
    alookO P t (some (some ⟨ty, k, encK valB l⟩)) (.sc (.int .i64 n)) false = some (.sc (.bool ((getM l n).getD false))) := by
  obtain ⟨kt, et, hm, hz⟩ := h
  exact (alookO_enc (f := valB) (d := false) hm hz).trans rfl
def aupdO (P : Program) (t : TypeId) (id : Nat) (H : Heap) (y : Option (Option AObj)) (k v : AV) : Option Heap := match mapOf P t, k, y with
  | some (_, d, _), .sc kv, some (some o) => if isKeyB d kv then (aput d kv v o.es).map fun es => H.set id (some { o with es := es }) else none
  | _, _, _ => none
theorem aupd_mref {t : TypeId} {id : Nat} {k v : AV} : aupdate P t H (.mref id) k v = aupdO P t id H H[id]? k v := by
  unfold aupdate aupdO
  cases mapOf P t with
  | none => rfl
  | some m =>
    cases k <;> first | rfl | skip
    rename_i kv
    obtain ⟨kt, d, et⟩ := m
    simp only
    generalize H[id]? = y
    cases y with
    | none => simp
    | some y => cases y with
      | none => simp
      | some o => rfl
theorem aupdO_enc {β : Type} {f : β → Value} {t kt et : TypeId} (hm : mapOf P t = some (kt, .int .i64, et)) {id ty k : Nat} {l : List (Int × β)} {n : Int} {b : β} :
    aupdO P t id H (some (some ⟨ty, k, encK f l⟩)) (.sc (.int .i64 n)) (.sc (f b)) = some (H.set id (some ⟨ty, k, encK f (putM l n b)⟩)) := by
  simp only [aupdO, hm, isKeyB, decide_true, if_true, aput_encK, Option.map_some]
theorem aupdO_I {t : TypeId} (h : IMap P t (.sc (.int .i64 0))) {id ty k : Nat} {l : List (Int × Int)} {n b : Int} :
    aupdO P t id H (some (some ⟨ty, k, encK valI l⟩)) (.sc (.int .i64 n)) (.sc (.int .i64 b)) = some (H.set id (some ⟨ty, k, encK valI (putM l n b)⟩)) := by
  obtain ⟨kt, et, hm, hz⟩ := h
  exact aupdO_enc (f := valI) hm
theorem aupdO_B {t : TypeId} (h : IMap P t (.sc (.bool false))) {id ty k : Nat} {l : List (Int × Bool)} {n : Int} {b : Bool} :
    aupdO P t id H (some (some ⟨ty, k, encK valB l⟩)) (.sc (.int .i64 n)) (.sc (.bool b)) = some (H.set id (some ⟨ty, k, encK valB (putM l n b)⟩)) := by
  obtain ⟨kt, et, hm, hz⟩ := h
  exact aupdO_enc (f := valB) hm
def aentryO (y : Option (Option AObj)) : Option AV := match y with
  | some (some o) => match o.es with
    | [[.sc k, .sc v, _]] => some (.tup [.sc k, .sc v])
    | _ => none
  | _ => none
theorem aentry_it {id : Nat} : aentry H (.miter id) = aentryO H[id]? := rfl
theorem aentryO_some {ty k : Nat} {a b : Value} {c : AV} : aentryO (some (some ⟨ty, k, [[.sc a, .sc b, c]]⟩)) = some (.tup [.sc a, .sc b]) := rfl
def viewM (y : Option (Option AObj)) : AV := match y with
  | some (some o) => match ents1 o.es with
    | some es => .imap es
    | none => .junk
  | _ => .junk
theorem view_mref {id : Nat} : view H (.mref id) = viewM H[id]? := rfl
theorem view1_mref {id : Nat} : view1 H (.mref id) = viewM H[id]? := rfl
theorem view2_mref {id : Nat} : view2 H (.mref id) = viewM H[id]? := rfl
theorem viewM_enc {β : Type} {f : β → Value} {ty k : Nat} {l : List (Int × β)} : viewM (some (some ⟨ty, k, encK f l⟩)) = .imap (imK f l) := by simp only [viewM, ents1_encK]
end
section
variable {E : Env} {ev : Operand → AV} {H : Heap} {k : AV → Prop} {b : Bx k}
theorem ard_lookup {t : TypeId} {x y : Operand} {c : Bool} : ARd E (.lookup t x y c) ev H k b = AEff E (.lookup t x y c) ev H fun v _ => k v := ard_aeff rfl
theorem ard_entry {x : Operand} : ARd E (.entry x) ev H k b = AEff E (.entry x) ev H fun v _ => k v := ard_aeff rfl
end
attribute [go_sem ↓] ard_lookup ard_entry
attribute [go_sem ↓] aeff_makeMap aeff_mapUpdate aeff_lookup aeff_entry aeff_range aeff_next
attribute [go_sem] rangeV_imap nextV_it nextO_some alook_mref alookO_I alookO_B alook_I aupd_mref aupdO_I aupdO_B aentry_it aentryO_some view_mref view1_mref view2_mref viewM_enc
section
variable {E : Env}
end
theorem agree_push {n : Nat} {H l : Heap} (h : n ≤ H.length) : Agree (fun id => decide (id < n)) H (H ++ l) := fun id hid => List.getElem?_append_left (by simp at hid; omega)
theorem agree_3 {a b c : Option AObj} {l l' : Heap} : Agree (fun id => decide (id < 3)) (a :: b :: c :: l) (a :: b :: c :: l') := fun id hid => by
  have : id < 3 := by simpa using hid
  rcases id with _ | _ | _ | id
  · rfl
  · rfl
  · rfl
  · omega
theorem agree_two {H H' : Heap} {X : List Nat} {p q : Nat} {o o' : AObj} (hk : Kept X H H') (hp : H[p]? = some (some o)) (hq : H[q]? = some (some o')) (np : p ∉ X) (nq : q ∉ X) : Agree (fun i => decide (i = p) || decide (i = q)) H H' := fun i hi => by
  simp only [Bool.or_eq_true, decide_eq_true_eq] at hi
  rcases hi with rfl | rfl
  · rw [hp, hk _ _ np hp]
  · rw [hq, hk _ _ nq hq]
theorem agree_1 {a : Option AObj} {l l' : Heap} : Agree (fun id => decide (id = 0)) (a :: l) (a :: l') := fun id hid => by
  have : id = 0 := by simpa using hid
  rcases id with _ | id
  · rfl
  · omega
theorem valI_eq (v : Int) : valI v = Value.int .i64 v := rfl
theorem valB_eq (v : Bool) : valB v = Value.bool v := rfl
def aixA (P : Program) (H : Heap) (a : Option (Nat × TypeId)) (id i j : Nat) (n : Int) : Option AV := match a with
  | some (len, e) => if knownT P e = true ∧ 0 ≤ n ∧ n < len then (if (addrCells H (.ref id i j)).isSome then some (.ref id i (j + n.toNat * szOf P e)) else none) else none
  | none => none
theorem aix_ref {P : Program} {t : TypeId} {H : Heap} {id i j : Nat} {n : Int} (h : Go.PA.elemOf P t = none) : aindexAddr P t H (.ref id i j) n = aixA P H (arrOf P t) id i j n := by
  simp only [aindexAddr, h, aixA]
  cases arrOf P t <;> rfl
theorem aixA_some {P : Program} {H : Heap} {len : Nat} {e : TypeId} {id i j : Nat} {n : Int} : aixA P H (some (len, e)) id i j n = if knownT P e = true ∧ 0 ≤ n ∧ n < len then (if (addrCells H (.ref id i j)).isSome then some (.ref id i (j + n.toNat * szOf P e)) else none) else none := rfl
def aixVA (P : Program) (cs : List AV) (n : Int) (a : Option (Nat × TypeId)) : Option AV := match a with
  | some (len, e) => if knownT P e = true ∧ 0 ≤ n ∧ n < len then apart P e cs (n.toNat * szOf P e) else none
  | none => none
theorem aixV_agg {P : Program} {t : TypeId} {cs : List AV} {k : IntKind} {n : Int} : aixV P t (.agg cs) (.sc (.int k n)) = aixVA P cs n (arrOf P t) := by
  simp only [aixV, aixVA]
  cases arrOf P t <;> rfl
theorem aixVA_some {P : Program} {cs : List AV} {n : Int} {len : Nat} {e : TypeId} : aixVA P cs n (some (len, e)) = if knownT P e = true ∧ 0 ≤ n ∧ n < len then apart P e cs (n.toNat * szOf P e) else none := rfl
attribute [go_sem] aix_ref aixA_some aixV_agg aixVA_some valI_eq valB_eq
def arI (xs : List Int) : List AV := xs.map fun x => .sc (.int .i64 x)
theorem arI_len (xs : List Int) : (arI xs).length = xs.length := by simp [arI]
theorem arI_at (xs : List Int) (j : Nat) : ((arI xs).drop j).head? = (xs[j]?).map fun x => .sc (.int .i64 x) := by simp [arI]
theorem arI_dropLen (xs : List Int) (j : Nat) : ((arI xs).drop j).length = xs.length - j := by simp [arI]
theorem arI_get (xs : List Int) (j : Nat) : (arI xs)[j]? = (xs[j]?).map fun x => .sc (.int .i64 x) := by simp [arI]
theorem arI_all (xs : List Int) : (arI xs).all AV.cellish = true := by simp [arI, AV.cellish, Value.oneCell']
theorem arI_view1 (H : Heap) (xs : List Int) : (arI xs).map (view1 H) = arI xs := by simp [arI, view1]
attribute [go_sem] arI_len arI_at arI_dropLen arI_get arI_all arI_view1
section
variable {E : Env} {H : Heap}
end
end Go.PA
namespace Go.Proofs.YtpjecipdklcjbaaGreatDoor
open Go.PA
open Go.RowKit
abbrev iv (n : Int) : AV := .sc (.int .i64 n)
abbrev bv (b : Bool) : AV := .sc (.bool b)
def encI (n : Int) : List AV := [iv n]
def encS (s : ByteArray) : List AV := [.sc (.string s)]
theorem imm_encI (n : Int) (c : AV) (h : c ∈ encI n) : Imm c := by simp [encI] at h; subst h; exact .sc
structure TSub where
  ID : Int
  Balance : Int
deriving DecidableEq, Inhabited
def TSub.cells (x : TSub) : List AV := [iv x.ID, iv x.Balance]
theorem TSub.len (x : TSub) : x.cells.length = 2 := by simp [TSub.cells]
theorem TSub.imm (x : TSub) (c : AV) (h : c ∈ x.cells) : Imm c := by
  simp only [TSub.cells, List.mem_cons, List.not_mem_nil, or_false] at h
  rcases h with rfl | rfl
  · exact .sc
  · exact .sc
structure TEntry where
  Number : Int
  Day : Int
  From : Int
  To : Int
  Amount : Int
  Ref : Int
deriving DecidableEq, Inhabited
def TEntry.cells (x : TEntry) : List AV := [iv x.Number, iv x.Day, iv x.From, iv x.To, iv x.Amount, iv x.Ref]
theorem TEntry.len (x : TEntry) : x.cells.length = 6 := by simp [TEntry.cells]
theorem TEntry.imm (x : TEntry) (c : AV) (h : c ∈ x.cells) : Imm c := by
  simp only [TEntry.cells, List.mem_cons, List.not_mem_nil, or_false] at h
  rcases h with rfl | rfl | rfl | rfl | rfl | rfl
  · exact .sc
  · exact .sc
  · exact .sc
  · exact .sc
  · exact .sc
  · exact .sc
structure TAccount where
  Credit : Int
  Subs : List TSub
  Entries : List TEntry
deriving DecidableEq, Inhabited
def TAccount.cells (x : TAccount) : List AV := [iv x.Credit, .list 2 (encL TSub.cells x.Subs), .list 6 (encL TEntry.cells x.Entries)]
theorem TAccount.len (x : TAccount) : x.cells.length = 3 := by simp [TAccount.cells]
theorem TAccount.imm (x : TAccount) (c : AV) (h : c ∈ x.cells) : Imm c := by
  simp only [TAccount.cells, List.mem_cons, List.not_mem_nil, or_false] at h
  rcases h with rfl | rfl | rfl
  · exact .sc
  · exact imm_encL _ (TSub.imm) _
  · exact imm_encL _ (TEntry.imm) _
structure TPayment where
  Warrant : Int
  Payee : Int
  Amount : Int
  Due : Int
  Sub : Int
deriving DecidableEq, Inhabited
def TPayment.cells (x : TPayment) : List AV := [iv x.Warrant, iv x.Payee, iv x.Amount, iv x.Due, iv x.Sub]
theorem TPayment.len (x : TPayment) : x.cells.length = 5 := by simp [TPayment.cells]
theorem TPayment.imm (x : TPayment) (c : AV) (h : c ∈ x.cells) : Imm c := by
  simp only [TPayment.cells, List.mem_cons, List.not_mem_nil, or_false] at h
  rcases h with rfl | rfl | rfl | rfl | rfl
  · exact .sc
  · exact .sc
  · exact .sc
  · exact .sc
  · exact .sc
structure TBatch where
  Number : Int
  Day : Int
  Payments : List TPayment
deriving DecidableEq, Inhabited
def TBatch.cells (x : TBatch) : List AV := [iv x.Number, iv x.Day, .list 5 (encL TPayment.cells x.Payments)]
theorem TBatch.len (x : TBatch) : x.cells.length = 3 := by simp [TBatch.cells]
theorem TBatch.imm (x : TBatch) (c : AV) (h : c ∈ x.cells) : Imm c := by
  simp only [TBatch.cells, List.mem_cons, List.not_mem_nil, or_false] at h
  rcases h with rfl | rfl | rfl
  · exact .sc
  · exact .sc
  · exact imm_encL _ (TPayment.imm) _
structure TQueue where
  Waiting : List TPayment
  Known : List Int
  Batches : List TBatch
deriving DecidableEq, Inhabited
def TQueue.cells (x : TQueue) : List AV := [.list 5 (encL TPayment.cells x.Waiting), .list 1 (encL encI x.Known), .list 3 (encL TBatch.cells x.Batches)]
theorem TQueue.len (x : TQueue) : x.cells.length = 3 := by simp [TQueue.cells]
theorem TQueue.imm (x : TQueue) (c : AV) (h : c ∈ x.cells) : Imm c := by
  simp only [TQueue.cells, List.mem_cons, List.not_mem_nil, or_false] at h
  rcases h with rfl | rfl | rfl
  · exact imm_encL _ (TPayment.imm) _
  · exact imm_encL _ (imm_encI) _
  · exact imm_encL _ (TBatch.imm) _
structure TItem where
  Payment : TPayment
  State : Int
  Attempts : Int
deriving DecidableEq, Inhabited
def TItem.cells (x : TItem) : List AV := x.Payment.cells ++ [iv x.State, iv x.Attempts]
theorem TItem.len (x : TItem) : x.cells.length = 7 := by simp [TItem.cells, TPayment.len]
theorem TItem.imm (x : TItem) (c : AV) (h : c ∈ x.cells) : Imm c := by
  simp only [TItem.cells, List.mem_append, List.mem_cons, List.not_mem_nil, or_false] at h
  rcases h with (h) | (rfl | rfl)
  · exact TPayment.imm _ c h
  · exact .sc
  · exact .sc
structure TDesk where
  Account : TAccount
  Queue : TQueue
  Items : List TItem
deriving DecidableEq, Inhabited
def TDesk.cells (x : TDesk) : List AV := x.Account.cells ++ x.Queue.cells ++ [.list 7 (encL TItem.cells x.Items)]
theorem TDesk.len (x : TDesk) : x.cells.length = 7 := by simp [TDesk.cells, TAccount.len, TQueue.len]
theorem TDesk.imm (x : TDesk) (c : AV) (h : c ∈ x.cells) : Imm c := by
  simp only [TDesk.cells, List.mem_append, List.mem_cons, List.not_mem_nil, or_false] at h
  rcases h with ((h) | (h)) | (rfl)
  · exact TAccount.imm _ c h
  · exact TQueue.imm _ c h
  · exact imm_encL _ (TItem.imm) _
structure TFlow where
  Day : Int
  Amount : Int
  Kind : Int
  Ref : Int
deriving DecidableEq, Inhabited
def TFlow.cells (x : TFlow) : List AV := [iv x.Day, iv x.Amount, iv x.Kind, iv x.Ref]
theorem TFlow.len (x : TFlow) : x.cells.length = 4 := by simp [TFlow.cells]
theorem TFlow.imm (x : TFlow) (c : AV) (h : c ∈ x.cells) : Imm c := by
  simp only [TFlow.cells, List.mem_cons, List.not_mem_nil, or_false] at h
  rcases h with rfl | rfl | rfl | rfl
  · exact .sc
  · exact .sc
  · exact .sc
  · exact .sc
structure TClaim where
  ID : Int
  Payer : Int
  Amount : Int
  Open : Int
  Day : Int
  Code : ByteArray
deriving DecidableEq, Inhabited
def TClaim.cells (x : TClaim) : List AV := [iv x.ID, iv x.Payer, iv x.Amount, iv x.Open, iv x.Day, .sc (.string x.Code)]
theorem TClaim.len (x : TClaim) : x.cells.length = 6 := by simp [TClaim.cells]
theorem TClaim.imm (x : TClaim) (c : AV) (h : c ∈ x.cells) : Imm c := by
  simp only [TClaim.cells, List.mem_cons, List.not_mem_nil, or_false] at h
  rcases h with rfl | rfl | rfl | rfl | rfl | rfl
  · exact .sc
  · exact .sc
  · exact .sc
  · exact .sc
  · exact .sc
  · exact .sc
structure TIncome where
  Number : Int
  Day : Int
  Payer : Int
  Amount : Int
  Claim : Int
deriving DecidableEq, Inhabited
def TIncome.cells (x : TIncome) : List AV := [iv x.Number, iv x.Day, iv x.Payer, iv x.Amount, iv x.Claim]
theorem TIncome.len (x : TIncome) : x.cells.length = 5 := by simp [TIncome.cells]
theorem TIncome.imm (x : TIncome) (c : AV) (h : c ∈ x.cells) : Imm c := by
  simp only [TIncome.cells, List.mem_cons, List.not_mem_nil, or_false] at h
  rcases h with rfl | rfl | rfl | rfl | rfl
  · exact .sc
  · exact .sc
  · exact .sc
  · exact .sc
  · exact .sc
structure TMatch where
  Income : Int
  Claim : Int
  Amount : Int
deriving DecidableEq, Inhabited
def TMatch.cells (x : TMatch) : List AV := [iv x.Income, iv x.Claim, iv x.Amount]
theorem TMatch.len (x : TMatch) : x.cells.length = 3 := by simp [TMatch.cells]
theorem TMatch.imm (x : TMatch) (c : AV) (h : c ∈ x.cells) : Imm c := by
  simp only [TMatch.cells, List.mem_cons, List.not_mem_nil, or_false] at h
  rcases h with rfl | rfl | rfl
  · exact .sc
  · exact .sc
  · exact .sc
structure TCash where
  Claims : List TClaim
  Incomes : List TIncome
  Matches : List TMatch
  Loose : List Int
deriving DecidableEq, Inhabited
def TCash.cells (x : TCash) : List AV := [.list 6 (encL TClaim.cells x.Claims), .list 5 (encL TIncome.cells x.Incomes), .list 3 (encL TMatch.cells x.Matches), .list 1 (encL encI x.Loose)]
theorem TCash.len (x : TCash) : x.cells.length = 4 := by simp [TCash.cells]
theorem TCash.imm (x : TCash) (c : AV) (h : c ∈ x.cells) : Imm c := by
  simp only [TCash.cells, List.mem_cons, List.not_mem_nil, or_false] at h
  rcases h with rfl | rfl | rfl | rfl
  · exact imm_encL _ (TClaim.imm) _
  · exact imm_encL _ (TIncome.imm) _
  · exact imm_encL _ (TMatch.imm) _
  · exact imm_encL _ (imm_encI) _
structure TPosition where
  Day : Int
  Amount : Int
deriving DecidableEq, Inhabited
def TPosition.cells (x : TPosition) : List AV := [iv x.Day, iv x.Amount]
theorem TPosition.len (x : TPosition) : x.cells.length = 2 := by simp [TPosition.cells]
theorem TPosition.imm (x : TPosition) (c : AV) (h : c ∈ x.cells) : Imm c := by
  simp only [TPosition.cells, List.mem_cons, List.not_mem_nil, or_false] at h
  rcases h with rfl | rfl
  · exact .sc
  · exact .sc
structure TTax where
  Code : ByteArray
  Payer : Int
  Base : Int
  Num : Int
  Den : Int
  First : Int
  Every : Int
  Times : Int
deriving DecidableEq, Inhabited
def TTax.cells (x : TTax) : List AV := [.sc (.string x.Code), iv x.Payer, iv x.Base, iv x.Num, iv x.Den, iv x.First, iv x.Every, iv x.Times]
theorem TTax.len (x : TTax) : x.cells.length = 8 := by simp [TTax.cells]
theorem TTax.imm (x : TTax) (c : AV) (h : c ∈ x.cells) : Imm c := by
  simp only [TTax.cells, List.mem_cons, List.not_mem_nil, or_false] at h
  rcases h with rfl | rfl | rfl | rfl | rfl | rfl | rfl | rfl
  · exact .sc
  · exact .sc
  · exact .sc
  · exact .sc
  · exact .sc
  · exact .sc
  · exact .sc
  · exact .sc
open Go.PA
@[go_sem] theorem sz_2 : szOf Tryz.prog 2 = 1 := by kernel_rfl
@[go_sem] theorem kn_2 : knownT Tryz.prog 2 = true := by kernel_rfl
@[go_sem] theorem ag_2 : aggOf Tryz.prog 2 = false := by kernel_rfl
@[go_sem] theorem us_2 : (Tryz.prog.underlying 2).isSome = true := by kernel_rfl
@[go_sem] theorem un_2 : Tryz.prog.underlying 2 = some (.int .i64) := by kernel_rfl
@[go_sem] theorem ze_2 : zeros Tryz.prog 2 = some [.sc (.int .i64 0)] := by kernel_rfl
@[go_sem] theorem az_2 : azero1 Tryz.prog 2 = some (.sc (.int .i64 0)) := by kernel_rfl
@[go_sem] theorem by_2 : bytesOf Tryz.prog 2 = 8 := by kernel_rfl
@[go_sem] theorem sz_3 : szOf Tryz.prog 3 = 1 := by kernel_rfl
@[go_sem] theorem kn_3 : knownT Tryz.prog 3 = true := by kernel_rfl
@[go_sem] theorem ag_3 : aggOf Tryz.prog 3 = false := by kernel_rfl
@[go_sem] theorem us_3 : (Tryz.prog.underlying 3).isSome = true := by kernel_rfl
@[go_sem] theorem un_3 : Tryz.prog.underlying 3 = some (.int .i64) := by kernel_rfl
@[go_sem] theorem ze_3 : zeros Tryz.prog 3 = some [.sc (.int .i64 0)] := by kernel_rfl
@[go_sem] theorem az_3 : azero1 Tryz.prog 3 = some (.sc (.int .i64 0)) := by kernel_rfl
@[go_sem] theorem by_3 : bytesOf Tryz.prog 3 = 8 := by kernel_rfl
@[go_sem] theorem sz_4 : szOf Tryz.prog 4 = 1 := by kernel_rfl
@[go_sem] theorem kn_4 : knownT Tryz.prog 4 = true := by kernel_rfl
@[go_sem] theorem ag_4 : aggOf Tryz.prog 4 = false := by kernel_rfl
@[go_sem] theorem us_4 : (Tryz.prog.underlying 4).isSome = true := by kernel_rfl
@[go_sem] theorem un_4 : Tryz.prog.underlying 4 = some .bool := by kernel_rfl
@[go_sem] theorem ze_4 : zeros Tryz.prog 4 = some [.sc (.bool false)] := by kernel_rfl
@[go_sem] theorem az_4 : azero1 Tryz.prog 4 = some (.sc (.bool false)) := by kernel_rfl
@[go_sem] theorem by_4 : bytesOf Tryz.prog 4 = 1 := by kernel_rfl
@[go_sem] theorem sz_5 : szOf Tryz.prog 5 = 1 := by kernel_rfl
@[go_sem] theorem kn_5 : knownT Tryz.prog 5 = true := by kernel_rfl
@[go_sem] theorem ag_5 : aggOf Tryz.prog 5 = false := by kernel_rfl
@[go_sem] theorem us_5 : (Tryz.prog.underlying 5).isSome = true := by kernel_rfl
@[go_sem] theorem un_5 : Tryz.prog.underlying 5 = some (.int .u8) := by kernel_rfl
@[go_sem] theorem ze_5 : zeros Tryz.prog 5 = some [.sc (.int .u8 0)] := by kernel_rfl
@[go_sem] theorem az_5 : azero1 Tryz.prog 5 = some (.sc (.int .u8 0)) := by kernel_rfl
@[go_sem] theorem by_5 : bytesOf Tryz.prog 5 = 1 := by kernel_rfl
@[go_sem] theorem sz_9 : szOf Tryz.prog 9 = 1 := by kernel_rfl
@[go_sem] theorem kn_9 : knownT Tryz.prog 9 = true := by kernel_rfl
@[go_sem] theorem ag_9 : aggOf Tryz.prog 9 = false := by kernel_rfl
@[go_sem] theorem us_9 : (Tryz.prog.underlying 9).isSome = true := by kernel_rfl
@[go_sem] theorem un_9 : Tryz.prog.underlying 9 = some .string := by kernel_rfl
@[go_sem] theorem ze_9 : zeros Tryz.prog 9 = some [.sc (.string ByteArray.empty)] := by kernel_rfl
@[go_sem] theorem az_9 : azero1 Tryz.prog 9 = some (.sc (.string ByteArray.empty)) := by kernel_rfl
@[go_sem] theorem by_9 : bytesOf Tryz.prog 9 = 16 := by kernel_rfl
@[go_sem] theorem sz_12 : szOf Tryz.prog 12 = 1 := by kernel_rfl
@[go_sem] theorem kn_12 : knownT Tryz.prog 12 = true := by kernel_rfl
@[go_sem] theorem ag_12 : aggOf Tryz.prog 12 = false := by kernel_rfl
@[go_sem] theorem us_12 : (Tryz.prog.underlying 12).isSome = true := by kernel_rfl
@[go_sem] theorem un_12 : Tryz.prog.underlying 12 = some (.int .u64) := by kernel_rfl
@[go_sem] theorem ze_12 : zeros Tryz.prog 12 = some [.sc (.int .u64 0)] := by kernel_rfl
@[go_sem] theorem az_12 : azero1 Tryz.prog 12 = some (.sc (.int .u64 0)) := by kernel_rfl
@[go_sem] theorem by_12 : bytesOf Tryz.prog 12 = 8 := by kernel_rfl
@[go_sem] theorem sz_17 : szOf Tryz.prog 17 = 1 := by kernel_rfl
@[go_sem] theorem kn_17 : knownT Tryz.prog 17 = true := by kernel_rfl
@[go_sem] theorem ag_17 : aggOf Tryz.prog 17 = false := by kernel_rfl
@[go_sem] theorem us_17 : (Tryz.prog.underlying 17).isSome = true := by kernel_rfl
@[go_sem] theorem ze_17 : zeros Tryz.prog 17 = some [.sc (.pointer none)] := by kernel_rfl
@[go_sem] theorem by_17 : bytesOf Tryz.prog 17 = 8 := by kernel_rfl
@[go_sem] theorem sz_21 : szOf Tryz.prog 21 = 1 := by kernel_rfl
@[go_sem] theorem kn_21 : knownT Tryz.prog 21 = true := by kernel_rfl
@[go_sem] theorem ag_21 : aggOf Tryz.prog 21 = false := by kernel_rfl
@[go_sem] theorem us_21 : (Tryz.prog.underlying 21).isSome = true := by kernel_rfl
@[go_sem] theorem un_21 : Tryz.prog.underlying 21 = some (.int .i32) := by kernel_rfl
@[go_sem] theorem ze_21 : zeros Tryz.prog 21 = some [.sc (.int .i32 0)] := by kernel_rfl
@[go_sem] theorem az_21 : azero1 Tryz.prog 21 = some (.sc (.int .i32 0)) := by kernel_rfl
@[go_sem] theorem by_21 : bytesOf Tryz.prog 21 = 4 := by kernel_rfl
@[go_sem] theorem sz_22 : szOf Tryz.prog 22 = 1 := by kernel_rfl
@[go_sem] theorem kn_22 : knownT Tryz.prog 22 = true := by kernel_rfl
@[go_sem] theorem ag_22 : aggOf Tryz.prog 22 = false := by kernel_rfl
@[go_sem] theorem us_22 : (Tryz.prog.underlying 22).isSome = true := by kernel_rfl
@[go_sem] theorem el_22 : Go.PA.elemOf Tryz.prog 22 = some 3 := by kernel_rfl
@[go_sem] theorem un_22 : Tryz.prog.underlying 22 = some (.slice 3) := by kernel_rfl
@[go_sem] theorem ze_22 : zeros Tryz.prog 22 = some [.nil] := by kernel_rfl
@[go_sem] theorem az_22 : azero1 Tryz.prog 22 = some (.nil) := by kernel_rfl
@[go_sem] theorem by_22 : bytesOf Tryz.prog 22 = 24 := by kernel_rfl
@[go_sem] theorem sz_23 : szOf Tryz.prog 23 = 1 := by kernel_rfl
@[go_sem] theorem kn_23 : knownT Tryz.prog 23 = true := by kernel_rfl
@[go_sem] theorem ag_23 : aggOf Tryz.prog 23 = false := by kernel_rfl
@[go_sem] theorem us_23 : (Tryz.prog.underlying 23).isSome = true := by kernel_rfl
@[go_sem] theorem ze_23 : zeros Tryz.prog 23 = some [.sc (.pointer none)] := by kernel_rfl
@[go_sem] theorem by_23 : bytesOf Tryz.prog 23 = 8 := by kernel_rfl
@[go_sem] theorem sz_25 : szOf Tryz.prog 25 = 1 := by kernel_rfl
@[go_sem] theorem kn_25 : knownT Tryz.prog 25 = true := by kernel_rfl
@[go_sem] theorem ag_25 : aggOf Tryz.prog 25 = false := by kernel_rfl
@[go_sem] theorem us_25 : (Tryz.prog.underlying 25).isSome = true := by kernel_rfl
@[go_sem] theorem el_25 : Go.PA.elemOf Tryz.prog 25 = some 170 := by kernel_rfl
@[go_sem] theorem un_25 : Tryz.prog.underlying 25 = some (.slice 170) := by kernel_rfl
@[go_sem] theorem ze_25 : zeros Tryz.prog 25 = some [.nil] := by kernel_rfl
@[go_sem] theorem az_25 : azero1 Tryz.prog 25 = some (.nil) := by kernel_rfl
@[go_sem] theorem by_25 : bytesOf Tryz.prog 25 = 24 := by kernel_rfl
@[go_sem] theorem sz_26 : szOf Tryz.prog 26 = 1 := by kernel_rfl
@[go_sem] theorem kn_26 : knownT Tryz.prog 26 = true := by kernel_rfl
@[go_sem] theorem ag_26 : aggOf Tryz.prog 26 = false := by kernel_rfl
@[go_sem] theorem us_26 : (Tryz.prog.underlying 26).isSome = true := by kernel_rfl
@[go_sem] theorem el_26 : Go.PA.elemOf Tryz.prog 26 = some 94 := by kernel_rfl
@[go_sem] theorem un_26 : Tryz.prog.underlying 26 = some (.slice 94) := by kernel_rfl
@[go_sem] theorem ze_26 : zeros Tryz.prog 26 = some [.nil] := by kernel_rfl
@[go_sem] theorem az_26 : azero1 Tryz.prog 26 = some (.nil) := by kernel_rfl
@[go_sem] theorem by_26 : bytesOf Tryz.prog 26 = 24 := by kernel_rfl
@[go_sem] theorem sz_27 : szOf Tryz.prog 27 = 3 := by kernel_rfl
@[go_sem] theorem kn_27 : knownT Tryz.prog 27 = true := by kernel_rfl
@[go_sem] theorem ag_27 : aggOf Tryz.prog 27 = true := by kernel_rfl
@[go_sem] theorem us_27 : (Tryz.prog.underlying 27).isSome = true := by kernel_rfl
@[go_sem] theorem fd_27_0 : fieldOf Tryz.prog 27 0 = some (0, 3) := by kernel_rfl
@[go_sem] theorem fd_27_1 : fieldOf Tryz.prog 27 1 = some (1, 25) := by kernel_rfl
@[go_sem] theorem fd_27_2 : fieldOf Tryz.prog 27 2 = some (2, 26) := by kernel_rfl
@[go_sem] theorem el_27 : Go.PA.elemOf Tryz.prog 27 = none := by kernel_rfl
@[go_sem] theorem ar_27 : arrOf Tryz.prog 27 = none := by kernel_rfl
@[go_sem] theorem fk_27 : fieldsKnown Tryz.prog 27 = true := by kernel_rfl
@[go_sem] theorem ze_27 : zeros Tryz.prog 27 = some [.sc (.int .i64 0), .nil, .nil] := by kernel_rfl
@[go_sem] theorem by_27 : bytesOf Tryz.prog 27 = 56 := by kernel_rfl
@[go_sem] theorem sz_28 : szOf Tryz.prog 28 = 3 := by kernel_rfl
@[go_sem] theorem kn_28 : knownT Tryz.prog 28 = true := by kernel_rfl
@[go_sem] theorem ag_28 : aggOf Tryz.prog 28 = true := by kernel_rfl
@[go_sem] theorem us_28 : (Tryz.prog.underlying 28).isSome = true := by kernel_rfl
@[go_sem] theorem fd_28_0 : fieldOf Tryz.prog 28 0 = some (0, 3) := by kernel_rfl
@[go_sem] theorem fd_28_1 : fieldOf Tryz.prog 28 1 = some (1, 25) := by kernel_rfl
@[go_sem] theorem fd_28_2 : fieldOf Tryz.prog 28 2 = some (2, 26) := by kernel_rfl
@[go_sem] theorem el_28 : Go.PA.elemOf Tryz.prog 28 = none := by kernel_rfl
@[go_sem] theorem ar_28 : arrOf Tryz.prog 28 = none := by kernel_rfl
@[go_sem] theorem fk_28 : fieldsKnown Tryz.prog 28 = true := by kernel_rfl
@[go_sem] theorem ze_28 : zeros Tryz.prog 28 = some [.sc (.int .i64 0), .nil, .nil] := by kernel_rfl
@[go_sem] theorem by_28 : bytesOf Tryz.prog 28 = 56 := by kernel_rfl
@[go_sem] theorem sz_29 : szOf Tryz.prog 29 = 1 := by kernel_rfl
@[go_sem] theorem kn_29 : knownT Tryz.prog 29 = true := by kernel_rfl
@[go_sem] theorem ag_29 : aggOf Tryz.prog 29 = false := by kernel_rfl
@[go_sem] theorem us_29 : (Tryz.prog.underlying 29).isSome = true := by kernel_rfl
@[go_sem] theorem el_29 : Go.PA.elemOf Tryz.prog 29 = some 99 := by kernel_rfl
@[go_sem] theorem un_29 : Tryz.prog.underlying 29 = some (.slice 99) := by kernel_rfl
@[go_sem] theorem ze_29 : zeros Tryz.prog 29 = some [.nil] := by kernel_rfl
@[go_sem] theorem az_29 : azero1 Tryz.prog 29 = some (.nil) := by kernel_rfl
@[go_sem] theorem by_29 : bytesOf Tryz.prog 29 = 24 := by kernel_rfl
@[go_sem] theorem sz_30 : szOf Tryz.prog 30 = 1 := by kernel_rfl
@[go_sem] theorem kn_30 : knownT Tryz.prog 30 = true := by kernel_rfl
@[go_sem] theorem ag_30 : aggOf Tryz.prog 30 = false := by kernel_rfl
@[go_sem] theorem us_30 : (Tryz.prog.underlying 30).isSome = true := by kernel_rfl
@[go_sem] theorem el_30 : Go.PA.elemOf Tryz.prog 30 = some 45 := by kernel_rfl
@[go_sem] theorem un_30 : Tryz.prog.underlying 30 = some (.slice 45) := by kernel_rfl
@[go_sem] theorem ze_30 : zeros Tryz.prog 30 = some [.nil] := by kernel_rfl
@[go_sem] theorem az_30 : azero1 Tryz.prog 30 = some (.nil) := by kernel_rfl
@[go_sem] theorem by_30 : bytesOf Tryz.prog 30 = 24 := by kernel_rfl
@[go_sem] theorem sz_31 : szOf Tryz.prog 31 = 3 := by kernel_rfl
@[go_sem] theorem kn_31 : knownT Tryz.prog 31 = true := by kernel_rfl
@[go_sem] theorem ag_31 : aggOf Tryz.prog 31 = true := by kernel_rfl
@[go_sem] theorem us_31 : (Tryz.prog.underlying 31).isSome = true := by kernel_rfl
@[go_sem] theorem fd_31_0 : fieldOf Tryz.prog 31 0 = some (0, 29) := by kernel_rfl
@[go_sem] theorem fd_31_1 : fieldOf Tryz.prog 31 1 = some (1, 22) := by kernel_rfl
@[go_sem] theorem fd_31_2 : fieldOf Tryz.prog 31 2 = some (2, 30) := by kernel_rfl
@[go_sem] theorem el_31 : Go.PA.elemOf Tryz.prog 31 = none := by kernel_rfl
@[go_sem] theorem ar_31 : arrOf Tryz.prog 31 = none := by kernel_rfl
@[go_sem] theorem fk_31 : fieldsKnown Tryz.prog 31 = true := by kernel_rfl
@[go_sem] theorem ze_31 : zeros Tryz.prog 31 = some [.nil, .nil, .nil] := by kernel_rfl
@[go_sem] theorem by_31 : bytesOf Tryz.prog 31 = 72 := by kernel_rfl
@[go_sem] theorem sz_32 : szOf Tryz.prog 32 = 3 := by kernel_rfl
@[go_sem] theorem kn_32 : knownT Tryz.prog 32 = true := by kernel_rfl
@[go_sem] theorem ag_32 : aggOf Tryz.prog 32 = true := by kernel_rfl
@[go_sem] theorem us_32 : (Tryz.prog.underlying 32).isSome = true := by kernel_rfl
@[go_sem] theorem fd_32_0 : fieldOf Tryz.prog 32 0 = some (0, 29) := by kernel_rfl
@[go_sem] theorem fd_32_1 : fieldOf Tryz.prog 32 1 = some (1, 22) := by kernel_rfl
@[go_sem] theorem fd_32_2 : fieldOf Tryz.prog 32 2 = some (2, 30) := by kernel_rfl
@[go_sem] theorem el_32 : Go.PA.elemOf Tryz.prog 32 = none := by kernel_rfl
@[go_sem] theorem ar_32 : arrOf Tryz.prog 32 = none := by kernel_rfl
@[go_sem] theorem fk_32 : fieldsKnown Tryz.prog 32 = true := by kernel_rfl
@[go_sem] theorem ze_32 : zeros Tryz.prog 32 = some [.nil, .nil, .nil] := by kernel_rfl
@[go_sem] theorem by_32 : bytesOf Tryz.prog 32 = 72 := by kernel_rfl
@[go_sem] theorem sz_33 : szOf Tryz.prog 33 = 1 := by kernel_rfl
@[go_sem] theorem kn_33 : knownT Tryz.prog 33 = true := by kernel_rfl
@[go_sem] theorem ag_33 : aggOf Tryz.prog 33 = false := by kernel_rfl
@[go_sem] theorem us_33 : (Tryz.prog.underlying 33).isSome = true := by kernel_rfl
@[go_sem] theorem el_33 : Go.PA.elemOf Tryz.prog 33 = some 112 := by kernel_rfl
@[go_sem] theorem un_33 : Tryz.prog.underlying 33 = some (.slice 112) := by kernel_rfl
@[go_sem] theorem ze_33 : zeros Tryz.prog 33 = some [.nil] := by kernel_rfl
@[go_sem] theorem az_33 : azero1 Tryz.prog 33 = some (.nil) := by kernel_rfl
@[go_sem] theorem by_33 : bytesOf Tryz.prog 33 = 24 := by kernel_rfl
@[go_sem] theorem sz_34 : szOf Tryz.prog 34 = 7 := by kernel_rfl
@[go_sem] theorem kn_34 : knownT Tryz.prog 34 = true := by kernel_rfl
@[go_sem] theorem ag_34 : aggOf Tryz.prog 34 = true := by kernel_rfl
@[go_sem] theorem us_34 : (Tryz.prog.underlying 34).isSome = true := by kernel_rfl
@[go_sem] theorem fd_34_0 : fieldOf Tryz.prog 34 0 = some (0, 28) := by kernel_rfl
@[go_sem] theorem fd_34_1 : fieldOf Tryz.prog 34 1 = some (3, 32) := by kernel_rfl
@[go_sem] theorem fd_34_2 : fieldOf Tryz.prog 34 2 = some (6, 33) := by kernel_rfl
@[go_sem] theorem el_34 : Go.PA.elemOf Tryz.prog 34 = none := by kernel_rfl
@[go_sem] theorem ar_34 : arrOf Tryz.prog 34 = none := by kernel_rfl
@[go_sem] theorem fk_34 : fieldsKnown Tryz.prog 34 = true := by kernel_rfl
@[go_sem] theorem ze_34 : zeros Tryz.prog 34 = some [.sc (.int .i64 0), .nil, .nil, .nil, .nil, .nil, .nil] := by kernel_rfl
@[go_sem] theorem by_34 : bytesOf Tryz.prog 34 = 152 := by kernel_rfl
@[go_sem] theorem sz_35 : szOf Tryz.prog 35 = 7 := by kernel_rfl
@[go_sem] theorem kn_35 : knownT Tryz.prog 35 = true := by kernel_rfl
@[go_sem] theorem ag_35 : aggOf Tryz.prog 35 = true := by kernel_rfl
@[go_sem] theorem us_35 : (Tryz.prog.underlying 35).isSome = true := by kernel_rfl
@[go_sem] theorem fd_35_0 : fieldOf Tryz.prog 35 0 = some (0, 28) := by kernel_rfl
@[go_sem] theorem fd_35_1 : fieldOf Tryz.prog 35 1 = some (3, 32) := by kernel_rfl
@[go_sem] theorem fd_35_2 : fieldOf Tryz.prog 35 2 = some (6, 33) := by kernel_rfl
@[go_sem] theorem el_35 : Go.PA.elemOf Tryz.prog 35 = none := by kernel_rfl
@[go_sem] theorem ar_35 : arrOf Tryz.prog 35 = none := by kernel_rfl
@[go_sem] theorem fk_35 : fieldsKnown Tryz.prog 35 = true := by kernel_rfl
@[go_sem] theorem ze_35 : zeros Tryz.prog 35 = some [.sc (.int .i64 0), .nil, .nil, .nil, .nil, .nil, .nil] := by kernel_rfl
@[go_sem] theorem by_35 : bytesOf Tryz.prog 35 = 152 := by kernel_rfl
@[go_sem] theorem sz_38 : szOf Tryz.prog 38 = 1 := by kernel_rfl
@[go_sem] theorem kn_38 : knownT Tryz.prog 38 = true := by kernel_rfl
@[go_sem] theorem ag_38 : aggOf Tryz.prog 38 = false := by kernel_rfl
@[go_sem] theorem us_38 : (Tryz.prog.underlying 38).isSome = true := by kernel_rfl
@[go_sem] theorem el_38 : Go.PA.elemOf Tryz.prog 38 = some 42 := by kernel_rfl
@[go_sem] theorem un_38 : Tryz.prog.underlying 38 = some (.slice 42) := by kernel_rfl
@[go_sem] theorem ze_38 : zeros Tryz.prog 38 = some [.nil] := by kernel_rfl
@[go_sem] theorem az_38 : azero1 Tryz.prog 38 = some (.nil) := by kernel_rfl
@[go_sem] theorem by_38 : bytesOf Tryz.prog 38 = 24 := by kernel_rfl
@[go_sem] theorem sz_41 : szOf Tryz.prog 41 = 4 := by kernel_rfl
@[go_sem] theorem kn_41 : knownT Tryz.prog 41 = true := by kernel_rfl
@[go_sem] theorem ag_41 : aggOf Tryz.prog 41 = true := by kernel_rfl
@[go_sem] theorem us_41 : (Tryz.prog.underlying 41).isSome = true := by kernel_rfl
@[go_sem] theorem fd_41_0 : fieldOf Tryz.prog 41 0 = some (0, 3) := by kernel_rfl
@[go_sem] theorem fd_41_1 : fieldOf Tryz.prog 41 1 = some (1, 3) := by kernel_rfl
@[go_sem] theorem fd_41_2 : fieldOf Tryz.prog 41 2 = some (2, 3) := by kernel_rfl
@[go_sem] theorem fd_41_3 : fieldOf Tryz.prog 41 3 = some (3, 3) := by kernel_rfl
@[go_sem] theorem el_41 : Go.PA.elemOf Tryz.prog 41 = none := by kernel_rfl
@[go_sem] theorem ar_41 : arrOf Tryz.prog 41 = none := by kernel_rfl
@[go_sem] theorem fk_41 : fieldsKnown Tryz.prog 41 = true := by kernel_rfl
@[go_sem] theorem sg_41 : sigOf Tryz.prog 41 = some [.int, .int, .int, .int] := by kernel_rfl
@[go_sem] theorem ze_41 : zeros Tryz.prog 41 = some [.sc (.int .i64 0), .sc (.int .i64 0), .sc (.int .i64 0), .sc (.int .i64 0)] := by kernel_rfl
@[go_sem] theorem by_41 : bytesOf Tryz.prog 41 = 32 := by kernel_rfl
@[go_sem] theorem sz_42 : szOf Tryz.prog 42 = 4 := by kernel_rfl
@[go_sem] theorem kn_42 : knownT Tryz.prog 42 = true := by kernel_rfl
@[go_sem] theorem ag_42 : aggOf Tryz.prog 42 = true := by kernel_rfl
@[go_sem] theorem us_42 : (Tryz.prog.underlying 42).isSome = true := by kernel_rfl
@[go_sem] theorem fd_42_0 : fieldOf Tryz.prog 42 0 = some (0, 3) := by kernel_rfl
@[go_sem] theorem fd_42_1 : fieldOf Tryz.prog 42 1 = some (1, 3) := by kernel_rfl
@[go_sem] theorem fd_42_2 : fieldOf Tryz.prog 42 2 = some (2, 3) := by kernel_rfl
@[go_sem] theorem fd_42_3 : fieldOf Tryz.prog 42 3 = some (3, 3) := by kernel_rfl
@[go_sem] theorem el_42 : Go.PA.elemOf Tryz.prog 42 = none := by kernel_rfl
@[go_sem] theorem ar_42 : arrOf Tryz.prog 42 = none := by kernel_rfl
@[go_sem] theorem fk_42 : fieldsKnown Tryz.prog 42 = true := by kernel_rfl
@[go_sem] theorem sg_42 : sigOf Tryz.prog 42 = some [.int, .int, .int, .int] := by kernel_rfl
@[go_sem] theorem ze_42 : zeros Tryz.prog 42 = some [.sc (.int .i64 0), .sc (.int .i64 0), .sc (.int .i64 0), .sc (.int .i64 0)] := by kernel_rfl
@[go_sem] theorem by_42 : bytesOf Tryz.prog 42 = 32 := by kernel_rfl
@[go_sem] theorem sz_44 : szOf Tryz.prog 44 = 3 := by kernel_rfl
@[go_sem] theorem kn_44 : knownT Tryz.prog 44 = true := by kernel_rfl
@[go_sem] theorem ag_44 : aggOf Tryz.prog 44 = true := by kernel_rfl
@[go_sem] theorem us_44 : (Tryz.prog.underlying 44).isSome = true := by kernel_rfl
@[go_sem] theorem fd_44_0 : fieldOf Tryz.prog 44 0 = some (0, 3) := by kernel_rfl
@[go_sem] theorem fd_44_1 : fieldOf Tryz.prog 44 1 = some (1, 3) := by kernel_rfl
@[go_sem] theorem fd_44_2 : fieldOf Tryz.prog 44 2 = some (2, 29) := by kernel_rfl
@[go_sem] theorem el_44 : Go.PA.elemOf Tryz.prog 44 = none := by kernel_rfl
@[go_sem] theorem ar_44 : arrOf Tryz.prog 44 = none := by kernel_rfl
@[go_sem] theorem fk_44 : fieldsKnown Tryz.prog 44 = true := by kernel_rfl
@[go_sem] theorem ze_44 : zeros Tryz.prog 44 = some [.sc (.int .i64 0), .sc (.int .i64 0), .nil] := by kernel_rfl
@[go_sem] theorem by_44 : bytesOf Tryz.prog 44 = 40 := by kernel_rfl
@[go_sem] theorem sz_45 : szOf Tryz.prog 45 = 3 := by kernel_rfl
@[go_sem] theorem kn_45 : knownT Tryz.prog 45 = true := by kernel_rfl
@[go_sem] theorem ag_45 : aggOf Tryz.prog 45 = true := by kernel_rfl
@[go_sem] theorem us_45 : (Tryz.prog.underlying 45).isSome = true := by kernel_rfl
@[go_sem] theorem fd_45_0 : fieldOf Tryz.prog 45 0 = some (0, 3) := by kernel_rfl
@[go_sem] theorem fd_45_1 : fieldOf Tryz.prog 45 1 = some (1, 3) := by kernel_rfl
@[go_sem] theorem fd_45_2 : fieldOf Tryz.prog 45 2 = some (2, 29) := by kernel_rfl
@[go_sem] theorem el_45 : Go.PA.elemOf Tryz.prog 45 = none := by kernel_rfl
@[go_sem] theorem ar_45 : arrOf Tryz.prog 45 = none := by kernel_rfl
@[go_sem] theorem fk_45 : fieldsKnown Tryz.prog 45 = true := by kernel_rfl
@[go_sem] theorem ze_45 : zeros Tryz.prog 45 = some [.sc (.int .i64 0), .sc (.int .i64 0), .nil] := by kernel_rfl
@[go_sem] theorem by_45 : bytesOf Tryz.prog 45 = 40 := by kernel_rfl
@[go_sem] theorem sz_46 : szOf Tryz.prog 46 = 1 := by kernel_rfl
@[go_sem] theorem kn_46 : knownT Tryz.prog 46 = true := by kernel_rfl
@[go_sem] theorem ag_46 : aggOf Tryz.prog 46 = false := by kernel_rfl
@[go_sem] theorem us_46 : (Tryz.prog.underlying 46).isSome = true := by kernel_rfl
@[go_sem] theorem un_46 : Tryz.prog.underlying 46 = some (.int .i64) := by kernel_rfl
@[go_sem] theorem ze_46 : zeros Tryz.prog 46 = some [.sc (.int .i64 0)] := by kernel_rfl
@[go_sem] theorem az_46 : azero1 Tryz.prog 46 = some (.sc (.int .i64 0)) := by kernel_rfl
@[go_sem] theorem by_46 : bytesOf Tryz.prog 46 = 8 := by kernel_rfl
@[go_sem] theorem sz_50 : szOf Tryz.prog 50 = 1 := by kernel_rfl
@[go_sem] theorem kn_50 : knownT Tryz.prog 50 = true := by kernel_rfl
@[go_sem] theorem ag_50 : aggOf Tryz.prog 50 = false := by kernel_rfl
@[go_sem] theorem us_50 : (Tryz.prog.underlying 50).isSome = true := by kernel_rfl
@[go_sem] theorem el_50 : Go.PA.elemOf Tryz.prog 50 = some 59 := by kernel_rfl
@[go_sem] theorem un_50 : Tryz.prog.underlying 50 = some (.slice 59) := by kernel_rfl
@[go_sem] theorem ze_50 : zeros Tryz.prog 50 = some [.nil] := by kernel_rfl
@[go_sem] theorem az_50 : azero1 Tryz.prog 50 = some (.nil) := by kernel_rfl
@[go_sem] theorem by_50 : bytesOf Tryz.prog 50 = 24 := by kernel_rfl
@[go_sem] theorem sz_53 : szOf Tryz.prog 53 = 1 := by kernel_rfl
@[go_sem] theorem kn_53 : knownT Tryz.prog 53 = true := by kernel_rfl
@[go_sem] theorem ag_53 : aggOf Tryz.prog 53 = false := by kernel_rfl
@[go_sem] theorem us_53 : (Tryz.prog.underlying 53).isSome = true := by kernel_rfl
@[go_sem] theorem el_53 : Go.PA.elemOf Tryz.prog 53 = some 137 := by kernel_rfl
@[go_sem] theorem un_53 : Tryz.prog.underlying 53 = some (.slice 137) := by kernel_rfl
@[go_sem] theorem ze_53 : zeros Tryz.prog 53 = some [.nil] := by kernel_rfl
@[go_sem] theorem az_53 : azero1 Tryz.prog 53 = some (.nil) := by kernel_rfl
@[go_sem] theorem by_53 : bytesOf Tryz.prog 53 = 24 := by kernel_rfl
@[go_sem] theorem sz_54 : szOf Tryz.prog 54 = 1 := by kernel_rfl
@[go_sem] theorem kn_54 : knownT Tryz.prog 54 = true := by kernel_rfl
@[go_sem] theorem ag_54 : aggOf Tryz.prog 54 = false := by kernel_rfl
@[go_sem] theorem us_54 : (Tryz.prog.underlying 54).isSome = true := by kernel_rfl
@[go_sem] theorem el_54 : Go.PA.elemOf Tryz.prog 54 = some 131 := by kernel_rfl
@[go_sem] theorem un_54 : Tryz.prog.underlying 54 = some (.slice 131) := by kernel_rfl
@[go_sem] theorem ze_54 : zeros Tryz.prog 54 = some [.nil] := by kernel_rfl
@[go_sem] theorem az_54 : azero1 Tryz.prog 54 = some (.nil) := by kernel_rfl
@[go_sem] theorem by_54 : bytesOf Tryz.prog 54 = 24 := by kernel_rfl
@[go_sem] theorem sz_55 : szOf Tryz.prog 55 = 1 := by kernel_rfl
@[go_sem] theorem kn_55 : knownT Tryz.prog 55 = true := by kernel_rfl
@[go_sem] theorem ag_55 : aggOf Tryz.prog 55 = false := by kernel_rfl
@[go_sem] theorem us_55 : (Tryz.prog.underlying 55).isSome = true := by kernel_rfl
@[go_sem] theorem el_55 : Go.PA.elemOf Tryz.prog 55 = some 179 := by kernel_rfl
@[go_sem] theorem un_55 : Tryz.prog.underlying 55 = some (.slice 179) := by kernel_rfl
@[go_sem] theorem ze_55 : zeros Tryz.prog 55 = some [.nil] := by kernel_rfl
@[go_sem] theorem az_55 : azero1 Tryz.prog 55 = some (.nil) := by kernel_rfl
@[go_sem] theorem by_55 : bytesOf Tryz.prog 55 = 24 := by kernel_rfl
@[go_sem] theorem sz_56 : szOf Tryz.prog 56 = 4 := by kernel_rfl
@[go_sem] theorem kn_56 : knownT Tryz.prog 56 = true := by kernel_rfl
@[go_sem] theorem ag_56 : aggOf Tryz.prog 56 = true := by kernel_rfl
@[go_sem] theorem us_56 : (Tryz.prog.underlying 56).isSome = true := by kernel_rfl
@[go_sem] theorem fd_56_0 : fieldOf Tryz.prog 56 0 = some (0, 53) := by kernel_rfl
@[go_sem] theorem fd_56_1 : fieldOf Tryz.prog 56 1 = some (1, 54) := by kernel_rfl
@[go_sem] theorem fd_56_2 : fieldOf Tryz.prog 56 2 = some (2, 55) := by kernel_rfl
@[go_sem] theorem fd_56_3 : fieldOf Tryz.prog 56 3 = some (3, 22) := by kernel_rfl
@[go_sem] theorem el_56 : Go.PA.elemOf Tryz.prog 56 = none := by kernel_rfl
@[go_sem] theorem ar_56 : arrOf Tryz.prog 56 = none := by kernel_rfl
@[go_sem] theorem fk_56 : fieldsKnown Tryz.prog 56 = true := by kernel_rfl
@[go_sem] theorem ze_56 : zeros Tryz.prog 56 = some [.nil, .nil, .nil, .nil] := by kernel_rfl
@[go_sem] theorem by_56 : bytesOf Tryz.prog 56 = 96 := by kernel_rfl
@[go_sem] theorem sz_57 : szOf Tryz.prog 57 = 4 := by kernel_rfl
@[go_sem] theorem kn_57 : knownT Tryz.prog 57 = true := by kernel_rfl
@[go_sem] theorem ag_57 : aggOf Tryz.prog 57 = true := by kernel_rfl
@[go_sem] theorem us_57 : (Tryz.prog.underlying 57).isSome = true := by kernel_rfl
@[go_sem] theorem fd_57_0 : fieldOf Tryz.prog 57 0 = some (0, 53) := by kernel_rfl
@[go_sem] theorem fd_57_1 : fieldOf Tryz.prog 57 1 = some (1, 54) := by kernel_rfl
@[go_sem] theorem fd_57_2 : fieldOf Tryz.prog 57 2 = some (2, 55) := by kernel_rfl
@[go_sem] theorem fd_57_3 : fieldOf Tryz.prog 57 3 = some (3, 22) := by kernel_rfl
@[go_sem] theorem el_57 : Go.PA.elemOf Tryz.prog 57 = none := by kernel_rfl
@[go_sem] theorem ar_57 : arrOf Tryz.prog 57 = none := by kernel_rfl
@[go_sem] theorem fk_57 : fieldsKnown Tryz.prog 57 = true := by kernel_rfl
@[go_sem] theorem ze_57 : zeros Tryz.prog 57 = some [.nil, .nil, .nil, .nil] := by kernel_rfl
@[go_sem] theorem by_57 : bytesOf Tryz.prog 57 = 96 := by kernel_rfl
@[go_sem] theorem sz_58 : szOf Tryz.prog 58 = 2 := by kernel_rfl
@[go_sem] theorem kn_58 : knownT Tryz.prog 58 = true := by kernel_rfl
@[go_sem] theorem ag_58 : aggOf Tryz.prog 58 = true := by kernel_rfl
@[go_sem] theorem us_58 : (Tryz.prog.underlying 58).isSome = true := by kernel_rfl
@[go_sem] theorem fd_58_0 : fieldOf Tryz.prog 58 0 = some (0, 3) := by kernel_rfl
@[go_sem] theorem fd_58_1 : fieldOf Tryz.prog 58 1 = some (1, 3) := by kernel_rfl
@[go_sem] theorem el_58 : Go.PA.elemOf Tryz.prog 58 = none := by kernel_rfl
@[go_sem] theorem ar_58 : arrOf Tryz.prog 58 = none := by kernel_rfl
@[go_sem] theorem fk_58 : fieldsKnown Tryz.prog 58 = true := by kernel_rfl
@[go_sem] theorem sg_58 : sigOf Tryz.prog 58 = some [.int, .int] := by kernel_rfl
@[go_sem] theorem ze_58 : zeros Tryz.prog 58 = some [.sc (.int .i64 0), .sc (.int .i64 0)] := by kernel_rfl
@[go_sem] theorem by_58 : bytesOf Tryz.prog 58 = 16 := by kernel_rfl
@[go_sem] theorem sz_59 : szOf Tryz.prog 59 = 2 := by kernel_rfl
@[go_sem] theorem kn_59 : knownT Tryz.prog 59 = true := by kernel_rfl
@[go_sem] theorem ag_59 : aggOf Tryz.prog 59 = true := by kernel_rfl
@[go_sem] theorem us_59 : (Tryz.prog.underlying 59).isSome = true := by kernel_rfl
@[go_sem] theorem fd_59_0 : fieldOf Tryz.prog 59 0 = some (0, 3) := by kernel_rfl
@[go_sem] theorem fd_59_1 : fieldOf Tryz.prog 59 1 = some (1, 3) := by kernel_rfl
@[go_sem] theorem el_59 : Go.PA.elemOf Tryz.prog 59 = none := by kernel_rfl
@[go_sem] theorem ar_59 : arrOf Tryz.prog 59 = none := by kernel_rfl
@[go_sem] theorem fk_59 : fieldsKnown Tryz.prog 59 = true := by kernel_rfl
@[go_sem] theorem sg_59 : sigOf Tryz.prog 59 = some [.int, .int] := by kernel_rfl
@[go_sem] theorem ze_59 : zeros Tryz.prog 59 = some [.sc (.int .i64 0), .sc (.int .i64 0)] := by kernel_rfl
@[go_sem] theorem by_59 : bytesOf Tryz.prog 59 = 16 := by kernel_rfl
@[go_sem] theorem sz_61 : szOf Tryz.prog 61 = 1 := by kernel_rfl
@[go_sem] theorem kn_61 : knownT Tryz.prog 61 = true := by kernel_rfl
@[go_sem] theorem ag_61 : aggOf Tryz.prog 61 = false := by kernel_rfl
@[go_sem] theorem us_61 : (Tryz.prog.underlying 61).isSome = true := by kernel_rfl
@[go_sem] theorem el_61 : Go.PA.elemOf Tryz.prog 61 = some 134 := by kernel_rfl
@[go_sem] theorem un_61 : Tryz.prog.underlying 61 = some (.slice 134) := by kernel_rfl
@[go_sem] theorem ze_61 : zeros Tryz.prog 61 = some [.nil] := by kernel_rfl
@[go_sem] theorem az_61 : azero1 Tryz.prog 61 = some (.nil) := by kernel_rfl
@[go_sem] theorem by_61 : bytesOf Tryz.prog 61 = 24 := by kernel_rfl
@[go_sem] theorem sz_67 : szOf Tryz.prog 67 = 3 := by kernel_rfl
@[go_sem] theorem kn_67 : knownT Tryz.prog 67 = true := by kernel_rfl
@[go_sem] theorem ag_67 : aggOf Tryz.prog 67 = true := by kernel_rfl
@[go_sem] theorem us_67 : (Tryz.prog.underlying 67).isSome = true := by kernel_rfl
@[go_sem] theorem el_67 : Go.PA.elemOf Tryz.prog 67 = none := by kernel_rfl
@[go_sem] theorem ar_67 : arrOf Tryz.prog 67 = some (3, 38) := by kernel_rfl
@[go_sem] theorem fk_67 : fieldsKnown Tryz.prog 67 = true := by kernel_rfl
@[go_sem] theorem fd_67_0 : fieldOf Tryz.prog 67 0 = none := by kernel_rfl
@[go_sem] theorem fd_67_1 : fieldOf Tryz.prog 67 1 = none := by kernel_rfl
@[go_sem] theorem fd_67_2 : fieldOf Tryz.prog 67 2 = none := by kernel_rfl
@[go_sem] theorem ze_67 : zeros Tryz.prog 67 = some [.nil, .nil, .nil] := by kernel_rfl
@[go_sem] theorem by_67 : bytesOf Tryz.prog 67 = 72 := by kernel_rfl
@[go_sem] theorem sz_70 : szOf Tryz.prog 70 = 1 := by kernel_rfl
@[go_sem] theorem kn_70 : knownT Tryz.prog 70 = true := by kernel_rfl
@[go_sem] theorem ag_70 : aggOf Tryz.prog 70 = false := by kernel_rfl
@[go_sem] theorem us_70 : (Tryz.prog.underlying 70).isSome = true := by kernel_rfl
@[go_sem] theorem el_70 : Go.PA.elemOf Tryz.prog 70 = some 38 := by kernel_rfl
@[go_sem] theorem un_70 : Tryz.prog.underlying 70 = some (.slice 38) := by kernel_rfl
@[go_sem] theorem ze_70 : zeros Tryz.prog 70 = some [.nil] := by kernel_rfl
@[go_sem] theorem az_70 : azero1 Tryz.prog 70 = some (.nil) := by kernel_rfl
@[go_sem] theorem by_70 : bytesOf Tryz.prog 70 = 24 := by kernel_rfl
@[go_sem] theorem sz_73 : szOf Tryz.prog 73 = 3 := by kernel_rfl
@[go_sem] theorem kn_73 : knownT Tryz.prog 73 = true := by kernel_rfl
@[go_sem] theorem ag_73 : aggOf Tryz.prog 73 = true := by kernel_rfl
@[go_sem] theorem us_73 : (Tryz.prog.underlying 73).isSome = true := by kernel_rfl
@[go_sem] theorem el_73 : Go.PA.elemOf Tryz.prog 73 = none := by kernel_rfl
@[go_sem] theorem ar_73 : arrOf Tryz.prog 73 = some (3, 3) := by kernel_rfl
@[go_sem] theorem fk_73 : fieldsKnown Tryz.prog 73 = true := by kernel_rfl
@[go_sem] theorem fd_73_0 : fieldOf Tryz.prog 73 0 = none := by kernel_rfl
@[go_sem] theorem fd_73_1 : fieldOf Tryz.prog 73 1 = none := by kernel_rfl
@[go_sem] theorem fd_73_2 : fieldOf Tryz.prog 73 2 = none := by kernel_rfl
@[go_sem] theorem ze_73 : zeros Tryz.prog 73 = some [.sc (.int .i64 0), .sc (.int .i64 0), .sc (.int .i64 0)] := by kernel_rfl
@[go_sem] theorem by_73 : bytesOf Tryz.prog 73 = 24 := by kernel_rfl
@[go_sem] theorem sz_75 : szOf Tryz.prog 75 = 9 := by kernel_rfl
@[go_sem] theorem kn_75 : knownT Tryz.prog 75 = true := by kernel_rfl
@[go_sem] theorem ag_75 : aggOf Tryz.prog 75 = true := by kernel_rfl
@[go_sem] theorem us_75 : (Tryz.prog.underlying 75).isSome = true := by kernel_rfl
@[go_sem] theorem el_75 : Go.PA.elemOf Tryz.prog 75 = none := by kernel_rfl
@[go_sem] theorem ar_75 : arrOf Tryz.prog 75 = some (3, 73) := by kernel_rfl
@[go_sem] theorem fk_75 : fieldsKnown Tryz.prog 75 = true := by kernel_rfl
@[go_sem] theorem fd_75_0 : fieldOf Tryz.prog 75 0 = none := by kernel_rfl
@[go_sem] theorem fd_75_1 : fieldOf Tryz.prog 75 1 = none := by kernel_rfl
@[go_sem] theorem fd_75_2 : fieldOf Tryz.prog 75 2 = none := by kernel_rfl
@[go_sem] theorem ze_75 : zeros Tryz.prog 75 = some [.sc (.int .i64 0), .sc (.int .i64 0), .sc (.int .i64 0), .sc (.int .i64 0), .sc (.int .i64 0), .sc (.int .i64 0), .sc (.int .i64 0), .sc (.int .i64 0), .sc (.int .i64 0)] := by kernel_rfl
@[go_sem] theorem by_75 : bytesOf Tryz.prog 75 = 72 := by kernel_rfl
@[go_sem] theorem sz_80 : szOf Tryz.prog 80 = 2 := by kernel_rfl
@[go_sem] theorem kn_80 : knownT Tryz.prog 80 = true := by kernel_rfl
@[go_sem] theorem ag_80 : aggOf Tryz.prog 80 = true := by kernel_rfl
@[go_sem] theorem us_80 : (Tryz.prog.underlying 80).isSome = true := by kernel_rfl
@[go_sem] theorem el_80 : Go.PA.elemOf Tryz.prog 80 = none := by kernel_rfl
@[go_sem] theorem ar_80 : arrOf Tryz.prog 80 = some (2, 3) := by kernel_rfl
@[go_sem] theorem fk_80 : fieldsKnown Tryz.prog 80 = true := by kernel_rfl
@[go_sem] theorem fd_80_0 : fieldOf Tryz.prog 80 0 = none := by kernel_rfl
@[go_sem] theorem fd_80_1 : fieldOf Tryz.prog 80 1 = none := by kernel_rfl
@[go_sem] theorem ze_80 : zeros Tryz.prog 80 = some [.sc (.int .i64 0), .sc (.int .i64 0)] := by kernel_rfl
@[go_sem] theorem by_80 : bytesOf Tryz.prog 80 = 16 := by kernel_rfl
@[go_sem] theorem sz_81 : szOf Tryz.prog 81 = 4 := by kernel_rfl
@[go_sem] theorem kn_81 : knownT Tryz.prog 81 = true := by kernel_rfl
@[go_sem] theorem ag_81 : aggOf Tryz.prog 81 = true := by kernel_rfl
@[go_sem] theorem us_81 : (Tryz.prog.underlying 81).isSome = true := by kernel_rfl
@[go_sem] theorem el_81 : Go.PA.elemOf Tryz.prog 81 = none := by kernel_rfl
@[go_sem] theorem ar_81 : arrOf Tryz.prog 81 = some (2, 80) := by kernel_rfl
@[go_sem] theorem fk_81 : fieldsKnown Tryz.prog 81 = true := by kernel_rfl
@[go_sem] theorem fd_81_0 : fieldOf Tryz.prog 81 0 = none := by kernel_rfl
@[go_sem] theorem fd_81_1 : fieldOf Tryz.prog 81 1 = none := by kernel_rfl
@[go_sem] theorem ze_81 : zeros Tryz.prog 81 = some [.sc (.int .i64 0), .sc (.int .i64 0), .sc (.int .i64 0), .sc (.int .i64 0)] := by kernel_rfl
@[go_sem] theorem by_81 : bytesOf Tryz.prog 81 = 32 := by kernel_rfl
@[go_sem] theorem sz_85 : szOf Tryz.prog 85 = 14 := by kernel_rfl
@[go_sem] theorem kn_85 : knownT Tryz.prog 85 = true := by kernel_rfl
@[go_sem] theorem ag_85 : aggOf Tryz.prog 85 = true := by kernel_rfl
@[go_sem] theorem us_85 : (Tryz.prog.underlying 85).isSome = true := by kernel_rfl
@[go_sem] theorem el_85 : Go.PA.elemOf Tryz.prog 85 = none := by kernel_rfl
@[go_sem] theorem ar_85 : arrOf Tryz.prog 85 = some (2, 35) := by kernel_rfl
@[go_sem] theorem fk_85 : fieldsKnown Tryz.prog 85 = true := by kernel_rfl
@[go_sem] theorem fd_85_0 : fieldOf Tryz.prog 85 0 = none := by kernel_rfl
@[go_sem] theorem fd_85_1 : fieldOf Tryz.prog 85 1 = none := by kernel_rfl
@[go_sem] theorem ze_85 : zeros Tryz.prog 85 = some [.sc (.int .i64 0), .nil, .nil, .nil, .nil, .nil, .nil, .sc (.int .i64 0), .nil, .nil, .nil, .nil, .nil, .nil] := by kernel_rfl
@[go_sem] theorem by_85 : bytesOf Tryz.prog 85 = 304 := by kernel_rfl
@[go_sem] theorem sz_88 : szOf Tryz.prog 88 = 2 := by kernel_rfl
@[go_sem] theorem kn_88 : knownT Tryz.prog 88 = true := by kernel_rfl
@[go_sem] theorem ag_88 : aggOf Tryz.prog 88 = true := by kernel_rfl
@[go_sem] theorem us_88 : (Tryz.prog.underlying 88).isSome = true := by kernel_rfl
@[go_sem] theorem fd_88_0 : fieldOf Tryz.prog 88 0 = some (0, 22) := by kernel_rfl
@[go_sem] theorem fd_88_1 : fieldOf Tryz.prog 88 1 = some (1, 3) := by kernel_rfl
@[go_sem] theorem el_88 : Go.PA.elemOf Tryz.prog 88 = none := by kernel_rfl
@[go_sem] theorem ar_88 : arrOf Tryz.prog 88 = none := by kernel_rfl
@[go_sem] theorem fk_88 : fieldsKnown Tryz.prog 88 = true := by kernel_rfl
@[go_sem] theorem ze_88 : zeros Tryz.prog 88 = some [.nil, .sc (.int .i64 0)] := by kernel_rfl
@[go_sem] theorem by_88 : bytesOf Tryz.prog 88 = 32 := by kernel_rfl
@[go_sem] theorem sz_89 : szOf Tryz.prog 89 = 2 := by kernel_rfl
@[go_sem] theorem kn_89 : knownT Tryz.prog 89 = true := by kernel_rfl
@[go_sem] theorem ag_89 : aggOf Tryz.prog 89 = true := by kernel_rfl
@[go_sem] theorem us_89 : (Tryz.prog.underlying 89).isSome = true := by kernel_rfl
@[go_sem] theorem fd_89_0 : fieldOf Tryz.prog 89 0 = some (0, 22) := by kernel_rfl
@[go_sem] theorem fd_89_1 : fieldOf Tryz.prog 89 1 = some (1, 3) := by kernel_rfl
@[go_sem] theorem el_89 : Go.PA.elemOf Tryz.prog 89 = none := by kernel_rfl
@[go_sem] theorem ar_89 : arrOf Tryz.prog 89 = none := by kernel_rfl
@[go_sem] theorem fk_89 : fieldsKnown Tryz.prog 89 = true := by kernel_rfl
@[go_sem] theorem ze_89 : zeros Tryz.prog 89 = some [.nil, .sc (.int .i64 0)] := by kernel_rfl
@[go_sem] theorem by_89 : bytesOf Tryz.prog 89 = 32 := by kernel_rfl
@[go_sem] theorem sz_93 : szOf Tryz.prog 93 = 6 := by kernel_rfl
@[go_sem] theorem kn_93 : knownT Tryz.prog 93 = true := by kernel_rfl
@[go_sem] theorem ag_93 : aggOf Tryz.prog 93 = true := by kernel_rfl
@[go_sem] theorem us_93 : (Tryz.prog.underlying 93).isSome = true := by kernel_rfl
@[go_sem] theorem fd_93_0 : fieldOf Tryz.prog 93 0 = some (0, 3) := by kernel_rfl
@[go_sem] theorem fd_93_1 : fieldOf Tryz.prog 93 1 = some (1, 3) := by kernel_rfl
@[go_sem] theorem fd_93_2 : fieldOf Tryz.prog 93 2 = some (2, 3) := by kernel_rfl
@[go_sem] theorem fd_93_3 : fieldOf Tryz.prog 93 3 = some (3, 3) := by kernel_rfl
@[go_sem] theorem fd_93_4 : fieldOf Tryz.prog 93 4 = some (4, 3) := by kernel_rfl
@[go_sem] theorem fd_93_5 : fieldOf Tryz.prog 93 5 = some (5, 3) := by kernel_rfl
@[go_sem] theorem el_93 : Go.PA.elemOf Tryz.prog 93 = none := by kernel_rfl
@[go_sem] theorem ar_93 : arrOf Tryz.prog 93 = none := by kernel_rfl
@[go_sem] theorem fk_93 : fieldsKnown Tryz.prog 93 = true := by kernel_rfl
@[go_sem] theorem sg_93 : sigOf Tryz.prog 93 = some [.int, .int, .int, .int, .int, .int] := by kernel_rfl
@[go_sem] theorem ze_93 : zeros Tryz.prog 93 = some [.sc (.int .i64 0), .sc (.int .i64 0), .sc (.int .i64 0), .sc (.int .i64 0), .sc (.int .i64 0), .sc (.int .i64 0)] := by kernel_rfl
@[go_sem] theorem by_93 : bytesOf Tryz.prog 93 = 48 := by kernel_rfl
@[go_sem] theorem sz_94 : szOf Tryz.prog 94 = 6 := by kernel_rfl
@[go_sem] theorem kn_94 : knownT Tryz.prog 94 = true := by kernel_rfl
@[go_sem] theorem ag_94 : aggOf Tryz.prog 94 = true := by kernel_rfl
@[go_sem] theorem us_94 : (Tryz.prog.underlying 94).isSome = true := by kernel_rfl
@[go_sem] theorem fd_94_0 : fieldOf Tryz.prog 94 0 = some (0, 3) := by kernel_rfl
@[go_sem] theorem fd_94_1 : fieldOf Tryz.prog 94 1 = some (1, 3) := by kernel_rfl
@[go_sem] theorem fd_94_2 : fieldOf Tryz.prog 94 2 = some (2, 3) := by kernel_rfl
@[go_sem] theorem fd_94_3 : fieldOf Tryz.prog 94 3 = some (3, 3) := by kernel_rfl
@[go_sem] theorem fd_94_4 : fieldOf Tryz.prog 94 4 = some (4, 3) := by kernel_rfl
@[go_sem] theorem fd_94_5 : fieldOf Tryz.prog 94 5 = some (5, 3) := by kernel_rfl
@[go_sem] theorem el_94 : Go.PA.elemOf Tryz.prog 94 = none := by kernel_rfl
@[go_sem] theorem ar_94 : arrOf Tryz.prog 94 = none := by kernel_rfl
@[go_sem] theorem fk_94 : fieldsKnown Tryz.prog 94 = true := by kernel_rfl
@[go_sem] theorem sg_94 : sigOf Tryz.prog 94 = some [.int, .int, .int, .int, .int, .int] := by kernel_rfl
@[go_sem] theorem ze_94 : zeros Tryz.prog 94 = some [.sc (.int .i64 0), .sc (.int .i64 0), .sc (.int .i64 0), .sc (.int .i64 0), .sc (.int .i64 0), .sc (.int .i64 0)] := by kernel_rfl
@[go_sem] theorem by_94 : bytesOf Tryz.prog 94 = 48 := by kernel_rfl
@[go_sem] theorem sz_98 : szOf Tryz.prog 98 = 5 := by kernel_rfl
@[go_sem] theorem kn_98 : knownT Tryz.prog 98 = true := by kernel_rfl
@[go_sem] theorem ag_98 : aggOf Tryz.prog 98 = true := by kernel_rfl
@[go_sem] theorem us_98 : (Tryz.prog.underlying 98).isSome = true := by kernel_rfl
@[go_sem] theorem fd_98_0 : fieldOf Tryz.prog 98 0 = some (0, 3) := by kernel_rfl
@[go_sem] theorem fd_98_1 : fieldOf Tryz.prog 98 1 = some (1, 3) := by kernel_rfl
@[go_sem] theorem fd_98_2 : fieldOf Tryz.prog 98 2 = some (2, 3) := by kernel_rfl
@[go_sem] theorem fd_98_3 : fieldOf Tryz.prog 98 3 = some (3, 3) := by kernel_rfl
@[go_sem] theorem fd_98_4 : fieldOf Tryz.prog 98 4 = some (4, 3) := by kernel_rfl
@[go_sem] theorem el_98 : Go.PA.elemOf Tryz.prog 98 = none := by kernel_rfl
@[go_sem] theorem ar_98 : arrOf Tryz.prog 98 = none := by kernel_rfl
@[go_sem] theorem fk_98 : fieldsKnown Tryz.prog 98 = true := by kernel_rfl
@[go_sem] theorem sg_98 : sigOf Tryz.prog 98 = some [.int, .int, .int, .int, .int] := by kernel_rfl
@[go_sem] theorem ze_98 : zeros Tryz.prog 98 = some [.sc (.int .i64 0), .sc (.int .i64 0), .sc (.int .i64 0), .sc (.int .i64 0), .sc (.int .i64 0)] := by kernel_rfl
@[go_sem] theorem by_98 : bytesOf Tryz.prog 98 = 40 := by kernel_rfl
@[go_sem] theorem sz_99 : szOf Tryz.prog 99 = 5 := by kernel_rfl
@[go_sem] theorem kn_99 : knownT Tryz.prog 99 = true := by kernel_rfl
@[go_sem] theorem ag_99 : aggOf Tryz.prog 99 = true := by kernel_rfl
@[go_sem] theorem us_99 : (Tryz.prog.underlying 99).isSome = true := by kernel_rfl
@[go_sem] theorem fd_99_0 : fieldOf Tryz.prog 99 0 = some (0, 3) := by kernel_rfl
@[go_sem] theorem fd_99_1 : fieldOf Tryz.prog 99 1 = some (1, 3) := by kernel_rfl
@[go_sem] theorem fd_99_2 : fieldOf Tryz.prog 99 2 = some (2, 3) := by kernel_rfl
@[go_sem] theorem fd_99_3 : fieldOf Tryz.prog 99 3 = some (3, 3) := by kernel_rfl
@[go_sem] theorem fd_99_4 : fieldOf Tryz.prog 99 4 = some (4, 3) := by kernel_rfl
@[go_sem] theorem el_99 : Go.PA.elemOf Tryz.prog 99 = none := by kernel_rfl
@[go_sem] theorem ar_99 : arrOf Tryz.prog 99 = none := by kernel_rfl
@[go_sem] theorem fk_99 : fieldsKnown Tryz.prog 99 = true := by kernel_rfl
@[go_sem] theorem sg_99 : sigOf Tryz.prog 99 = some [.int, .int, .int, .int, .int] := by kernel_rfl
@[go_sem] theorem ze_99 : zeros Tryz.prog 99 = some [.sc (.int .i64 0), .sc (.int .i64 0), .sc (.int .i64 0), .sc (.int .i64 0), .sc (.int .i64 0)] := by kernel_rfl
@[go_sem] theorem by_99 : bytesOf Tryz.prog 99 = 40 := by kernel_rfl
@[go_sem] theorem sz_111 : szOf Tryz.prog 111 = 7 := by kernel_rfl
@[go_sem] theorem kn_111 : knownT Tryz.prog 111 = true := by kernel_rfl
@[go_sem] theorem ag_111 : aggOf Tryz.prog 111 = true := by kernel_rfl
@[go_sem] theorem us_111 : (Tryz.prog.underlying 111).isSome = true := by kernel_rfl
@[go_sem] theorem fd_111_0 : fieldOf Tryz.prog 111 0 = some (0, 99) := by kernel_rfl
@[go_sem] theorem fd_111_1 : fieldOf Tryz.prog 111 1 = some (5, 3) := by kernel_rfl
@[go_sem] theorem fd_111_2 : fieldOf Tryz.prog 111 2 = some (6, 3) := by kernel_rfl
@[go_sem] theorem el_111 : Go.PA.elemOf Tryz.prog 111 = none := by kernel_rfl
@[go_sem] theorem ar_111 : arrOf Tryz.prog 111 = none := by kernel_rfl
@[go_sem] theorem fk_111 : fieldsKnown Tryz.prog 111 = true := by kernel_rfl
@[go_sem] theorem sg_111 : sigOf Tryz.prog 111 = some [.int, .int, .int, .int, .int, .int, .int] := by kernel_rfl
@[go_sem] theorem ze_111 : zeros Tryz.prog 111 = some [.sc (.int .i64 0), .sc (.int .i64 0), .sc (.int .i64 0), .sc (.int .i64 0), .sc (.int .i64 0), .sc (.int .i64 0), .sc (.int .i64 0)] := by kernel_rfl
@[go_sem] theorem by_111 : bytesOf Tryz.prog 111 = 56 := by kernel_rfl
@[go_sem] theorem sz_112 : szOf Tryz.prog 112 = 7 := by kernel_rfl
@[go_sem] theorem kn_112 : knownT Tryz.prog 112 = true := by kernel_rfl
@[go_sem] theorem ag_112 : aggOf Tryz.prog 112 = true := by kernel_rfl
@[go_sem] theorem us_112 : (Tryz.prog.underlying 112).isSome = true := by kernel_rfl
@[go_sem] theorem fd_112_0 : fieldOf Tryz.prog 112 0 = some (0, 99) := by kernel_rfl
@[go_sem] theorem fd_112_1 : fieldOf Tryz.prog 112 1 = some (5, 3) := by kernel_rfl
@[go_sem] theorem fd_112_2 : fieldOf Tryz.prog 112 2 = some (6, 3) := by kernel_rfl
@[go_sem] theorem el_112 : Go.PA.elemOf Tryz.prog 112 = none := by kernel_rfl
@[go_sem] theorem ar_112 : arrOf Tryz.prog 112 = none := by kernel_rfl
@[go_sem] theorem fk_112 : fieldsKnown Tryz.prog 112 = true := by kernel_rfl
@[go_sem] theorem sg_112 : sigOf Tryz.prog 112 = some [.int, .int, .int, .int, .int, .int, .int] := by kernel_rfl
@[go_sem] theorem ze_112 : zeros Tryz.prog 112 = some [.sc (.int .i64 0), .sc (.int .i64 0), .sc (.int .i64 0), .sc (.int .i64 0), .sc (.int .i64 0), .sc (.int .i64 0), .sc (.int .i64 0)] := by kernel_rfl
@[go_sem] theorem by_112 : bytesOf Tryz.prog 112 = 56 := by kernel_rfl
@[go_sem] theorem sz_130 : szOf Tryz.prog 130 = 5 := by kernel_rfl
@[go_sem] theorem kn_130 : knownT Tryz.prog 130 = true := by kernel_rfl
@[go_sem] theorem ag_130 : aggOf Tryz.prog 130 = true := by kernel_rfl
@[go_sem] theorem us_130 : (Tryz.prog.underlying 130).isSome = true := by kernel_rfl
@[go_sem] theorem fd_130_0 : fieldOf Tryz.prog 130 0 = some (0, 3) := by kernel_rfl
@[go_sem] theorem fd_130_1 : fieldOf Tryz.prog 130 1 = some (1, 3) := by kernel_rfl
@[go_sem] theorem fd_130_2 : fieldOf Tryz.prog 130 2 = some (2, 3) := by kernel_rfl
@[go_sem] theorem fd_130_3 : fieldOf Tryz.prog 130 3 = some (3, 3) := by kernel_rfl
@[go_sem] theorem fd_130_4 : fieldOf Tryz.prog 130 4 = some (4, 3) := by kernel_rfl
@[go_sem] theorem el_130 : Go.PA.elemOf Tryz.prog 130 = none := by kernel_rfl
@[go_sem] theorem ar_130 : arrOf Tryz.prog 130 = none := by kernel_rfl
@[go_sem] theorem fk_130 : fieldsKnown Tryz.prog 130 = true := by kernel_rfl
@[go_sem] theorem sg_130 : sigOf Tryz.prog 130 = some [.int, .int, .int, .int, .int] := by kernel_rfl
@[go_sem] theorem ze_130 : zeros Tryz.prog 130 = some [.sc (.int .i64 0), .sc (.int .i64 0), .sc (.int .i64 0), .sc (.int .i64 0), .sc (.int .i64 0)] := by kernel_rfl
@[go_sem] theorem by_130 : bytesOf Tryz.prog 130 = 40 := by kernel_rfl
@[go_sem] theorem sz_131 : szOf Tryz.prog 131 = 5 := by kernel_rfl
@[go_sem] theorem kn_131 : knownT Tryz.prog 131 = true := by kernel_rfl
@[go_sem] theorem ag_131 : aggOf Tryz.prog 131 = true := by kernel_rfl
@[go_sem] theorem us_131 : (Tryz.prog.underlying 131).isSome = true := by kernel_rfl
@[go_sem] theorem fd_131_0 : fieldOf Tryz.prog 131 0 = some (0, 3) := by kernel_rfl
@[go_sem] theorem fd_131_1 : fieldOf Tryz.prog 131 1 = some (1, 3) := by kernel_rfl
@[go_sem] theorem fd_131_2 : fieldOf Tryz.prog 131 2 = some (2, 3) := by kernel_rfl
@[go_sem] theorem fd_131_3 : fieldOf Tryz.prog 131 3 = some (3, 3) := by kernel_rfl
@[go_sem] theorem fd_131_4 : fieldOf Tryz.prog 131 4 = some (4, 3) := by kernel_rfl
@[go_sem] theorem el_131 : Go.PA.elemOf Tryz.prog 131 = none := by kernel_rfl
@[go_sem] theorem ar_131 : arrOf Tryz.prog 131 = none := by kernel_rfl
@[go_sem] theorem fk_131 : fieldsKnown Tryz.prog 131 = true := by kernel_rfl
@[go_sem] theorem sg_131 : sigOf Tryz.prog 131 = some [.int, .int, .int, .int, .int] := by kernel_rfl
@[go_sem] theorem ze_131 : zeros Tryz.prog 131 = some [.sc (.int .i64 0), .sc (.int .i64 0), .sc (.int .i64 0), .sc (.int .i64 0), .sc (.int .i64 0)] := by kernel_rfl
@[go_sem] theorem by_131 : bytesOf Tryz.prog 131 = 40 := by kernel_rfl
@[go_sem] theorem sz_133 : szOf Tryz.prog 133 = 8 := by kernel_rfl
@[go_sem] theorem kn_133 : knownT Tryz.prog 133 = true := by kernel_rfl
@[go_sem] theorem ag_133 : aggOf Tryz.prog 133 = true := by kernel_rfl
@[go_sem] theorem us_133 : (Tryz.prog.underlying 133).isSome = true := by kernel_rfl
@[go_sem] theorem fd_133_0 : fieldOf Tryz.prog 133 0 = some (0, 9) := by kernel_rfl
@[go_sem] theorem fd_133_1 : fieldOf Tryz.prog 133 1 = some (1, 3) := by kernel_rfl
@[go_sem] theorem fd_133_2 : fieldOf Tryz.prog 133 2 = some (2, 3) := by kernel_rfl
@[go_sem] theorem fd_133_3 : fieldOf Tryz.prog 133 3 = some (3, 3) := by kernel_rfl
@[go_sem] theorem fd_133_4 : fieldOf Tryz.prog 133 4 = some (4, 3) := by kernel_rfl
@[go_sem] theorem fd_133_5 : fieldOf Tryz.prog 133 5 = some (5, 3) := by kernel_rfl
@[go_sem] theorem fd_133_6 : fieldOf Tryz.prog 133 6 = some (6, 3) := by kernel_rfl
@[go_sem] theorem fd_133_7 : fieldOf Tryz.prog 133 7 = some (7, 3) := by kernel_rfl
@[go_sem] theorem el_133 : Go.PA.elemOf Tryz.prog 133 = none := by kernel_rfl
@[go_sem] theorem ar_133 : arrOf Tryz.prog 133 = none := by kernel_rfl
@[go_sem] theorem fk_133 : fieldsKnown Tryz.prog 133 = true := by kernel_rfl
@[go_sem] theorem sg_133 : sigOf Tryz.prog 133 = some [.str, .int, .int, .int, .int, .int, .int, .int] := by kernel_rfl
@[go_sem] theorem ze_133 : zeros Tryz.prog 133 = some [.sc (.string ByteArray.empty), .sc (.int .i64 0), .sc (.int .i64 0), .sc (.int .i64 0), .sc (.int .i64 0), .sc (.int .i64 0), .sc (.int .i64 0), .sc (.int .i64 0)] := by kernel_rfl
@[go_sem] theorem by_133 : bytesOf Tryz.prog 133 = 72 := by kernel_rfl
@[go_sem] theorem sz_134 : szOf Tryz.prog 134 = 8 := by kernel_rfl
@[go_sem] theorem kn_134 : knownT Tryz.prog 134 = true := by kernel_rfl
@[go_sem] theorem ag_134 : aggOf Tryz.prog 134 = true := by kernel_rfl
@[go_sem] theorem us_134 : (Tryz.prog.underlying 134).isSome = true := by kernel_rfl
@[go_sem] theorem fd_134_0 : fieldOf Tryz.prog 134 0 = some (0, 9) := by kernel_rfl
@[go_sem] theorem fd_134_1 : fieldOf Tryz.prog 134 1 = some (1, 3) := by kernel_rfl
@[go_sem] theorem fd_134_2 : fieldOf Tryz.prog 134 2 = some (2, 3) := by kernel_rfl
@[go_sem] theorem fd_134_3 : fieldOf Tryz.prog 134 3 = some (3, 3) := by kernel_rfl
@[go_sem] theorem fd_134_4 : fieldOf Tryz.prog 134 4 = some (4, 3) := by kernel_rfl
@[go_sem] theorem fd_134_5 : fieldOf Tryz.prog 134 5 = some (5, 3) := by kernel_rfl
@[go_sem] theorem fd_134_6 : fieldOf Tryz.prog 134 6 = some (6, 3) := by kernel_rfl
@[go_sem] theorem fd_134_7 : fieldOf Tryz.prog 134 7 = some (7, 3) := by kernel_rfl
@[go_sem] theorem el_134 : Go.PA.elemOf Tryz.prog 134 = none := by kernel_rfl
@[go_sem] theorem ar_134 : arrOf Tryz.prog 134 = none := by kernel_rfl
@[go_sem] theorem fk_134 : fieldsKnown Tryz.prog 134 = true := by kernel_rfl
@[go_sem] theorem sg_134 : sigOf Tryz.prog 134 = some [.str, .int, .int, .int, .int, .int, .int, .int] := by kernel_rfl
@[go_sem] theorem ze_134 : zeros Tryz.prog 134 = some [.sc (.string ByteArray.empty), .sc (.int .i64 0), .sc (.int .i64 0), .sc (.int .i64 0), .sc (.int .i64 0), .sc (.int .i64 0), .sc (.int .i64 0), .sc (.int .i64 0)] := by kernel_rfl
@[go_sem] theorem by_134 : bytesOf Tryz.prog 134 = 72 := by kernel_rfl
@[go_sem] theorem sz_136 : szOf Tryz.prog 136 = 6 := by kernel_rfl
@[go_sem] theorem kn_136 : knownT Tryz.prog 136 = true := by kernel_rfl
@[go_sem] theorem ag_136 : aggOf Tryz.prog 136 = true := by kernel_rfl
@[go_sem] theorem us_136 : (Tryz.prog.underlying 136).isSome = true := by kernel_rfl
@[go_sem] theorem fd_136_0 : fieldOf Tryz.prog 136 0 = some (0, 3) := by kernel_rfl
@[go_sem] theorem fd_136_1 : fieldOf Tryz.prog 136 1 = some (1, 3) := by kernel_rfl
@[go_sem] theorem fd_136_2 : fieldOf Tryz.prog 136 2 = some (2, 3) := by kernel_rfl
@[go_sem] theorem fd_136_3 : fieldOf Tryz.prog 136 3 = some (3, 3) := by kernel_rfl
@[go_sem] theorem fd_136_4 : fieldOf Tryz.prog 136 4 = some (4, 3) := by kernel_rfl
@[go_sem] theorem fd_136_5 : fieldOf Tryz.prog 136 5 = some (5, 9) := by kernel_rfl
@[go_sem] theorem el_136 : Go.PA.elemOf Tryz.prog 136 = none := by kernel_rfl
@[go_sem] theorem ar_136 : arrOf Tryz.prog 136 = none := by kernel_rfl
@[go_sem] theorem fk_136 : fieldsKnown Tryz.prog 136 = true := by kernel_rfl
@[go_sem] theorem sg_136 : sigOf Tryz.prog 136 = some [.int, .int, .int, .int, .int, .str] := by kernel_rfl
@[go_sem] theorem ze_136 : zeros Tryz.prog 136 = some [.sc (.int .i64 0), .sc (.int .i64 0), .sc (.int .i64 0), .sc (.int .i64 0), .sc (.int .i64 0), .sc (.string ByteArray.empty)] := by kernel_rfl
@[go_sem] theorem by_136 : bytesOf Tryz.prog 136 = 56 := by kernel_rfl
@[go_sem] theorem sz_137 : szOf Tryz.prog 137 = 6 := by kernel_rfl
@[go_sem] theorem kn_137 : knownT Tryz.prog 137 = true := by kernel_rfl
@[go_sem] theorem ag_137 : aggOf Tryz.prog 137 = true := by kernel_rfl
@[go_sem] theorem us_137 : (Tryz.prog.underlying 137).isSome = true := by kernel_rfl
@[go_sem] theorem fd_137_0 : fieldOf Tryz.prog 137 0 = some (0, 3) := by kernel_rfl
@[go_sem] theorem fd_137_1 : fieldOf Tryz.prog 137 1 = some (1, 3) := by kernel_rfl
@[go_sem] theorem fd_137_2 : fieldOf Tryz.prog 137 2 = some (2, 3) := by kernel_rfl
@[go_sem] theorem fd_137_3 : fieldOf Tryz.prog 137 3 = some (3, 3) := by kernel_rfl
@[go_sem] theorem fd_137_4 : fieldOf Tryz.prog 137 4 = some (4, 3) := by kernel_rfl
@[go_sem] theorem fd_137_5 : fieldOf Tryz.prog 137 5 = some (5, 9) := by kernel_rfl
@[go_sem] theorem el_137 : Go.PA.elemOf Tryz.prog 137 = none := by kernel_rfl
@[go_sem] theorem ar_137 : arrOf Tryz.prog 137 = none := by kernel_rfl
@[go_sem] theorem fk_137 : fieldsKnown Tryz.prog 137 = true := by kernel_rfl
@[go_sem] theorem sg_137 : sigOf Tryz.prog 137 = some [.int, .int, .int, .int, .int, .str] := by kernel_rfl
@[go_sem] theorem ze_137 : zeros Tryz.prog 137 = some [.sc (.int .i64 0), .sc (.int .i64 0), .sc (.int .i64 0), .sc (.int .i64 0), .sc (.int .i64 0), .sc (.string ByteArray.empty)] := by kernel_rfl
@[go_sem] theorem by_137 : bytesOf Tryz.prog 137 = 56 := by kernel_rfl
@[go_sem] theorem sz_161 : szOf Tryz.prog 161 = 1 := by kernel_rfl
@[go_sem] theorem kn_161 : knownT Tryz.prog 161 = true := by kernel_rfl
@[go_sem] theorem ag_161 : aggOf Tryz.prog 161 = false := by kernel_rfl
@[go_sem] theorem us_161 : (Tryz.prog.underlying 161).isSome = true := by kernel_rfl
@[go_sem] theorem el_161 : Go.PA.elemOf Tryz.prog 161 = some 46 := by kernel_rfl
@[go_sem] theorem un_161 : Tryz.prog.underlying 161 = some (.slice 46) := by kernel_rfl
@[go_sem] theorem ze_161 : zeros Tryz.prog 161 = some [.nil] := by kernel_rfl
@[go_sem] theorem az_161 : azero1 Tryz.prog 161 = some (.nil) := by kernel_rfl
@[go_sem] theorem by_161 : bytesOf Tryz.prog 161 = 24 := by kernel_rfl
@[go_sem] theorem sz_169 : szOf Tryz.prog 169 = 2 := by kernel_rfl
@[go_sem] theorem kn_169 : knownT Tryz.prog 169 = true := by kernel_rfl
@[go_sem] theorem ag_169 : aggOf Tryz.prog 169 = true := by kernel_rfl
@[go_sem] theorem us_169 : (Tryz.prog.underlying 169).isSome = true := by kernel_rfl
@[go_sem] theorem fd_169_0 : fieldOf Tryz.prog 169 0 = some (0, 3) := by kernel_rfl
@[go_sem] theorem fd_169_1 : fieldOf Tryz.prog 169 1 = some (1, 3) := by kernel_rfl
@[go_sem] theorem el_169 : Go.PA.elemOf Tryz.prog 169 = none := by kernel_rfl
@[go_sem] theorem ar_169 : arrOf Tryz.prog 169 = none := by kernel_rfl
@[go_sem] theorem fk_169 : fieldsKnown Tryz.prog 169 = true := by kernel_rfl
@[go_sem] theorem sg_169 : sigOf Tryz.prog 169 = some [.int, .int] := by kernel_rfl
@[go_sem] theorem ze_169 : zeros Tryz.prog 169 = some [.sc (.int .i64 0), .sc (.int .i64 0)] := by kernel_rfl
@[go_sem] theorem by_169 : bytesOf Tryz.prog 169 = 16 := by kernel_rfl
@[go_sem] theorem sz_170 : szOf Tryz.prog 170 = 2 := by kernel_rfl
@[go_sem] theorem kn_170 : knownT Tryz.prog 170 = true := by kernel_rfl
@[go_sem] theorem ag_170 : aggOf Tryz.prog 170 = true := by kernel_rfl
@[go_sem] theorem us_170 : (Tryz.prog.underlying 170).isSome = true := by kernel_rfl
@[go_sem] theorem fd_170_0 : fieldOf Tryz.prog 170 0 = some (0, 3) := by kernel_rfl
@[go_sem] theorem fd_170_1 : fieldOf Tryz.prog 170 1 = some (1, 3) := by kernel_rfl
@[go_sem] theorem el_170 : Go.PA.elemOf Tryz.prog 170 = none := by kernel_rfl
@[go_sem] theorem ar_170 : arrOf Tryz.prog 170 = none := by kernel_rfl
@[go_sem] theorem fk_170 : fieldsKnown Tryz.prog 170 = true := by kernel_rfl
@[go_sem] theorem sg_170 : sigOf Tryz.prog 170 = some [.int, .int] := by kernel_rfl
@[go_sem] theorem ze_170 : zeros Tryz.prog 170 = some [.sc (.int .i64 0), .sc (.int .i64 0)] := by kernel_rfl
@[go_sem] theorem by_170 : bytesOf Tryz.prog 170 = 16 := by kernel_rfl
@[go_sem] theorem sz_178 : szOf Tryz.prog 178 = 3 := by kernel_rfl
@[go_sem] theorem kn_178 : knownT Tryz.prog 178 = true := by kernel_rfl
@[go_sem] theorem ag_178 : aggOf Tryz.prog 178 = true := by kernel_rfl
@[go_sem] theorem us_178 : (Tryz.prog.underlying 178).isSome = true := by kernel_rfl
@[go_sem] theorem fd_178_0 : fieldOf Tryz.prog 178 0 = some (0, 3) := by kernel_rfl
@[go_sem] theorem fd_178_1 : fieldOf Tryz.prog 178 1 = some (1, 3) := by kernel_rfl
@[go_sem] theorem fd_178_2 : fieldOf Tryz.prog 178 2 = some (2, 3) := by kernel_rfl
@[go_sem] theorem el_178 : Go.PA.elemOf Tryz.prog 178 = none := by kernel_rfl
@[go_sem] theorem ar_178 : arrOf Tryz.prog 178 = none := by kernel_rfl
@[go_sem] theorem fk_178 : fieldsKnown Tryz.prog 178 = true := by kernel_rfl
@[go_sem] theorem sg_178 : sigOf Tryz.prog 178 = some [.int, .int, .int] := by kernel_rfl
@[go_sem] theorem ze_178 : zeros Tryz.prog 178 = some [.sc (.int .i64 0), .sc (.int .i64 0), .sc (.int .i64 0)] := by kernel_rfl
@[go_sem] theorem by_178 : bytesOf Tryz.prog 178 = 24 := by kernel_rfl
@[go_sem] theorem sz_179 : szOf Tryz.prog 179 = 3 := by kernel_rfl
@[go_sem] theorem kn_179 : knownT Tryz.prog 179 = true := by kernel_rfl
@[go_sem] theorem ag_179 : aggOf Tryz.prog 179 = true := by kernel_rfl
@[go_sem] theorem us_179 : (Tryz.prog.underlying 179).isSome = true := by kernel_rfl
@[go_sem] theorem fd_179_0 : fieldOf Tryz.prog 179 0 = some (0, 3) := by kernel_rfl
@[go_sem] theorem fd_179_1 : fieldOf Tryz.prog 179 1 = some (1, 3) := by kernel_rfl
@[go_sem] theorem fd_179_2 : fieldOf Tryz.prog 179 2 = some (2, 3) := by kernel_rfl
@[go_sem] theorem el_179 : Go.PA.elemOf Tryz.prog 179 = none := by kernel_rfl
@[go_sem] theorem ar_179 : arrOf Tryz.prog 179 = none := by kernel_rfl
@[go_sem] theorem fk_179 : fieldsKnown Tryz.prog 179 = true := by kernel_rfl
@[go_sem] theorem sg_179 : sigOf Tryz.prog 179 = some [.int, .int, .int] := by kernel_rfl
@[go_sem] theorem ze_179 : zeros Tryz.prog 179 = some [.sc (.int .i64 0), .sc (.int .i64 0), .sc (.int .i64 0)] := by kernel_rfl
@[go_sem] theorem by_179 : bytesOf Tryz.prog 179 = 24 := by kernel_rfl
@[go_sem] theorem sz_182 : szOf Tryz.prog 182 = 1 := by kernel_rfl
@[go_sem] theorem kn_182 : knownT Tryz.prog 182 = true := by kernel_rfl
@[go_sem] theorem ag_182 : aggOf Tryz.prog 182 = false := by kernel_rfl
@[go_sem] theorem us_182 : (Tryz.prog.underlying 182).isSome = true := by kernel_rfl
@[go_sem] theorem ze_182 : zeros Tryz.prog 182 = some [.sc (.pointer none)] := by kernel_rfl
@[go_sem] theorem by_182 : bytesOf Tryz.prog 182 = 8 := by kernel_rfl
@[go_sem] theorem sz_192 : szOf Tryz.prog 192 = 1 := by kernel_rfl
@[go_sem] theorem kn_192 : knownT Tryz.prog 192 = true := by kernel_rfl
@[go_sem] theorem ag_192 : aggOf Tryz.prog 192 = false := by kernel_rfl
@[go_sem] theorem us_192 : (Tryz.prog.underlying 192).isSome = true := by kernel_rfl
@[go_sem] theorem ze_192 : zeros Tryz.prog 192 = some [.sc (.pointer none)] := by kernel_rfl
@[go_sem] theorem by_192 : bytesOf Tryz.prog 192 = 8 := by kernel_rfl
@[go_sem] theorem sz_197 : szOf Tryz.prog 197 = 4 := by kernel_rfl
@[go_sem] theorem kn_197 : knownT Tryz.prog 197 = true := by kernel_rfl
@[go_sem] theorem ag_197 : aggOf Tryz.prog 197 = true := by kernel_rfl
@[go_sem] theorem us_197 : (Tryz.prog.underlying 197).isSome = true := by kernel_rfl
@[go_sem] theorem fd_197_0 : fieldOf Tryz.prog 197 0 = some (0, 3) := by kernel_rfl
@[go_sem] theorem fd_197_1 : fieldOf Tryz.prog 197 1 = some (1, 3) := by kernel_rfl
@[go_sem] theorem fd_197_2 : fieldOf Tryz.prog 197 2 = some (2, 3) := by kernel_rfl
@[go_sem] theorem fd_197_3 : fieldOf Tryz.prog 197 3 = some (3, 25) := by kernel_rfl
@[go_sem] theorem el_197 : Go.PA.elemOf Tryz.prog 197 = none := by kernel_rfl
@[go_sem] theorem ar_197 : arrOf Tryz.prog 197 = none := by kernel_rfl
@[go_sem] theorem fk_197 : fieldsKnown Tryz.prog 197 = true := by kernel_rfl
@[go_sem] theorem ze_197 : zeros Tryz.prog 197 = some [.sc (.int .i64 0), .sc (.int .i64 0), .sc (.int .i64 0), .nil] := by kernel_rfl
@[go_sem] theorem by_197 : bytesOf Tryz.prog 197 = 48 := by kernel_rfl
@[go_sem] theorem sz_198 : szOf Tryz.prog 198 = 4 := by kernel_rfl
@[go_sem] theorem kn_198 : knownT Tryz.prog 198 = true := by kernel_rfl
@[go_sem] theorem ag_198 : aggOf Tryz.prog 198 = true := by kernel_rfl
@[go_sem] theorem us_198 : (Tryz.prog.underlying 198).isSome = true := by kernel_rfl
@[go_sem] theorem fd_198_0 : fieldOf Tryz.prog 198 0 = some (0, 3) := by kernel_rfl
@[go_sem] theorem fd_198_1 : fieldOf Tryz.prog 198 1 = some (1, 3) := by kernel_rfl
@[go_sem] theorem fd_198_2 : fieldOf Tryz.prog 198 2 = some (2, 3) := by kernel_rfl
@[go_sem] theorem fd_198_3 : fieldOf Tryz.prog 198 3 = some (3, 25) := by kernel_rfl
@[go_sem] theorem el_198 : Go.PA.elemOf Tryz.prog 198 = none := by kernel_rfl
@[go_sem] theorem ar_198 : arrOf Tryz.prog 198 = none := by kernel_rfl
@[go_sem] theorem fk_198 : fieldsKnown Tryz.prog 198 = true := by kernel_rfl
@[go_sem] theorem ze_198 : zeros Tryz.prog 198 = some [.sc (.int .i64 0), .sc (.int .i64 0), .sc (.int .i64 0), .nil] := by kernel_rfl
@[go_sem] theorem by_198 : bytesOf Tryz.prog 198 = 48 := by kernel_rfl
@[go_sem] theorem sz_219 : szOf Tryz.prog 219 = 1 := by kernel_rfl
@[go_sem] theorem kn_219 : knownT Tryz.prog 219 = true := by kernel_rfl
@[go_sem] theorem ag_219 : aggOf Tryz.prog 219 = false := by kernel_rfl
@[go_sem] theorem us_219 : (Tryz.prog.underlying 219).isSome = true := by kernel_rfl
@[go_sem] theorem mp_219 : mapOf Tryz.prog 219 = some (3, .int .i64, 4) := by kernel_rfl
@[go_sem] theorem mi_219 : IMap Tryz.prog 219 (.sc (.bool false)) := ⟨_, _, mp_219, by kernel_rfl⟩
@[go_sem] theorem im_219 : isMapT Tryz.prog 219 = true := by kernel_rfl
@[go_sem] theorem by_219 : bytesOf Tryz.prog 219 = 8 := by kernel_rfl
@[go_sem] theorem sz_223 : szOf Tryz.prog 223 = 3 := by kernel_rfl
@[go_sem] theorem kn_223 : knownT Tryz.prog 223 = true := by kernel_rfl
@[go_sem] theorem ag_223 : aggOf Tryz.prog 223 = true := by kernel_rfl
@[go_sem] theorem us_223 : (Tryz.prog.underlying 223).isSome = true := by kernel_rfl
@[go_sem] theorem fd_223_0 : fieldOf Tryz.prog 223 0 = some (0, 3) := by kernel_rfl
@[go_sem] theorem fd_223_1 : fieldOf Tryz.prog 223 1 = some (1, 3) := by kernel_rfl
@[go_sem] theorem fd_223_2 : fieldOf Tryz.prog 223 2 = some (2, 3) := by kernel_rfl
@[go_sem] theorem el_223 : Go.PA.elemOf Tryz.prog 223 = none := by kernel_rfl
@[go_sem] theorem ar_223 : arrOf Tryz.prog 223 = none := by kernel_rfl
@[go_sem] theorem fk_223 : fieldsKnown Tryz.prog 223 = true := by kernel_rfl
@[go_sem] theorem sg_223 : sigOf Tryz.prog 223 = some [.int, .int, .int] := by kernel_rfl
@[go_sem] theorem ze_223 : zeros Tryz.prog 223 = some [.sc (.int .i64 0), .sc (.int .i64 0), .sc (.int .i64 0)] := by kernel_rfl
@[go_sem] theorem by_223 : bytesOf Tryz.prog 223 = 24 := by kernel_rfl
@[go_sem] theorem sz_224 : szOf Tryz.prog 224 = 3 := by kernel_rfl
@[go_sem] theorem kn_224 : knownT Tryz.prog 224 = true := by kernel_rfl
@[go_sem] theorem ag_224 : aggOf Tryz.prog 224 = true := by kernel_rfl
@[go_sem] theorem us_224 : (Tryz.prog.underlying 224).isSome = true := by kernel_rfl
@[go_sem] theorem fd_224_0 : fieldOf Tryz.prog 224 0 = some (0, 3) := by kernel_rfl
@[go_sem] theorem fd_224_1 : fieldOf Tryz.prog 224 1 = some (1, 3) := by kernel_rfl
@[go_sem] theorem fd_224_2 : fieldOf Tryz.prog 224 2 = some (2, 3) := by kernel_rfl
@[go_sem] theorem el_224 : Go.PA.elemOf Tryz.prog 224 = none := by kernel_rfl
@[go_sem] theorem ar_224 : arrOf Tryz.prog 224 = none := by kernel_rfl
@[go_sem] theorem fk_224 : fieldsKnown Tryz.prog 224 = true := by kernel_rfl
@[go_sem] theorem sg_224 : sigOf Tryz.prog 224 = some [.int, .int, .int] := by kernel_rfl
@[go_sem] theorem ze_224 : zeros Tryz.prog 224 = some [.sc (.int .i64 0), .sc (.int .i64 0), .sc (.int .i64 0)] := by kernel_rfl
@[go_sem] theorem by_224 : bytesOf Tryz.prog 224 = 24 := by kernel_rfl
@[go_sem] theorem sz_239 : szOf Tryz.prog 239 = 1 := by kernel_rfl
@[go_sem] theorem kn_239 : knownT Tryz.prog 239 = true := by kernel_rfl
@[go_sem] theorem ag_239 : aggOf Tryz.prog 239 = false := by kernel_rfl
@[go_sem] theorem us_239 : (Tryz.prog.underlying 239).isSome = true := by kernel_rfl
@[go_sem] theorem el_239 : Go.PA.elemOf Tryz.prog 239 = some 9 := by kernel_rfl
@[go_sem] theorem un_239 : Tryz.prog.underlying 239 = some (.slice 9) := by kernel_rfl
@[go_sem] theorem ze_239 : zeros Tryz.prog 239 = some [.nil] := by kernel_rfl
@[go_sem] theorem az_239 : azero1 Tryz.prog 239 = some (.nil) := by kernel_rfl
@[go_sem] theorem by_239 : bytesOf Tryz.prog 239 = 24 := by kernel_rfl
@[go_sem] theorem sz_243 : szOf Tryz.prog 243 = 1 := by kernel_rfl
@[go_sem] theorem kn_243 : knownT Tryz.prog 243 = true := by kernel_rfl
@[go_sem] theorem ag_243 : aggOf Tryz.prog 243 = false := by kernel_rfl
@[go_sem] theorem us_243 : (Tryz.prog.underlying 243).isSome = true := by kernel_rfl
@[go_sem] theorem un_243 : Tryz.prog.underlying 243 = some (.int .u64) := by kernel_rfl
@[go_sem] theorem ze_243 : zeros Tryz.prog 243 = some [.sc (.int .u64 0)] := by kernel_rfl
@[go_sem] theorem az_243 : azero1 Tryz.prog 243 = some (.sc (.int .u64 0)) := by kernel_rfl
@[go_sem] theorem by_243 : bytesOf Tryz.prog 243 = 8 := by kernel_rfl
@[go_sem] theorem sz_246 : szOf Tryz.prog 246 = 1 := by kernel_rfl
@[go_sem] theorem kn_246 : knownT Tryz.prog 246 = true := by kernel_rfl
@[go_sem] theorem ag_246 : aggOf Tryz.prog 246 = false := by kernel_rfl
@[go_sem] theorem us_246 : (Tryz.prog.underlying 246).isSome = true := by kernel_rfl
@[go_sem] theorem ze_246 : zeros Tryz.prog 246 = some [.sc (.pointer none)] := by kernel_rfl
@[go_sem] theorem by_246 : bytesOf Tryz.prog 246 = 8 := by kernel_rfl
@[go_sem] theorem sz_252 : szOf Tryz.prog 252 = 1 := by kernel_rfl
@[go_sem] theorem kn_252 : knownT Tryz.prog 252 = true := by kernel_rfl
@[go_sem] theorem ag_252 : aggOf Tryz.prog 252 = false := by kernel_rfl
@[go_sem] theorem us_252 : (Tryz.prog.underlying 252).isSome = true := by kernel_rfl
@[go_sem] theorem el_252 : Go.PA.elemOf Tryz.prog 252 = some 5 := by kernel_rfl
@[go_sem] theorem un_252 : Tryz.prog.underlying 252 = some (.slice 5) := by kernel_rfl
@[go_sem] theorem ze_252 : zeros Tryz.prog 252 = some [.nil] := by kernel_rfl
@[go_sem] theorem az_252 : azero1 Tryz.prog 252 = some (.nil) := by kernel_rfl
@[go_sem] theorem by_252 : bytesOf Tryz.prog 252 = 24 := by kernel_rfl
@[go_sem] theorem sz_255 : szOf Tryz.prog 255 = 1 := by kernel_rfl
@[go_sem] theorem kn_255 : knownT Tryz.prog 255 = true := by kernel_rfl
@[go_sem] theorem ag_255 : aggOf Tryz.prog 255 = false := by kernel_rfl
@[go_sem] theorem us_255 : (Tryz.prog.underlying 255).isSome = true := by kernel_rfl
@[go_sem] theorem ze_255 : zeros Tryz.prog 255 = some [.sc (.pointer none)] := by kernel_rfl
@[go_sem] theorem by_255 : bytesOf Tryz.prog 255 = 8 := by kernel_rfl
@[go_sem] theorem sz_259 : szOf Tryz.prog 259 = 1 := by kernel_rfl
@[go_sem] theorem kn_259 : knownT Tryz.prog 259 = true := by kernel_rfl
@[go_sem] theorem ag_259 : aggOf Tryz.prog 259 = false := by kernel_rfl
@[go_sem] theorem us_259 : (Tryz.prog.underlying 259).isSome = true := by kernel_rfl
@[go_sem] theorem un_259 : Tryz.prog.underlying 259 = some (.int .u64) := by kernel_rfl
@[go_sem] theorem ze_259 : zeros Tryz.prog 259 = some [.sc (.int .u64 0)] := by kernel_rfl
@[go_sem] theorem az_259 : azero1 Tryz.prog 259 = some (.sc (.int .u64 0)) := by kernel_rfl
@[go_sem] theorem by_259 : bytesOf Tryz.prog 259 = 8 := by kernel_rfl
@[go_sem] theorem sz_263 : szOf Tryz.prog 263 = 3 := by kernel_rfl
@[go_sem] theorem kn_263 : knownT Tryz.prog 263 = true := by kernel_rfl
@[go_sem] theorem ag_263 : aggOf Tryz.prog 263 = true := by kernel_rfl
@[go_sem] theorem us_263 : (Tryz.prog.underlying 263).isSome = true := by kernel_rfl
@[go_sem] theorem fd_263_0 : fieldOf Tryz.prog 263 0 = some (0, 9) := by kernel_rfl
@[go_sem] theorem fd_263_1 : fieldOf Tryz.prog 263 1 = some (1, 9) := by kernel_rfl
@[go_sem] theorem fd_263_2 : fieldOf Tryz.prog 263 2 = some (2, 235) := by kernel_rfl
@[go_sem] theorem el_263 : Go.PA.elemOf Tryz.prog 263 = none := by kernel_rfl
@[go_sem] theorem ar_263 : arrOf Tryz.prog 263 = none := by kernel_rfl
@[go_sem] theorem fk_263 : fieldsKnown Tryz.prog 263 = true := by kernel_rfl
@[go_sem] theorem by_263 : bytesOf Tryz.prog 263 = 48 := by kernel_rfl
@[go_sem] theorem sz_264 : szOf Tryz.prog 264 = 3 := by kernel_rfl
@[go_sem] theorem kn_264 : knownT Tryz.prog 264 = true := by kernel_rfl
@[go_sem] theorem ag_264 : aggOf Tryz.prog 264 = true := by kernel_rfl
@[go_sem] theorem us_264 : (Tryz.prog.underlying 264).isSome = true := by kernel_rfl
@[go_sem] theorem fd_264_0 : fieldOf Tryz.prog 264 0 = some (0, 9) := by kernel_rfl
@[go_sem] theorem fd_264_1 : fieldOf Tryz.prog 264 1 = some (1, 9) := by kernel_rfl
@[go_sem] theorem fd_264_2 : fieldOf Tryz.prog 264 2 = some (2, 235) := by kernel_rfl
@[go_sem] theorem el_264 : Go.PA.elemOf Tryz.prog 264 = none := by kernel_rfl
@[go_sem] theorem ar_264 : arrOf Tryz.prog 264 = none := by kernel_rfl
@[go_sem] theorem fk_264 : fieldsKnown Tryz.prog 264 = true := by kernel_rfl
@[go_sem] theorem by_264 : bytesOf Tryz.prog 264 = 48 := by kernel_rfl
@[go_sem] theorem sz_266 : szOf Tryz.prog 266 = 24 := by kernel_rfl
@[go_sem] theorem kn_266 : knownT Tryz.prog 266 = true := by kernel_rfl
@[go_sem] theorem ag_266 : aggOf Tryz.prog 266 = true := by kernel_rfl
@[go_sem] theorem us_266 : (Tryz.prog.underlying 266).isSome = true := by kernel_rfl
@[go_sem] theorem el_266 : Go.PA.elemOf Tryz.prog 266 = none := by kernel_rfl
@[go_sem] theorem ar_266 : arrOf Tryz.prog 266 = some (24, 5) := by kernel_rfl
@[go_sem] theorem fk_266 : fieldsKnown Tryz.prog 266 = true := by kernel_rfl
@[go_sem] theorem fd_266_0 : fieldOf Tryz.prog 266 0 = none := by kernel_rfl
@[go_sem] theorem fd_266_1 : fieldOf Tryz.prog 266 1 = none := by kernel_rfl
@[go_sem] theorem fd_266_2 : fieldOf Tryz.prog 266 2 = none := by kernel_rfl
@[go_sem] theorem fd_266_3 : fieldOf Tryz.prog 266 3 = none := by kernel_rfl
@[go_sem] theorem fd_266_4 : fieldOf Tryz.prog 266 4 = none := by kernel_rfl
@[go_sem] theorem fd_266_5 : fieldOf Tryz.prog 266 5 = none := by kernel_rfl
@[go_sem] theorem fd_266_6 : fieldOf Tryz.prog 266 6 = none := by kernel_rfl
@[go_sem] theorem fd_266_7 : fieldOf Tryz.prog 266 7 = none := by kernel_rfl
@[go_sem] theorem ze_266 : zeros Tryz.prog 266 = some [.sc (.int .u8 0), .sc (.int .u8 0), .sc (.int .u8 0), .sc (.int .u8 0), .sc (.int .u8 0), .sc (.int .u8 0), .sc (.int .u8 0), .sc (.int .u8 0), .sc (.int .u8 0), .sc (.int .u8 0), .sc (.int .u8 0), .sc (.int .u8 0), .sc (.int .u8 0), .sc (.int .u8 0), .sc (.int .u8 0), .sc (.int .u8 0), .sc (.int .u8 0), .sc (.int .u8 0), .sc (.int .u8 0), .sc (.int .u8 0), .sc (.int .u8 0), .sc (.int .u8 0), .sc (.int .u8 0), .sc (.int .u8 0)] := by kernel_rfl
@[go_sem] theorem by_266 : bytesOf Tryz.prog 266 = 24 := by kernel_rfl
@[go_sem] theorem sz_271 : szOf Tryz.prog 271 = 256 := by kernel_rfl
@[go_sem] theorem kn_271 : knownT Tryz.prog 271 = true := by kernel_rfl
@[go_sem] theorem ag_271 : aggOf Tryz.prog 271 = true := by kernel_rfl
@[go_sem] theorem us_271 : (Tryz.prog.underlying 271).isSome = true := by kernel_rfl
@[go_sem] theorem el_271 : Go.PA.elemOf Tryz.prog 271 = none := by kernel_rfl
@[go_sem] theorem ar_271 : arrOf Tryz.prog 271 = some (256, 5) := by kernel_rfl
@[go_sem] theorem fk_271 : fieldsKnown Tryz.prog 271 = true := by kernel_rfl
@[go_sem] theorem fd_271_0 : fieldOf Tryz.prog 271 0 = none := by kernel_rfl
@[go_sem] theorem fd_271_1 : fieldOf Tryz.prog 271 1 = none := by kernel_rfl
@[go_sem] theorem fd_271_2 : fieldOf Tryz.prog 271 2 = none := by kernel_rfl
@[go_sem] theorem fd_271_3 : fieldOf Tryz.prog 271 3 = none := by kernel_rfl
@[go_sem] theorem fd_271_4 : fieldOf Tryz.prog 271 4 = none := by kernel_rfl
@[go_sem] theorem fd_271_5 : fieldOf Tryz.prog 271 5 = none := by kernel_rfl
@[go_sem] theorem fd_271_6 : fieldOf Tryz.prog 271 6 = none := by kernel_rfl
@[go_sem] theorem fd_271_7 : fieldOf Tryz.prog 271 7 = none := by kernel_rfl
@[go_sem] theorem by_271 : bytesOf Tryz.prog 271 = 256 := by kernel_rfl
@[go_sem] theorem sz_272 : szOf Tryz.prog 272 = 2 := by kernel_rfl
@[go_sem] theorem kn_272 : knownT Tryz.prog 272 = true := by kernel_rfl
@[go_sem] theorem ag_272 : aggOf Tryz.prog 272 = true := by kernel_rfl
@[go_sem] theorem us_272 : (Tryz.prog.underlying 272).isSome = true := by kernel_rfl
@[go_sem] theorem fd_272_0 : fieldOf Tryz.prog 272 0 = some (0, 5) := by kernel_rfl
@[go_sem] theorem fd_272_1 : fieldOf Tryz.prog 272 1 = some (1, 5) := by kernel_rfl
@[go_sem] theorem el_272 : Go.PA.elemOf Tryz.prog 272 = none := by kernel_rfl
@[go_sem] theorem ar_272 : arrOf Tryz.prog 272 = none := by kernel_rfl
@[go_sem] theorem fk_272 : fieldsKnown Tryz.prog 272 = true := by kernel_rfl
@[go_sem] theorem sg_272 : sigOf Tryz.prog 272 = some [.int, .int] := by kernel_rfl
@[go_sem] theorem ze_272 : zeros Tryz.prog 272 = some [.sc (.int .u8 0), .sc (.int .u8 0)] := by kernel_rfl
@[go_sem] theorem by_272 : bytesOf Tryz.prog 272 = 2 := by kernel_rfl
@[go_sem] theorem sz_273 : szOf Tryz.prog 273 = 2 := by kernel_rfl
@[go_sem] theorem kn_273 : knownT Tryz.prog 273 = true := by kernel_rfl
@[go_sem] theorem ag_273 : aggOf Tryz.prog 273 = true := by kernel_rfl
@[go_sem] theorem us_273 : (Tryz.prog.underlying 273).isSome = true := by kernel_rfl
@[go_sem] theorem fd_273_0 : fieldOf Tryz.prog 273 0 = some (0, 5) := by kernel_rfl
@[go_sem] theorem fd_273_1 : fieldOf Tryz.prog 273 1 = some (1, 5) := by kernel_rfl
@[go_sem] theorem el_273 : Go.PA.elemOf Tryz.prog 273 = none := by kernel_rfl
@[go_sem] theorem ar_273 : arrOf Tryz.prog 273 = none := by kernel_rfl
@[go_sem] theorem fk_273 : fieldsKnown Tryz.prog 273 = true := by kernel_rfl
@[go_sem] theorem sg_273 : sigOf Tryz.prog 273 = some [.int, .int] := by kernel_rfl
@[go_sem] theorem ze_273 : zeros Tryz.prog 273 = some [.sc (.int .u8 0), .sc (.int .u8 0)] := by kernel_rfl
@[go_sem] theorem by_273 : bytesOf Tryz.prog 273 = 2 := by kernel_rfl
@[go_sem] theorem sz_274 : szOf Tryz.prog 274 = 32 := by kernel_rfl
@[go_sem] theorem kn_274 : knownT Tryz.prog 274 = true := by kernel_rfl
@[go_sem] theorem ag_274 : aggOf Tryz.prog 274 = true := by kernel_rfl
@[go_sem] theorem us_274 : (Tryz.prog.underlying 274).isSome = true := by kernel_rfl
@[go_sem] theorem el_274 : Go.PA.elemOf Tryz.prog 274 = none := by kernel_rfl
@[go_sem] theorem ar_274 : arrOf Tryz.prog 274 = some (16, 273) := by kernel_rfl
@[go_sem] theorem fk_274 : fieldsKnown Tryz.prog 274 = true := by kernel_rfl
@[go_sem] theorem fd_274_0 : fieldOf Tryz.prog 274 0 = none := by kernel_rfl
@[go_sem] theorem fd_274_1 : fieldOf Tryz.prog 274 1 = none := by kernel_rfl
@[go_sem] theorem fd_274_2 : fieldOf Tryz.prog 274 2 = none := by kernel_rfl
@[go_sem] theorem fd_274_3 : fieldOf Tryz.prog 274 3 = none := by kernel_rfl
@[go_sem] theorem fd_274_4 : fieldOf Tryz.prog 274 4 = none := by kernel_rfl
@[go_sem] theorem fd_274_5 : fieldOf Tryz.prog 274 5 = none := by kernel_rfl
@[go_sem] theorem fd_274_6 : fieldOf Tryz.prog 274 6 = none := by kernel_rfl
@[go_sem] theorem fd_274_7 : fieldOf Tryz.prog 274 7 = none := by kernel_rfl
@[go_sem] theorem ze_274 : zeros Tryz.prog 274 = some [.sc (.int .u8 0), .sc (.int .u8 0), .sc (.int .u8 0), .sc (.int .u8 0), .sc (.int .u8 0), .sc (.int .u8 0), .sc (.int .u8 0), .sc (.int .u8 0), .sc (.int .u8 0), .sc (.int .u8 0), .sc (.int .u8 0), .sc (.int .u8 0), .sc (.int .u8 0), .sc (.int .u8 0), .sc (.int .u8 0), .sc (.int .u8 0), .sc (.int .u8 0), .sc (.int .u8 0), .sc (.int .u8 0), .sc (.int .u8 0), .sc (.int .u8 0), .sc (.int .u8 0), .sc (.int .u8 0), .sc (.int .u8 0), .sc (.int .u8 0), .sc (.int .u8 0), .sc (.int .u8 0), .sc (.int .u8 0), .sc (.int .u8 0), .sc (.int .u8 0), .sc (.int .u8 0), .sc (.int .u8 0)] := by kernel_rfl
@[go_sem] theorem by_274 : bytesOf Tryz.prog 274 = 32 := by kernel_rfl
@[go_sem] theorem sz_277 : szOf Tryz.prog 277 = 1 := by kernel_rfl
@[go_sem] theorem kn_277 : knownT Tryz.prog 277 = true := by kernel_rfl
@[go_sem] theorem ag_277 : aggOf Tryz.prog 277 = false := by kernel_rfl
@[go_sem] theorem us_277 : (Tryz.prog.underlying 277).isSome = true := by kernel_rfl
@[go_sem] theorem ze_277 : zeros Tryz.prog 277 = some [.sc (.pointer none)] := by kernel_rfl
@[go_sem] theorem by_277 : bytesOf Tryz.prog 277 = 8 := by kernel_rfl
@[go_sem] theorem sz_278 : szOf Tryz.prog 278 = 1 := by kernel_rfl
@[go_sem] theorem kn_278 : knownT Tryz.prog 278 = true := by kernel_rfl
@[go_sem] theorem ag_278 : aggOf Tryz.prog 278 = false := by kernel_rfl
@[go_sem] theorem us_278 : (Tryz.prog.underlying 278).isSome = true := by kernel_rfl
@[go_sem] theorem ze_278 : zeros Tryz.prog 278 = some [.sc (.pointer none)] := by kernel_rfl
@[go_sem] theorem by_278 : bytesOf Tryz.prog 278 = 8 := by kernel_rfl
@[go_sem] theorem sz_279 : szOf Tryz.prog 279 = 1 := by kernel_rfl
@[go_sem] theorem kn_279 : knownT Tryz.prog 279 = true := by kernel_rfl
@[go_sem] theorem ag_279 : aggOf Tryz.prog 279 = true := by kernel_rfl
@[go_sem] theorem us_279 : (Tryz.prog.underlying 279).isSome = true := by kernel_rfl
@[go_sem] theorem fd_279_0 : fieldOf Tryz.prog 279 0 = some (0, 9) := by kernel_rfl
@[go_sem] theorem el_279 : Go.PA.elemOf Tryz.prog 279 = none := by kernel_rfl
@[go_sem] theorem ar_279 : arrOf Tryz.prog 279 = none := by kernel_rfl
@[go_sem] theorem fk_279 : fieldsKnown Tryz.prog 279 = true := by kernel_rfl
@[go_sem] theorem sg_279 : sigOf Tryz.prog 279 = some [.str] := by kernel_rfl
@[go_sem] theorem ze_279 : zeros Tryz.prog 279 = some [.sc (.string ByteArray.empty)] := by kernel_rfl
@[go_sem] theorem by_279 : bytesOf Tryz.prog 279 = 16 := by kernel_rfl
@[go_sem] theorem sz_280 : szOf Tryz.prog 280 = 1 := by kernel_rfl
@[go_sem] theorem kn_280 : knownT Tryz.prog 280 = true := by kernel_rfl
@[go_sem] theorem ag_280 : aggOf Tryz.prog 280 = true := by kernel_rfl
@[go_sem] theorem us_280 : (Tryz.prog.underlying 280).isSome = true := by kernel_rfl
@[go_sem] theorem fd_280_0 : fieldOf Tryz.prog 280 0 = some (0, 9) := by kernel_rfl
@[go_sem] theorem el_280 : Go.PA.elemOf Tryz.prog 280 = none := by kernel_rfl
@[go_sem] theorem ar_280 : arrOf Tryz.prog 280 = none := by kernel_rfl
@[go_sem] theorem fk_280 : fieldsKnown Tryz.prog 280 = true := by kernel_rfl
@[go_sem] theorem sg_280 : sigOf Tryz.prog 280 = some [.str] := by kernel_rfl
@[go_sem] theorem ze_280 : zeros Tryz.prog 280 = some [.sc (.string ByteArray.empty)] := by kernel_rfl
@[go_sem] theorem by_280 : bytesOf Tryz.prog 280 = 16 := by kernel_rfl
@[go_sem] theorem sz_282 : szOf Tryz.prog 282 = 20 := by kernel_rfl
@[go_sem] theorem kn_282 : knownT Tryz.prog 282 = true := by kernel_rfl
@[go_sem] theorem ag_282 : aggOf Tryz.prog 282 = true := by kernel_rfl
@[go_sem] theorem us_282 : (Tryz.prog.underlying 282).isSome = true := by kernel_rfl
@[go_sem] theorem el_282 : Go.PA.elemOf Tryz.prog 282 = none := by kernel_rfl
@[go_sem] theorem ar_282 : arrOf Tryz.prog 282 = some (20, 259) := by kernel_rfl
@[go_sem] theorem fk_282 : fieldsKnown Tryz.prog 282 = true := by kernel_rfl
@[go_sem] theorem fd_282_0 : fieldOf Tryz.prog 282 0 = none := by kernel_rfl
@[go_sem] theorem fd_282_1 : fieldOf Tryz.prog 282 1 = none := by kernel_rfl
@[go_sem] theorem fd_282_2 : fieldOf Tryz.prog 282 2 = none := by kernel_rfl
@[go_sem] theorem fd_282_3 : fieldOf Tryz.prog 282 3 = none := by kernel_rfl
@[go_sem] theorem fd_282_4 : fieldOf Tryz.prog 282 4 = none := by kernel_rfl
@[go_sem] theorem fd_282_5 : fieldOf Tryz.prog 282 5 = none := by kernel_rfl
@[go_sem] theorem fd_282_6 : fieldOf Tryz.prog 282 6 = none := by kernel_rfl
@[go_sem] theorem fd_282_7 : fieldOf Tryz.prog 282 7 = none := by kernel_rfl
@[go_sem] theorem ze_282 : zeros Tryz.prog 282 = some [.sc (.int .u64 0), .sc (.int .u64 0), .sc (.int .u64 0), .sc (.int .u64 0), .sc (.int .u64 0), .sc (.int .u64 0), .sc (.int .u64 0), .sc (.int .u64 0), .sc (.int .u64 0), .sc (.int .u64 0), .sc (.int .u64 0), .sc (.int .u64 0), .sc (.int .u64 0), .sc (.int .u64 0), .sc (.int .u64 0), .sc (.int .u64 0), .sc (.int .u64 0), .sc (.int .u64 0), .sc (.int .u64 0), .sc (.int .u64 0)] := by kernel_rfl
@[go_sem] theorem by_282 : bytesOf Tryz.prog 282 = 160 := by kernel_rfl
@[go_sem] theorem sz_283 : szOf Tryz.prog 283 = 1 := by kernel_rfl
@[go_sem] theorem kn_283 : knownT Tryz.prog 283 = true := by kernel_rfl
@[go_sem] theorem ag_283 : aggOf Tryz.prog 283 = false := by kernel_rfl
@[go_sem] theorem us_283 : (Tryz.prog.underlying 283).isSome = true := by kernel_rfl
@[go_sem] theorem un_283 : Tryz.prog.underlying 283 = some (.int .u32) := by kernel_rfl
@[go_sem] theorem ze_283 : zeros Tryz.prog 283 = some [.sc (.int .u32 0)] := by kernel_rfl
@[go_sem] theorem az_283 : azero1 Tryz.prog 283 = some (.sc (.int .u32 0)) := by kernel_rfl
@[go_sem] theorem by_283 : bytesOf Tryz.prog 283 = 4 := by kernel_rfl
@[go_sem] theorem sz_284 : szOf Tryz.prog 284 = 65 := by kernel_rfl
@[go_sem] theorem kn_284 : knownT Tryz.prog 284 = true := by kernel_rfl
@[go_sem] theorem ag_284 : aggOf Tryz.prog 284 = true := by kernel_rfl
@[go_sem] theorem us_284 : (Tryz.prog.underlying 284).isSome = true := by kernel_rfl
@[go_sem] theorem el_284 : Go.PA.elemOf Tryz.prog 284 = none := by kernel_rfl
@[go_sem] theorem ar_284 : arrOf Tryz.prog 284 = some (65, 5) := by kernel_rfl
@[go_sem] theorem fk_284 : fieldsKnown Tryz.prog 284 = true := by kernel_rfl
@[go_sem] theorem fd_284_0 : fieldOf Tryz.prog 284 0 = none := by kernel_rfl
@[go_sem] theorem fd_284_1 : fieldOf Tryz.prog 284 1 = none := by kernel_rfl
@[go_sem] theorem fd_284_2 : fieldOf Tryz.prog 284 2 = none := by kernel_rfl
@[go_sem] theorem fd_284_3 : fieldOf Tryz.prog 284 3 = none := by kernel_rfl
@[go_sem] theorem fd_284_4 : fieldOf Tryz.prog 284 4 = none := by kernel_rfl
@[go_sem] theorem fd_284_5 : fieldOf Tryz.prog 284 5 = none := by kernel_rfl
@[go_sem] theorem fd_284_6 : fieldOf Tryz.prog 284 6 = none := by kernel_rfl
@[go_sem] theorem fd_284_7 : fieldOf Tryz.prog 284 7 = none := by kernel_rfl
@[go_sem] theorem by_284 : bytesOf Tryz.prog 284 = 65 := by kernel_rfl
@[go_sem] theorem sz_289 : szOf Tryz.prog 289 = 32 := by kernel_rfl
@[go_sem] theorem kn_289 : knownT Tryz.prog 289 = true := by kernel_rfl
@[go_sem] theorem ag_289 : aggOf Tryz.prog 289 = true := by kernel_rfl
@[go_sem] theorem us_289 : (Tryz.prog.underlying 289).isSome = true := by kernel_rfl
@[go_sem] theorem el_289 : Go.PA.elemOf Tryz.prog 289 = none := by kernel_rfl
@[go_sem] theorem ar_289 : arrOf Tryz.prog 289 = some (32, 5) := by kernel_rfl
@[go_sem] theorem fk_289 : fieldsKnown Tryz.prog 289 = true := by kernel_rfl
@[go_sem] theorem fd_289_0 : fieldOf Tryz.prog 289 0 = none := by kernel_rfl
@[go_sem] theorem fd_289_1 : fieldOf Tryz.prog 289 1 = none := by kernel_rfl
@[go_sem] theorem fd_289_2 : fieldOf Tryz.prog 289 2 = none := by kernel_rfl
@[go_sem] theorem fd_289_3 : fieldOf Tryz.prog 289 3 = none := by kernel_rfl
@[go_sem] theorem fd_289_4 : fieldOf Tryz.prog 289 4 = none := by kernel_rfl
@[go_sem] theorem fd_289_5 : fieldOf Tryz.prog 289 5 = none := by kernel_rfl
@[go_sem] theorem fd_289_6 : fieldOf Tryz.prog 289 6 = none := by kernel_rfl
@[go_sem] theorem fd_289_7 : fieldOf Tryz.prog 289 7 = none := by kernel_rfl
@[go_sem] theorem ze_289 : zeros Tryz.prog 289 = some [.sc (.int .u8 0), .sc (.int .u8 0), .sc (.int .u8 0), .sc (.int .u8 0), .sc (.int .u8 0), .sc (.int .u8 0), .sc (.int .u8 0), .sc (.int .u8 0), .sc (.int .u8 0), .sc (.int .u8 0), .sc (.int .u8 0), .sc (.int .u8 0), .sc (.int .u8 0), .sc (.int .u8 0), .sc (.int .u8 0), .sc (.int .u8 0), .sc (.int .u8 0), .sc (.int .u8 0), .sc (.int .u8 0), .sc (.int .u8 0), .sc (.int .u8 0), .sc (.int .u8 0), .sc (.int .u8 0), .sc (.int .u8 0), .sc (.int .u8 0), .sc (.int .u8 0), .sc (.int .u8 0), .sc (.int .u8 0), .sc (.int .u8 0), .sc (.int .u8 0), .sc (.int .u8 0), .sc (.int .u8 0)] := by kernel_rfl
@[go_sem] theorem by_289 : bytesOf Tryz.prog 289 = 32 := by kernel_rfl
@[go_sem] theorem sz_290 : szOf Tryz.prog 290 = 64 := by kernel_rfl
@[go_sem] theorem kn_290 : knownT Tryz.prog 290 = true := by kernel_rfl
@[go_sem] theorem ag_290 : aggOf Tryz.prog 290 = true := by kernel_rfl
@[go_sem] theorem us_290 : (Tryz.prog.underlying 290).isSome = true := by kernel_rfl
@[go_sem] theorem el_290 : Go.PA.elemOf Tryz.prog 290 = none := by kernel_rfl
@[go_sem] theorem ar_290 : arrOf Tryz.prog 290 = some (64, 5) := by kernel_rfl
@[go_sem] theorem fk_290 : fieldsKnown Tryz.prog 290 = true := by kernel_rfl
@[go_sem] theorem fd_290_0 : fieldOf Tryz.prog 290 0 = none := by kernel_rfl
@[go_sem] theorem fd_290_1 : fieldOf Tryz.prog 290 1 = none := by kernel_rfl
@[go_sem] theorem fd_290_2 : fieldOf Tryz.prog 290 2 = none := by kernel_rfl
@[go_sem] theorem fd_290_3 : fieldOf Tryz.prog 290 3 = none := by kernel_rfl
@[go_sem] theorem fd_290_4 : fieldOf Tryz.prog 290 4 = none := by kernel_rfl
@[go_sem] theorem fd_290_5 : fieldOf Tryz.prog 290 5 = none := by kernel_rfl
@[go_sem] theorem fd_290_6 : fieldOf Tryz.prog 290 6 = none := by kernel_rfl
@[go_sem] theorem fd_290_7 : fieldOf Tryz.prog 290 7 = none := by kernel_rfl
@[go_sem] theorem by_290 : bytesOf Tryz.prog 290 = 64 := by kernel_rfl
@[go_sem] theorem en_3 : enterable Tryz.prog 3 = true := by kernel_rfl
@[go_sem] theorem en_4 : enterable Tryz.prog 4 = true := by kernel_rfl
@[go_sem] theorem en_5 : enterable Tryz.prog 5 = true := by kernel_rfl
@[go_sem] theorem en_6 : enterable Tryz.prog 6 = true := by kernel_rfl
@[go_sem] theorem en_7 : enterable Tryz.prog 7 = true := by kernel_rfl
@[go_sem] theorem en_8 : enterable Tryz.prog 8 = true := by kernel_rfl
@[go_sem] theorem en_9 : enterable Tryz.prog 9 = true := by kernel_rfl
@[go_sem] theorem en_10 : enterable Tryz.prog 10 = true := by kernel_rfl
@[go_sem] theorem en_11 : enterable Tryz.prog 11 = true := by kernel_rfl
@[go_sem] theorem en_12 : enterable Tryz.prog 12 = true := by kernel_rfl
@[go_sem] theorem en_13 : enterable Tryz.prog 13 = true := by kernel_rfl
@[go_sem] theorem en_14 : enterable Tryz.prog 14 = true := by kernel_rfl
@[go_sem] theorem en_15 : enterable Tryz.prog 15 = true := by kernel_rfl
@[go_sem] theorem en_16 : enterable Tryz.prog 16 = true := by kernel_rfl
@[go_sem] theorem en_17 : enterable Tryz.prog 17 = true := by kernel_rfl
@[go_sem] theorem en_18 : enterable Tryz.prog 18 = true := by kernel_rfl
@[go_sem] theorem en_19 : enterable Tryz.prog 19 = true := by kernel_rfl
@[go_sem] theorem en_20 : enterable Tryz.prog 20 = true := by kernel_rfl
@[go_sem] theorem en_21 : enterable Tryz.prog 21 = true := by kernel_rfl
@[go_sem] theorem en_22 : enterable Tryz.prog 22 = true := by kernel_rfl
@[go_sem] theorem en_23 : enterable Tryz.prog 23 = true := by kernel_rfl
@[go_sem] theorem en_24 : enterable Tryz.prog 24 = true := by kernel_rfl
@[go_sem] theorem en_25 : enterable Tryz.prog 25 = true := by kernel_rfl
@[go_sem] theorem en_26 : enterable Tryz.prog 26 = true := by kernel_rfl
@[go_sem] theorem en_27 : enterable Tryz.prog 27 = true := by kernel_rfl
@[go_sem] theorem en_28 : enterable Tryz.prog 28 = true := by kernel_rfl
@[go_sem] theorem en_29 : enterable Tryz.prog 29 = true := by kernel_rfl
@[go_sem] theorem en_30 : enterable Tryz.prog 30 = true := by kernel_rfl
@[go_sem] theorem en_31 : enterable Tryz.prog 31 = true := by kernel_rfl
@[go_sem] theorem en_32 : enterable Tryz.prog 32 = true := by kernel_rfl
@[go_sem] theorem en_33 : enterable Tryz.prog 33 = true := by kernel_rfl
@[go_sem] theorem en_34 : enterable Tryz.prog 34 = true := by kernel_rfl
@[go_sem] theorem en_35 : enterable Tryz.prog 35 = true := by kernel_rfl
@[go_sem] theorem en_36 : enterable Tryz.prog 36 = true := by kernel_rfl
@[go_sem] theorem en_37 : enterable Tryz.prog 37 = true := by kernel_rfl
@[go_sem] theorem en_38 : enterable Tryz.prog 38 = true := by kernel_rfl
@[go_sem] theorem en_39 : enterable Tryz.prog 39 = true := by kernel_rfl
@[go_sem] theorem en_40 : enterable Tryz.prog 40 = true := by kernel_rfl
@[go_sem] theorem en_41 : enterable Tryz.prog 41 = true := by kernel_rfl
@[go_sem] theorem en_42 : enterable Tryz.prog 42 = true := by kernel_rfl
@[go_sem] theorem en_43 : enterable Tryz.prog 43 = true := by kernel_rfl
@[go_sem] theorem en_44 : enterable Tryz.prog 44 = true := by kernel_rfl
@[go_sem] theorem en_45 : enterable Tryz.prog 45 = true := by kernel_rfl
@[go_sem] theorem en_46 : enterable Tryz.prog 46 = true := by kernel_rfl
@[go_sem] theorem en_47 : enterable Tryz.prog 47 = true := by kernel_rfl
@[go_sem] theorem en_48 : enterable Tryz.prog 48 = true := by kernel_rfl
@[go_sem] theorem en_49 : enterable Tryz.prog 49 = true := by kernel_rfl
@[go_sem] theorem en_50 : enterable Tryz.prog 50 = true := by kernel_rfl
@[go_sem] theorem en_51 : enterable Tryz.prog 51 = true := by kernel_rfl
@[go_sem] theorem en_52 : enterable Tryz.prog 52 = true := by kernel_rfl
@[go_sem] theorem en_53 : enterable Tryz.prog 53 = true := by kernel_rfl
@[go_sem] theorem en_54 : enterable Tryz.prog 54 = true := by kernel_rfl
@[go_sem] theorem en_55 : enterable Tryz.prog 55 = true := by kernel_rfl
@[go_sem] theorem en_56 : enterable Tryz.prog 56 = true := by kernel_rfl
@[go_sem] theorem en_57 : enterable Tryz.prog 57 = true := by kernel_rfl
@[go_sem] theorem en_58 : enterable Tryz.prog 58 = true := by kernel_rfl
@[go_sem] theorem en_59 : enterable Tryz.prog 59 = true := by kernel_rfl
@[go_sem] theorem en_60 : enterable Tryz.prog 60 = true := by kernel_rfl
@[go_sem] theorem en_61 : enterable Tryz.prog 61 = true := by kernel_rfl
@[go_sem] theorem en_62 : enterable Tryz.prog 62 = true := by kernel_rfl
@[go_sem] theorem en_63 : enterable Tryz.prog 63 = true := by kernel_rfl
@[go_sem] theorem en_64 : enterable Tryz.prog 64 = true := by kernel_rfl
@[go_sem] theorem en_65 : enterable Tryz.prog 65 = true := by kernel_rfl
@[go_sem] theorem en_66 : enterable Tryz.prog 66 = true := by kernel_rfl
@[go_sem] theorem en_67 : enterable Tryz.prog 67 = true := by kernel_rfl
@[go_sem] theorem en_68 : enterable Tryz.prog 68 = true := by kernel_rfl
@[go_sem] theorem en_69 : enterable Tryz.prog 69 = true := by kernel_rfl
@[go_sem] theorem en_70 : enterable Tryz.prog 70 = true := by kernel_rfl
@[go_sem] theorem en_71 : enterable Tryz.prog 71 = true := by kernel_rfl
@[go_sem] theorem en_72 : enterable Tryz.prog 72 = true := by kernel_rfl
@[go_sem] theorem en_73 : enterable Tryz.prog 73 = true := by kernel_rfl
@[go_sem] theorem en_74 : enterable Tryz.prog 74 = true := by kernel_rfl
@[go_sem] theorem en_75 : enterable Tryz.prog 75 = true := by kernel_rfl
@[go_sem] theorem en_76 : enterable Tryz.prog 76 = true := by kernel_rfl
@[go_sem] theorem en_77 : enterable Tryz.prog 77 = true := by kernel_rfl
@[go_sem] theorem en_78 : enterable Tryz.prog 78 = true := by kernel_rfl
@[go_sem] theorem en_79 : enterable Tryz.prog 79 = true := by kernel_rfl
@[go_sem] theorem en_80 : enterable Tryz.prog 80 = true := by kernel_rfl
@[go_sem] theorem en_81 : enterable Tryz.prog 81 = true := by kernel_rfl
@[go_sem] theorem en_82 : enterable Tryz.prog 82 = true := by kernel_rfl
@[go_sem] theorem en_83 : enterable Tryz.prog 83 = true := by kernel_rfl
@[go_sem] theorem en_84 : enterable Tryz.prog 84 = true := by kernel_rfl
@[go_sem] theorem en_85 : enterable Tryz.prog 85 = true := by kernel_rfl
@[go_sem] theorem en_86 : enterable Tryz.prog 86 = true := by kernel_rfl
@[go_sem] theorem en_87 : enterable Tryz.prog 87 = true := by kernel_rfl
@[go_sem] theorem en_88 : enterable Tryz.prog 88 = true := by kernel_rfl
@[go_sem] theorem en_89 : enterable Tryz.prog 89 = true := by kernel_rfl
@[go_sem] theorem en_90 : enterable Tryz.prog 90 = true := by kernel_rfl
@[go_sem] theorem en_91 : enterable Tryz.prog 91 = true := by kernel_rfl
@[go_sem] theorem en_92 : enterable Tryz.prog 92 = true := by kernel_rfl
@[go_sem] theorem en_93 : enterable Tryz.prog 93 = true := by kernel_rfl
@[go_sem] theorem en_94 : enterable Tryz.prog 94 = true := by kernel_rfl
@[go_sem] theorem en_95 : enterable Tryz.prog 95 = true := by kernel_rfl
@[go_sem] theorem en_96 : enterable Tryz.prog 96 = true := by kernel_rfl
@[go_sem] theorem en_97 : enterable Tryz.prog 97 = true := by kernel_rfl
@[go_sem] theorem en_98 : enterable Tryz.prog 98 = true := by kernel_rfl
@[go_sem] theorem en_99 : enterable Tryz.prog 99 = true := by kernel_rfl
@[go_sem] theorem en_100 : enterable Tryz.prog 100 = true := by kernel_rfl
@[go_sem] theorem en_101 : enterable Tryz.prog 101 = true := by kernel_rfl
@[go_sem] theorem en_102 : enterable Tryz.prog 102 = true := by kernel_rfl
@[go_sem] theorem en_103 : enterable Tryz.prog 103 = true := by kernel_rfl
@[go_sem] theorem en_104 : enterable Tryz.prog 104 = true := by kernel_rfl
@[go_sem] theorem en_105 : enterable Tryz.prog 105 = true := by kernel_rfl
@[go_sem] theorem en_106 : enterable Tryz.prog 106 = true := by kernel_rfl
@[go_sem] theorem en_107 : enterable Tryz.prog 107 = true := by kernel_rfl
@[go_sem] theorem en_108 : enterable Tryz.prog 108 = true := by kernel_rfl
@[go_sem] theorem en_109 : enterable Tryz.prog 109 = true := by kernel_rfl
@[go_sem] theorem en_110 : enterable Tryz.prog 110 = true := by kernel_rfl
@[go_sem] theorem en_111 : enterable Tryz.prog 111 = true := by kernel_rfl
@[go_sem] theorem en_112 : enterable Tryz.prog 112 = true := by kernel_rfl
@[go_sem] theorem en_113 : enterable Tryz.prog 113 = true := by kernel_rfl
@[go_sem] theorem en_114 : enterable Tryz.prog 114 = true := by kernel_rfl
@[go_sem] theorem en_115 : enterable Tryz.prog 115 = true := by kernel_rfl
@[go_sem] theorem en_116 : enterable Tryz.prog 116 = true := by kernel_rfl
@[go_sem] theorem en_117 : enterable Tryz.prog 117 = true := by kernel_rfl
@[go_sem] theorem en_118 : enterable Tryz.prog 118 = true := by kernel_rfl
@[go_sem] theorem en_119 : enterable Tryz.prog 119 = true := by kernel_rfl
@[go_sem] theorem en_120 : enterable Tryz.prog 120 = true := by kernel_rfl
@[go_sem] theorem en_121 : enterable Tryz.prog 121 = true := by kernel_rfl
@[go_sem] theorem en_122 : enterable Tryz.prog 122 = true := by kernel_rfl
@[go_sem] theorem en_123 : enterable Tryz.prog 123 = true := by kernel_rfl
@[go_sem] theorem en_124 : enterable Tryz.prog 124 = true := by kernel_rfl
@[go_sem] theorem en_125 : enterable Tryz.prog 125 = true := by kernel_rfl
@[go_sem] theorem en_126 : enterable Tryz.prog 126 = true := by kernel_rfl
@[go_sem] theorem en_127 : enterable Tryz.prog 127 = true := by kernel_rfl
@[go_sem] theorem en_128 : enterable Tryz.prog 128 = true := by kernel_rfl
@[go_sem] theorem en_129 : enterable Tryz.prog 129 = true := by kernel_rfl
@[go_sem] theorem en_130 : enterable Tryz.prog 130 = true := by kernel_rfl
@[go_sem] theorem en_131 : enterable Tryz.prog 131 = true := by kernel_rfl
@[go_sem] theorem en_132 : enterable Tryz.prog 132 = true := by kernel_rfl
@[go_sem] theorem en_133 : enterable Tryz.prog 133 = true := by kernel_rfl
@[go_sem] theorem en_134 : enterable Tryz.prog 134 = true := by kernel_rfl
@[go_sem] theorem en_135 : enterable Tryz.prog 135 = true := by kernel_rfl
@[go_sem] theorem en_136 : enterable Tryz.prog 136 = true := by kernel_rfl
@[go_sem] theorem en_137 : enterable Tryz.prog 137 = true := by kernel_rfl
@[go_sem] theorem en_138 : enterable Tryz.prog 138 = true := by kernel_rfl
@[go_sem] theorem en_139 : enterable Tryz.prog 139 = true := by kernel_rfl
@[go_sem] theorem en_140 : enterable Tryz.prog 140 = true := by kernel_rfl
@[go_sem] theorem en_141 : enterable Tryz.prog 141 = true := by kernel_rfl
@[go_sem] theorem en_142 : enterable Tryz.prog 142 = true := by kernel_rfl
@[go_sem] theorem en_143 : enterable Tryz.prog 143 = true := by kernel_rfl
@[go_sem] theorem en_144 : enterable Tryz.prog 144 = true := by kernel_rfl
@[go_sem] theorem en_145 : enterable Tryz.prog 145 = true := by kernel_rfl
@[go_sem] theorem en_146 : enterable Tryz.prog 146 = true := by kernel_rfl
@[go_sem] theorem en_147 : enterable Tryz.prog 147 = true := by kernel_rfl
@[go_sem] theorem en_148 : enterable Tryz.prog 148 = true := by kernel_rfl
@[go_sem] theorem en_149 : enterable Tryz.prog 149 = true := by kernel_rfl
@[go_sem] theorem en_150 : enterable Tryz.prog 150 = true := by kernel_rfl
@[go_sem] theorem en_151 : enterable Tryz.prog 151 = true := by kernel_rfl
@[go_sem] theorem en_152 : enterable Tryz.prog 152 = true := by kernel_rfl
@[go_sem] theorem en_153 : enterable Tryz.prog 153 = true := by kernel_rfl
@[go_sem] theorem en_154 : enterable Tryz.prog 154 = true := by kernel_rfl
@[go_sem] theorem en_155 : enterable Tryz.prog 155 = true := by kernel_rfl
@[go_sem] theorem en_156 : enterable Tryz.prog 156 = true := by kernel_rfl
@[go_sem] theorem en_157 : enterable Tryz.prog 157 = true := by kernel_rfl
@[go_sem] theorem en_158 : enterable Tryz.prog 158 = true := by kernel_rfl
@[go_sem] theorem en_159 : enterable Tryz.prog 159 = true := by kernel_rfl
@[go_sem] theorem en_160 : enterable Tryz.prog 160 = true := by kernel_rfl
@[go_sem] theorem en_161 : enterable Tryz.prog 161 = true := by kernel_rfl
@[go_sem] theorem en_162 : enterable Tryz.prog 162 = true := by kernel_rfl
@[go_sem] theorem en_163 : enterable Tryz.prog 163 = true := by kernel_rfl
@[go_sem] theorem en_164 : enterable Tryz.prog 164 = true := by kernel_rfl
@[go_sem] theorem en_165 : enterable Tryz.prog 165 = true := by kernel_rfl
@[go_sem] theorem en_166 : enterable Tryz.prog 166 = true := by kernel_rfl
@[go_sem] theorem en_167 : enterable Tryz.prog 167 = true := by kernel_rfl
@[go_sem] theorem en_168 : enterable Tryz.prog 168 = true := by kernel_rfl
@[go_sem] theorem en_169 : enterable Tryz.prog 169 = true := by kernel_rfl
@[go_sem] theorem en_170 : enterable Tryz.prog 170 = true := by kernel_rfl
@[go_sem] theorem en_171 : enterable Tryz.prog 171 = true := by kernel_rfl
@[go_sem] theorem en_172 : enterable Tryz.prog 172 = true := by kernel_rfl
@[go_sem] theorem en_173 : enterable Tryz.prog 173 = true := by kernel_rfl
@[go_sem] theorem en_174 : enterable Tryz.prog 174 = true := by kernel_rfl
@[go_sem] theorem en_175 : enterable Tryz.prog 175 = true := by kernel_rfl
@[go_sem] theorem en_176 : enterable Tryz.prog 176 = true := by kernel_rfl
@[go_sem] theorem en_177 : enterable Tryz.prog 177 = true := by kernel_rfl
@[go_sem] theorem en_178 : enterable Tryz.prog 178 = true := by kernel_rfl
@[go_sem] theorem en_179 : enterable Tryz.prog 179 = true := by kernel_rfl
@[go_sem] theorem en_180 : enterable Tryz.prog 180 = true := by kernel_rfl
@[go_sem] theorem en_181 : enterable Tryz.prog 181 = true := by kernel_rfl
@[go_sem] theorem en_182 : enterable Tryz.prog 182 = true := by kernel_rfl
@[go_sem] theorem en_183 : enterable Tryz.prog 183 = true := by kernel_rfl
@[go_sem] theorem en_184 : enterable Tryz.prog 184 = true := by kernel_rfl
@[go_sem] theorem en_185 : enterable Tryz.prog 185 = true := by kernel_rfl
@[go_sem] theorem en_186 : enterable Tryz.prog 186 = true := by kernel_rfl
@[go_sem] theorem en_187 : enterable Tryz.prog 187 = true := by kernel_rfl
@[go_sem] theorem en_188 : enterable Tryz.prog 188 = true := by kernel_rfl
@[go_sem] theorem en_189 : enterable Tryz.prog 189 = true := by kernel_rfl
@[go_sem] theorem en_190 : enterable Tryz.prog 190 = true := by kernel_rfl
@[go_sem] theorem en_191 : enterable Tryz.prog 191 = true := by kernel_rfl
@[go_sem] theorem en_192 : enterable Tryz.prog 192 = true := by kernel_rfl
@[go_sem] theorem en_193 : enterable Tryz.prog 193 = true := by kernel_rfl
@[go_sem] theorem en_194 : enterable Tryz.prog 194 = true := by kernel_rfl
@[go_sem] theorem en_195 : enterable Tryz.prog 195 = true := by kernel_rfl
@[go_sem] theorem en_196 : enterable Tryz.prog 196 = true := by kernel_rfl
@[go_sem] theorem en_197 : enterable Tryz.prog 197 = true := by kernel_rfl
@[go_sem] theorem en_198 : enterable Tryz.prog 198 = true := by kernel_rfl
@[go_sem] theorem en_199 : enterable Tryz.prog 199 = true := by kernel_rfl
@[go_sem] theorem en_200 : enterable Tryz.prog 200 = true := by kernel_rfl
@[go_sem] theorem en_201 : enterable Tryz.prog 201 = true := by kernel_rfl
@[go_sem] theorem en_202 : enterable Tryz.prog 202 = true := by kernel_rfl
@[go_sem] theorem en_203 : enterable Tryz.prog 203 = true := by kernel_rfl
@[go_sem] theorem en_204 : enterable Tryz.prog 204 = true := by kernel_rfl
@[go_sem] theorem en_205 : enterable Tryz.prog 205 = true := by kernel_rfl
@[go_sem] theorem en_206 : enterable Tryz.prog 206 = true := by kernel_rfl
@[go_sem] theorem en_207 : enterable Tryz.prog 207 = true := by kernel_rfl
@[go_sem] theorem en_209 : enterable Tryz.prog 209 = true := by kernel_rfl
@[go_sem] theorem en_211 : enterable Tryz.prog 211 = true := by kernel_rfl
@[go_sem] theorem en_212 : enterable Tryz.prog 212 = true := by kernel_rfl
@[go_sem] theorem en_213 : enterable Tryz.prog 213 = true := by kernel_rfl
@[go_sem] theorem en_214 : enterable Tryz.prog 214 = true := by kernel_rfl
@[go_sem] theorem en_215 : enterable Tryz.prog 215 = true := by kernel_rfl
@[go_sem] theorem en_216 : enterable Tryz.prog 216 = true := by kernel_rfl
@[go_sem] theorem en_217 : enterable Tryz.prog 217 = true := by kernel_rfl
@[go_sem] theorem en_219 : enterable Tryz.prog 219 = true := by kernel_rfl
@[go_sem] theorem en_220 : enterable Tryz.prog 220 = true := by kernel_rfl
@[go_sem] theorem en_221 : enterable Tryz.prog 221 = true := by kernel_rfl
@[go_sem] theorem en_222 : enterable Tryz.prog 222 = true := by kernel_rfl
@[go_sem] theorem en_224 : enterable Tryz.prog 224 = true := by kernel_rfl
@[go_sem] theorem en_225 : enterable Tryz.prog 225 = true := by kernel_rfl
@[go_sem] theorem en_229 : enterable Tryz.prog 229 = true := by kernel_rfl
@[go_sem] theorem en_241 : enterable Tryz.prog 241 = true := by kernel_rfl
@[go_sem] theorem en_244 : enterable Tryz.prog 244 = true := by kernel_rfl
@[go_sem] theorem en_247 : enterable Tryz.prog 247 = true := by kernel_rfl
@[go_sem] theorem en_248 : enterable Tryz.prog 248 = true := by kernel_rfl
@[go_sem] theorem rs_3 : Tryz.f3.results.toList = [.tmp 2] := rfl
@[go_sem] theorem rs_4 : Tryz.f4.results.toList = [.tmp 18] := rfl
@[go_sem] theorem rs_5 : Tryz.f5.results.toList = [.tmp 2] := rfl
@[go_sem] theorem rs_6 : Tryz.f6.results.toList = [.cell 4 35, .tmp 5] := rfl
@[go_sem] theorem rs_7 : Tryz.f7.results.toList = [.tmp 4] := rfl
@[go_sem] theorem rs_8 : Tryz.f8.results.toList = [.tmp 2] := rfl
@[go_sem] theorem rs_9 : Tryz.f9.results.toList = [.tmp 2] := rfl
@[go_sem] theorem rs_10 : Tryz.f10.results.toList = [.cell 4 35, .cell 5 45, .tmp 6] := rfl
@[go_sem] theorem rs_11 : Tryz.f11.results.toList = [.tmp 0] := rfl
@[go_sem] theorem rs_12 : Tryz.f12.results.toList = [.tmp 10, .tmp 11] := rfl
@[go_sem] theorem rs_13 : Tryz.f13.results.toList = [.tmp 4] := rfl
@[go_sem] theorem rs_14 : Tryz.f14.results.toList = [.tmp 4] := rfl
@[go_sem] theorem rs_15 : Tryz.f15.results.toList = [.cell 2 42] := rfl
@[go_sem] theorem rs_16 : Tryz.f16.results.toList = [.tmp 4] := rfl
@[go_sem] theorem rs_17 : Tryz.f17.results.toList = [.tmp 2] := rfl
@[go_sem] theorem rs_18 : Tryz.f18.results.toList = [.tmp 6] := rfl
@[go_sem] theorem rs_19 : Tryz.f19.results.toList = [.tmp 2, .tmp 3] := rfl
@[go_sem] theorem rs_20 : Tryz.f20.results.toList = [.tmp 2] := rfl
@[go_sem] theorem rs_21 : Tryz.f21.results.toList = [.tmp 2] := rfl
@[go_sem] theorem rs_22 : Tryz.f22.results.toList = [.tmp 2, .tmp 3] := rfl
@[go_sem] theorem rs_23 : Tryz.f23.results.toList = [.tmp 4] := rfl
@[go_sem] theorem rs_24 : Tryz.f24.results.toList = [.tmp 4] := rfl
@[go_sem] theorem rs_25 : Tryz.f25.results.toList = [.tmp 8, .tmp 9] := rfl
@[go_sem] theorem rs_26 : Tryz.f26.results.toList = [.tmp 8, .tmp 9] := rfl
@[go_sem] theorem rs_27 : Tryz.f27.results.toList = [.cell 2 59, .tmp 3] := rfl
@[go_sem] theorem rs_28 : Tryz.f28.results.toList = [.cell 2 59, .tmp 3] := rfl
@[go_sem] theorem rs_29 : Tryz.f29.results.toList = [.tmp 4] := rfl
@[go_sem] theorem rs_30 : Tryz.f30.results.toList = [.tmp 6, .tmp 7] := rfl
@[go_sem] theorem rs_31 : Tryz.f31.results.toList = [.tmp 6, .tmp 7] := rfl
@[go_sem] theorem rs_32 : Tryz.f32.results.toList = [.cell 4 57] := rfl
@[go_sem] theorem rs_33 : Tryz.f33.results.toList = [.tmp 4] := rfl
@[go_sem] theorem rs_34 : Tryz.f34.results.toList = [.tmp 4] := rfl
@[go_sem] theorem rs_35 : Tryz.f35.results.toList = [.tmp 4] := rfl
@[go_sem] theorem rs_36 : Tryz.f36.results.toList = [.tmp 4] := rfl
@[go_sem] theorem rs_37 : Tryz.f37.results.toList = [.tmp 10, .tmp 11] := rfl
@[go_sem] theorem rs_38 : Tryz.f38.results.toList = [.cell 4 28] := rfl
@[go_sem] theorem rs_39 : Tryz.f39.results.toList = [.cell 2 35, .tmp 3] := rfl
@[go_sem] theorem rs_40 : Tryz.f40.results.toList = [.cell 6 35, .tmp 7] := rfl
@[go_sem] theorem rs_41 : Tryz.f41.results.toList = [.tmp 2] := rfl
@[go_sem] theorem rs_42 : Tryz.f42.results.toList = [.tmp 6] := rfl
@[go_sem] theorem rs_43 : Tryz.f43.results.toList = [.tmp 4, .tmp 5] := rfl
@[go_sem] theorem rs_44 : Tryz.f44.results.toList = [.tmp 2] := rfl
@[go_sem] theorem rs_45 : Tryz.f45.results.toList = [.tmp 2] := rfl
@[go_sem] theorem rs_46 : Tryz.f46.results.toList = [.tmp 2] := rfl
@[go_sem] theorem rs_47 : Tryz.f47.results.toList = [.tmp 4] := rfl
@[go_sem] theorem rs_48 : Tryz.f48.results.toList = [.cell 4 28, .tmp 5] := rfl
@[go_sem] theorem rs_49 : Tryz.f49.results.toList = [.cell 12 94] := rfl
@[go_sem] theorem rs_50 : Tryz.f50.results.toList = [.cell 6 32, .cell 7 45, .tmp 8] := rfl
@[go_sem] theorem rs_51 : Tryz.f51.results.toList = [.tmp 4] := rfl
@[go_sem] theorem rs_52 : Tryz.f52.results.toList = [.cell 6 35] := rfl
@[go_sem] theorem rs_53 : Tryz.f53.results.toList = [.tmp 2] := rfl
@[go_sem] theorem rs_54 : Tryz.f54.results.toList = [.tmp 2] := rfl
@[go_sem] theorem rs_55 : Tryz.f55.results.toList = [.tmp 2] := rfl
@[go_sem] theorem rs_56 : Tryz.f56.results.toList = [.tmp 6, .tmp 7] := rfl
@[go_sem] theorem rs_57 : Tryz.f57.results.toList = [.tmp 2] := rfl
@[go_sem] theorem rs_58 : Tryz.f58.results.toList = [.tmp 2] := rfl
@[go_sem] theorem rs_59 : Tryz.f59.results.toList = [.tmp 2] := rfl
@[go_sem] theorem rs_60 : Tryz.f60.results.toList = [.tmp 4] := rfl
@[go_sem] theorem rs_61 : Tryz.f61.results.toList = [.tmp 2] := rfl
@[go_sem] theorem rs_62 : Tryz.f62.results.toList = [.tmp 2] := rfl
@[go_sem] theorem rs_63 : Tryz.f63.results.toList = [.tmp 2] := rfl
@[go_sem] theorem rs_64 : Tryz.f64.results.toList = [.tmp 2] := rfl
@[go_sem] theorem rs_65 : Tryz.f65.results.toList = [.tmp 2] := rfl
@[go_sem] theorem rs_66 : Tryz.f66.results.toList = [.tmp 2] := rfl
@[go_sem] theorem rs_67 : Tryz.f67.results.toList = [.tmp 2] := rfl
@[go_sem] theorem rs_68 : Tryz.f68.results.toList = [.cell 4 59] := rfl
@[go_sem] theorem rs_69 : Tryz.f69.results.toList = [.tmp 4] := rfl
@[go_sem] theorem rs_70 : Tryz.f70.results.toList = [.tmp 4] := rfl
@[go_sem] theorem rs_71 : Tryz.f71.results.toList = [.cell 2 57, .tmp 3] := rfl
@[go_sem] theorem rs_72 : Tryz.f72.results.toList = [.tmp 4] := rfl
@[go_sem] theorem rs_73 : Tryz.f73.results.toList = [.cell 4 57, .tmp 5, .tmp 6] := rfl
@[go_sem] theorem rs_74 : Tryz.f74.results.toList = [.cell 6 131] := rfl
@[go_sem] theorem rs_75 : Tryz.f75.results.toList = [.cell 2 134] := rfl
@[go_sem] theorem rs_76 : Tryz.f76.results.toList = [.tmp 2] := rfl
@[go_sem] theorem rs_77 : Tryz.f77.results.toList = [.tmp 2] := rfl
@[go_sem] theorem rs_78 : Tryz.f78.results.toList = [.tmp 2] := rfl
@[go_sem] theorem rs_79 : Tryz.f79.results.toList = [.tmp 6, .tmp 7] := rfl
@[go_sem] theorem rs_80 : Tryz.f80.results.toList = [.tmp 2] := rfl
@[go_sem] theorem rs_81 : Tryz.f81.results.toList = [.cell 4 28, .tmp 5] := rfl
@[go_sem] theorem rs_82 : Tryz.f82.results.toList = [.tmp 2] := rfl
@[go_sem] theorem rs_83 : Tryz.f83.results.toList = [.cell 4 35, .tmp 5] := rfl
@[go_sem] theorem rs_84 : Tryz.f84.results.toList = [.cell 2 99] := rfl
@[go_sem] theorem rs_85 : Tryz.f85.results.toList = [.cell 4 35, .tmp 5] := rfl
@[go_sem] theorem rs_86 : Tryz.f86.results.toList = [.cell 6 35, .tmp 7] := rfl
@[go_sem] theorem rs_87 : Tryz.f87.results.toList = [.cell 6 35, .tmp 7] := rfl
@[go_sem] theorem rs_88 : Tryz.f88.results.toList = [.cell 4 35, .tmp 5] := rfl
@[go_sem] theorem rs_89 : Tryz.f89.results.toList = [.tmp 2] := rfl
@[go_sem] theorem rs_90 : Tryz.f90.results.toList = [.tmp 2] := rfl
@[go_sem] theorem rs_91 : Tryz.f91.results.toList = [.tmp 4] := rfl
@[go_sem] theorem rs_92 : Tryz.f92.results.toList = [.tmp 4] := rfl
@[go_sem] theorem rs_93 : Tryz.f93.results.toList = [.tmp 2, .tmp 3] := rfl
@[go_sem] theorem rs_94 : Tryz.f94.results.toList = [] := rfl
@[go_sem] theorem rs_95 : Tryz.f95.results.toList = [.tmp 4] := rfl
@[go_sem] theorem rs_96 : Tryz.f96.results.toList = [.tmp 2] := rfl
@[go_sem] theorem rs_97 : Tryz.f97.results.toList = [.tmp 2] := rfl
@[go_sem] theorem rs_98 : Tryz.f98.results.toList = [.tmp 4, .tmp 5] := rfl
@[go_sem] theorem rs_99 : Tryz.f99.results.toList = [.tmp 2] := rfl
@[go_sem] theorem rs_100 : Tryz.f100.results.toList = [.cell 4 99, .tmp 5] := rfl
@[go_sem] theorem rs_101 : Tryz.f101.results.toList = [.tmp 4] := rfl
@[go_sem] theorem rs_102 : Tryz.f102.results.toList = [.tmp 4, .tmp 5, .tmp 6] := rfl
@[go_sem] theorem rs_103 : Tryz.f103.results.toList = [.tmp 2] := rfl
@[go_sem] theorem rs_104 : Tryz.f104.results.toList = [.tmp 8, .tmp 9] := rfl
@[go_sem] theorem rs_105 : Tryz.f105.results.toList = [.cell 2 94] := rfl
@[go_sem] theorem rs_106 : Tryz.f106.results.toList = [.tmp 4] := rfl
@[go_sem] theorem rs_107 : Tryz.f107.results.toList = [.tmp 2] := rfl
@[go_sem] theorem rs_108 : Tryz.f108.results.toList = [.tmp 2] := rfl
@[go_sem] theorem rs_109 : Tryz.f109.results.toList = [.tmp 2] := rfl
@[go_sem] theorem rs_110 : Tryz.f110.results.toList = [.tmp 4] := rfl
@[go_sem] theorem rs_111 : Tryz.f111.results.toList = [.tmp 2] := rfl
@[go_sem] theorem rs_112 : Tryz.f112.results.toList = [.tmp 2] := rfl
@[go_sem] theorem rs_113 : Tryz.f113.results.toList = [.tmp 4] := rfl
@[go_sem] theorem rs_114 : Tryz.f114.results.toList = [.tmp 6] := rfl
@[go_sem] theorem rs_115 : Tryz.f115.results.toList = [.tmp 6] := rfl
@[go_sem] theorem rs_116 : Tryz.f116.results.toList = [.tmp 4] := rfl
@[go_sem] theorem rs_117 : Tryz.f117.results.toList = [.tmp 4] := rfl
@[go_sem] theorem rs_118 : Tryz.f118.results.toList = [.tmp 4] := rfl
@[go_sem] theorem rs_119 : Tryz.f119.results.toList = [.tmp 2] := rfl
@[go_sem] theorem rs_120 : Tryz.f120.results.toList = [.tmp 2] := rfl
@[go_sem] theorem rs_121 : Tryz.f121.results.toList = [.tmp 2] := rfl
@[go_sem] theorem rs_122 : Tryz.f122.results.toList = [.tmp 2] := rfl
@[go_sem] theorem rs_123 : Tryz.f123.results.toList = [.cell 2 57] := rfl
@[go_sem] theorem rs_124 : Tryz.f124.results.toList = [.tmp 4] := rfl
@[go_sem] theorem rs_125 : Tryz.f125.results.toList = [.cell 6 179, .tmp 7] := rfl
@[go_sem] theorem rs_126 : Tryz.f126.results.toList = [.tmp 4] := rfl
@[go_sem] theorem rs_127 : Tryz.f127.results.toList = [.tmp 4] := rfl
@[go_sem] theorem rs_128 : Tryz.f128.results.toList = [.tmp 2] := rfl
@[go_sem] theorem rs_129 : Tryz.f129.results.toList = [.tmp 2] := rfl
@[go_sem] theorem rs_130 : Tryz.f130.results.toList = [.tmp 2] := rfl
@[go_sem] theorem rs_131 : Tryz.f131.results.toList = [.tmp 2] := rfl
@[go_sem] theorem rs_132 : Tryz.f132.results.toList = [.tmp 2] := rfl
@[go_sem] theorem rs_133 : Tryz.f133.results.toList = [.tmp 2] := rfl
@[go_sem] theorem rs_134 : Tryz.f134.results.toList = [.tmp 4, .tmp 5] := rfl
@[go_sem] theorem rs_135 : Tryz.f135.results.toList = [.cell 4 32, .tmp 5] := rfl
@[go_sem] theorem rs_136 : Tryz.f136.results.toList = [.tmp 6, .cell 7 112, .tmp 8] := rfl
@[go_sem] theorem rs_137 : Tryz.f137.results.toList = [.cell 4 32, .tmp 5] := rfl
@[go_sem] theorem rs_138 : Tryz.f138.results.toList = [.cell 4 32, .tmp 5] := rfl
@[go_sem] theorem rs_139 : Tryz.f139.results.toList = [.tmp 2] := rfl
@[go_sem] theorem rs_140 : Tryz.f140.results.toList = [.tmp 2] := rfl
@[go_sem] theorem rs_141 : Tryz.f141.results.toList = [.tmp 2] := rfl
@[go_sem] theorem rs_142 : Tryz.f142.results.toList = [.tmp 4, .tmp 5] := rfl
@[go_sem] theorem rs_143 : Tryz.f143.results.toList = [.tmp 2] := rfl
@[go_sem] theorem rs_144 : Tryz.f144.results.toList = [.tmp 4] := rfl
@[go_sem] theorem rs_145 : Tryz.f145.results.toList = [.tmp 2] := rfl
@[go_sem] theorem rs_146 : Tryz.f146.results.toList = [.tmp 2] := rfl
@[go_sem] theorem rs_147 : Tryz.f147.results.toList = [.tmp 4] := rfl
@[go_sem] theorem rs_148 : Tryz.f148.results.toList = [.tmp 2] := rfl
@[go_sem] theorem rs_149 : Tryz.f149.results.toList = [.tmp 2] := rfl
@[go_sem] theorem rs_150 : Tryz.f150.results.toList = [.tmp 4] := rfl
@[go_sem] theorem rs_151 : Tryz.f151.results.toList = [.tmp 4, .tmp 5] := rfl
@[go_sem] theorem rs_152 : Tryz.f152.results.toList = [.tmp 2] := rfl
@[go_sem] theorem rs_153 : Tryz.f153.results.toList = [.tmp 4] := rfl
@[go_sem] theorem rs_154 : Tryz.f154.results.toList = [.tmp 4] := rfl
@[go_sem] theorem rs_155 : Tryz.f155.results.toList = [.tmp 2] := rfl
@[go_sem] theorem rs_156 : Tryz.f156.results.toList = [] := rfl
@[go_sem] theorem rs_157 : Tryz.f157.results.toList = [.tmp 4] := rfl
@[go_sem] theorem rs_158 : Tryz.f158.results.toList = [.tmp 4] := rfl
@[go_sem] theorem rs_159 : Tryz.f159.results.toList = [.tmp 2] := rfl
@[go_sem] theorem rs_160 : Tryz.f160.results.toList = [.tmp 2] := rfl
@[go_sem] theorem rs_161 : Tryz.f161.results.toList = [.tmp 4] := rfl
@[go_sem] theorem rs_162 : Tryz.f162.results.toList = [.tmp 4] := rfl
@[go_sem] theorem rs_163 : Tryz.f163.results.toList = [.tmp 4] := rfl
@[go_sem] theorem rs_164 : Tryz.f164.results.toList = [.cell 2 22] := rfl
@[go_sem] theorem rs_165 : Tryz.f165.results.toList = [.tmp 2] := rfl
@[go_sem] theorem rs_166 : Tryz.f166.results.toList = [.tmp 2] := rfl
@[go_sem] theorem rs_167 : Tryz.f167.results.toList = [.tmp 4] := rfl
@[go_sem] theorem rs_168 : Tryz.f168.results.toList = [.tmp 2] := rfl
@[go_sem] theorem rs_169 : Tryz.f169.results.toList = [.tmp 4] := rfl
@[go_sem] theorem rs_170 : Tryz.f170.results.toList = [.tmp 2] := rfl
@[go_sem] theorem rs_171 : Tryz.f171.results.toList = [.tmp 6, .tmp 7] := rfl
@[go_sem] theorem rs_172 : Tryz.f172.results.toList = [.tmp 2] := rfl
@[go_sem] theorem rs_173 : Tryz.f173.results.toList = [.tmp 4] := rfl
@[go_sem] theorem rs_174 : Tryz.f174.results.toList = [.cell 4 32] := rfl
@[go_sem] theorem rs_175 : Tryz.f175.results.toList = [.tmp 6] := rfl
@[go_sem] theorem rs_176 : Tryz.f176.results.toList = [.tmp 2] := rfl
@[go_sem] theorem rs_177 : Tryz.f177.results.toList = [.tmp 4] := rfl
@[go_sem] theorem rs_178 : Tryz.f178.results.toList = [.tmp 4] := rfl
@[go_sem] theorem rs_179 : Tryz.f179.results.toList = [.tmp 6] := rfl
@[go_sem] theorem rs_180 : Tryz.f180.results.toList = [.tmp 4] := rfl
@[go_sem] theorem rs_181 : Tryz.f181.results.toList = [.tmp 3] := rfl
@[go_sem] theorem rs_182 : Tryz.f182.results.toList = [.tmp 4] := rfl
@[go_sem] theorem rs_183 : Tryz.f183.results.toList = [.tmp 4] := rfl
@[go_sem] theorem rs_184 : Tryz.f184.results.toList = [.tmp 4] := rfl
@[go_sem] theorem rs_185 : Tryz.f185.results.toList = [.tmp 3] := rfl
@[go_sem] theorem rs_186 : Tryz.f186.results.toList = [.tmp 3] := rfl
@[go_sem] theorem rs_187 : Tryz.f187.results.toList = [.tmp 2] := rfl
@[go_sem] theorem rs_188 : Tryz.f188.results.toList = [] := rfl
@[go_sem] theorem rs_189 : Tryz.f189.results.toList = [] := rfl
@[go_sem] theorem rs_190 : Tryz.f190.results.toList = [.tmp 4] := rfl
@[go_sem] theorem rs_191 : Tryz.f191.results.toList = [.tmp 6] := rfl
@[go_sem] theorem rs_192 : Tryz.f192.results.toList = [.tmp 2] := rfl
@[go_sem] theorem rs_193 : Tryz.f193.results.toList = [.tmp 4] := rfl
@[go_sem] theorem rs_194 : Tryz.f194.results.toList = [.tmp 3] := rfl
@[go_sem] theorem rs_195 : Tryz.f195.results.toList = [.tmp 4] := rfl
@[go_sem] theorem rs_196 : Tryz.f196.results.toList = [.tmp 3] := rfl
@[go_sem] theorem rs_197 : Tryz.f197.results.toList = [.tmp 4] := rfl
@[go_sem] theorem rs_198 : Tryz.f198.results.toList = [.tmp 2, .tmp 3] := rfl
@[go_sem] theorem rs_199 : Tryz.f199.results.toList = [.tmp 2] := rfl
@[go_sem] theorem rs_200 : Tryz.f200.results.toList = [.tmp 6, .tmp 7] := rfl
@[go_sem] theorem rs_201 : Tryz.f201.results.toList = [.tmp 2] := rfl
@[go_sem] theorem rs_202 : Tryz.f202.results.toList = [.tmp 4] := rfl
@[go_sem] theorem rs_203 : Tryz.f203.results.toList = [.tmp 6] := rfl
@[go_sem] theorem rs_204 : Tryz.f204.results.toList = [.tmp 4] := rfl
@[go_sem] theorem rs_205 : Tryz.f205.results.toList = [.tmp 4] := rfl
@[go_sem] theorem rs_206 : Tryz.f206.results.toList = [] := rfl
@[go_sem] theorem rs_207 : Tryz.f207.results.toList = [.tmp 6] := rfl
@[go_sem] theorem rs_209 : Tryz.f209.results.toList = [.tmp 10] := rfl
@[go_sem] theorem rs_211 : Tryz.f211.results.toList = [.tmp 2] := rfl
@[go_sem] theorem rs_212 : Tryz.f212.results.toList = [.tmp 2, .tmp 3] := rfl
@[go_sem] theorem rs_213 : Tryz.f213.results.toList = [.tmp 4] := rfl
@[go_sem] theorem rs_214 : Tryz.f214.results.toList = [] := rfl
@[go_sem] theorem rs_215 : Tryz.f215.results.toList = [] := rfl
@[go_sem] theorem rs_216 : Tryz.f216.results.toList = [.tmp 2, .tmp 3] := rfl
@[go_sem] theorem rs_217 : Tryz.f217.results.toList = [.tmp 4] := rfl
@[go_sem] theorem rs_219 : Tryz.f219.results.toList = [.tmp 4] := rfl
@[go_sem] theorem rs_220 : Tryz.f220.results.toList = [.tmp 4] := rfl
@[go_sem] theorem rs_221 : Tryz.f221.results.toList = [.tmp 6] := rfl
@[go_sem] theorem rs_222 : Tryz.f222.results.toList = [.tmp 6] := rfl
@[go_sem] theorem rs_224 : Tryz.f224.results.toList = [.tmp 3] := rfl
@[go_sem] theorem rs_225 : Tryz.f225.results.toList = [.tmp 2, .tmp 3] := rfl
@[go_sem] theorem rs_229 : Tryz.f229.results.toList = [.tmp 2] := rfl
@[go_sem] theorem rs_241 : Tryz.f241.results.toList = [.tmp 2] := rfl
@[go_sem] theorem rs_244 : Tryz.f244.results.toList = [.tmp 2] := rfl
@[go_sem] theorem rs_247 : Tryz.f247.results.toList = [.tmp 2] := rfl
@[go_sem] theorem rs_248 : Tryz.f248.results.toList = [.tmp 2] := rfl
@[go_sem] theorem rs_265 : Tryz.f265.results.toList = [] := rfl
@[go_sem] theorem rs_266 : Tryz.f266.results.toList = [] := rfl
@[go_sem] theorem rs_270 : Tryz.f270.results.toList = [] := rfl
@[go_sem] theorem rs_271 : Tryz.f271.results.toList = [] := rfl
@[go_sem] theorem rs_272 : Tryz.f272.results.toList = [] := rfl
@[go_sem] theorem rs_273 : Tryz.f273.results.toList = [] := rfl
@[go_sem] theorem rs_275 : Tryz.f275.results.toList = [] := rfl
@[go_sem] theorem rs_276 : Tryz.f276.results.toList = [] := rfl
open Go.RowKit
open Go.PA
abbrev sp (p : Nat) : AV := .sc (.pointer (some ⟨p, 0, none⟩))
set_option maxHeartbeats 400000 in
theorem N_out (p : Nat) (A : Option Addr) (len c : Nat) (at_ : Int) (n : Int) (w : World)
    (h0 : w.cell? ⟨p, 0, none⟩ = some (.slice A len c)) (h1 : w.cell? ⟨p, 1, none⟩ = some (.int .i64 at_))
    (hge : (len : Int) ≤ at_) :
    Calls Tryz.prog 16 #[.pointer (some ⟨p, 0, none⟩), .int .i64 n] w fun e w' => e = .returned (.int .i64 0) ∧ ∃ k, w' = w.drewN k := by
  have hge' : decide ((len : Int) ≤ at_) = true := by simpa using hge
  go_enter Tryz.func16, Tryz.ntmps16
  go_wp2
  go_quiet (fail)
  go_wp2
  go_ret
  exact ⟨rfl, _, rfl⟩
set_option maxHeartbeats 400000 in
theorem N_low (p : Nat) (A : Option Addr) (len c : Nat) (at_ : Int) (n : Int) (w : World)
    (h0 : w.cell? ⟨p, 0, none⟩ = some (.slice A len c)) (h1 : w.cell? ⟨p, 1, none⟩ = some (.int .i64 at_))
    (hlt : at_ < len) (hn : n < 1) :
    Calls Tryz.prog 16 #[.pointer (some ⟨p, 0, none⟩), .int .i64 n] w fun e w' => e = .returned (.int .i64 0) ∧ ∃ k, w' = w.drewN k := by
  have hge' : decide ((len : Int) ≤ at_) = false := by simpa using hlt
  have hn' : decide (n < 1) = true := by simpa using hn
  go_enter Tryz.func16, Tryz.ntmps16
  go_wp2
  go_quiet (fail)
  go_wp2
  go_ret
  exact ⟨rfl, _, rfl⟩
set_option maxHeartbeats 400000 in
theorem N_in (p : Nat) (ad : Addr) (len c : Nat) (at_ : Nat) (n x : Int) (w : World)
    (h0 : w.cell? ⟨p, 0, none⟩ = some (.slice (some ad) len c)) (h1 : w.cell? ⟨p, 1, none⟩ = some (.int .i64 at_))
    (hf : w.frozen? ⟨p, 1, none⟩ = false)
    (hx : w.cell? (ad.add at_) = some (.int .i64 x)) (hp : ad.block ≠ p)
    (hlen : len ≤ 900)
    (hlt : (at_ : Int) < len) (hn : 1 ≤ n) (hn2 : n ≤ 4000000000000000000) :
    Calls Tryz.prog 16 #[.pointer (some ⟨p, 0, none⟩), .int .i64 n] w fun e w' => e = .returned (.int .i64 ((x.tmod n + n) % n)) ∧ ∃ j k, w' = ((w.drewN j).setCell ⟨p, 1, none⟩ (.int .i64 (at_ + 1))).drewN k := by
  have hge' : decide (len ≤ at_) = false := by simp; omega
  have hn' : decide (n < 1) = false := by simpa using hn
  have hw1 : IntKind.i64.wrap (at_ : Int) = at_ := by rw [IntKind.wrap_i64]; omega
  have hx' : ∀ nq : Nat, ((w.drewN nq).setCell ⟨p, 1, none⟩ (.int .i64 (at_ + 1))).cell? (ad.add at_) = some (.int .i64 x) := fun nq => by
    have h : (⟨p, 1, none⟩ : Addr) ≠ ad.add at_ := fun e => hp (by rw [← block_add ad at_, ← e])
    exact (World.cell?_setCell_other _ _ _ _ h).trans hx
  have hn0 : ¬ n = 0 := by omega
  have hb : -n < x.tmod n ∧ x.tmod n < n := by
    exact ⟨Int.lt_tmod_of_pos x (by omega), Int.tmod_lt_of_pos x (by omega)⟩
  have hw2 : IntKind.i64.wrap (x.tmod n + n) = x.tmod n + n := by rw [IntKind.wrap_i64]; omega
  go_enter Tryz.func16, Tryz.ntmps16
  go_wp2
  go_quiet (fail)
  go_wp2
  go_quiet (fail)
  go_wp2
  go_ret
  exact ⟨rfl, _, _, rfl⟩
def NQ (n : Int) (x : AV) : Prop := ∃ m : Int, x = iv m ∧ (n < 1 → m = 0) ∧ (1 ≤ n → 0 ≤ m ∧ m < n)
theorem N_pf (p : Nat) (src : Option Nat) (n : Int) (hn2 : n ≤ 4000000000000000000) : PFun Tryz.prog (some p) src 16 [sp p, iv n] (NQ n) := by
  intro w ok vs hok hinv hsz hrep
  have hv0 := hrep 0 (vs[0]'(by simp at hsz; omega)) (sp p) (Array.getElem?_eq_getElem _) rfl
  have hv1 := hrep 1 (vs[1]'(by simp at hsz; omega)) (iv n) (Array.getElem?_eq_getElem _) rfl
  have e0 := rep_sc hv0
  have e1 := rep_sc hv1
  have hvs : vs = #[.pointer (some ⟨p, 0, none⟩), .int .i64 n] := by
    apply Array.ext
    · simpa using hsz
    · intro i h1 h2
      match i with
      | 0 => simpa using e0
      | 1 => simpa using e1
      | i + 2 => simp at h2; omega
  subst hvs
  obtain ⟨cur, A, len, c, at_, ty, ⟨hb, hc0, hc1⟩, ha, hl, hsrc⟩ := hinv.2 p rfl
  have h0 : w.cell? ⟨p, 0, none⟩ = some (.slice A len c) := by rw [cell_of_row w p _ _ ty (0, 0) hb]; exact hc0
  have h1 : w.cell? ⟨p, 1, none⟩ = some (.int .i64 at_) := by rw [cell_of_row w p _ _ ty (0, 0) hb]; exact hc1
  have hf : w.frozen? ⟨p, 1, none⟩ = false := by simp [World.frozen?, hb]
  have quiet : ∀ {e : Ending} {w' : World}, (e = .returned (.int .i64 0) ∧ ∃ k, w' = w.drewN k) → (NQ n (iv 0)) → ∃ (v : Value) (x : AV), e = .returned v ∧ NQ n x ∧ Imm x ∧ RepI w' (fun b => ok b ∨ (w.heap.size ≤ b ∧ b < w'.heap.size)) v x ∧ w.grownBy w' (some p) ∧ Inv (some p) src ok w' := by
    rintro e w' ⟨rfl, k, rfl⟩ hq
    exact ⟨_, iv 0, rfl, hq, .sc, .sc, ⟨rfl, rfl, rfl, Nat.le_refl _, fun _ _ _ => rfl⟩, hinv⟩
  by_cases hge : (len : Int) ≤ at_
  · refine (N_out p A len c at_ n w h0 h1 hge).mono fun e w' h => quiet h ⟨0, rfl, fun _ => rfl, fun h => ⟨Int.le_refl _, by omega⟩⟩
  by_cases hn : n < 1
  · refine (N_low p A len c at_ n w h0 h1 (by omega) hn).mono fun e w' h => quiet h ⟨0, rfl, fun _ => rfl, fun h => ⟨Int.le_refl _, by omega⟩⟩
  obtain ⟨ad, x, rfl, hs, hp, hx, hxb⟩ := hsrc at_ (by omega)
  refine (N_in p ad len c at_ n x w h0 h1 hf hx hp hl (by omega) (by omega) hn2).mono ?_
  rintro e w' ⟨rfl, j, k, rfl⟩
  refine ⟨_, iv ((x.tmod n + n) % n), rfl, ⟨_, rfl, fun h => by omega, fun h => ⟨Int.emod_nonneg _ (by omega), Int.emod_lt_of_pos _ (by omega)⟩⟩, .sc, .sc, ⟨rfl, rfl, rfl, by simp [World.setCell, World.drewN], fun q hq hne => ?_⟩, ⟨hinv.1.1, fun g hg => ⟨(hinv.1.2 g hg).1, ?_⟩⟩, fun q hq => ?_⟩
  · have : p ≠ q := fun e => hne (by rw [e])
    simp [World.setCell, World.drewN, Array.getElem?_modify, this]
  · obtain ⟨t, v, hc⟩ := (hinv.1.2 g hg).2
    have : p ≠ g := fun e => (hok g (hinv.1.2 g hg).1).2 (by rw [e])
    exact ⟨t, v, (World.cell?_of_block (w := w) (by simp [World.setCell, World.drewN, Array.getElem?_modify, this])).trans hc⟩
  · cases hq
    have hlt : 1 < cur.size := (Array.getElem?_eq_some_iff.1 hc1).1
    refine ⟨cur.setIfInBounds 1 (.int .i64 (at_ + 1)), some ad, len, c, at_ + 1, ty, ⟨?_, ?_, ?_⟩, by omega, hl, fun i hi => ?_⟩
    · simp [World.setCell, World.drewN, Array.getElem?_modify, hb]
    · rw [Array.getElem?_setIfInBounds_ne (by omega)]; exact hc0
    · rw [Array.getElem?_setIfInBounds]; simp [hlt]
    · obtain ⟨ad', x', h1', h2', h3', h4', h5'⟩ := hsrc i hi
      cases h1'
      refine ⟨ad, x', rfl, hs, hp, ?_, h5'⟩
      have h : (⟨p, 1, none⟩ : Addr) ≠ ad.add i := fun e => hp (by rw [← block_add ad i, ← e])
      exact (World.cell?_setCell_other _ _ _ _ h).trans h4'
open Go.PA
open Go.RowKit
def intsL (xs : List Int) : AV := .list 1 (xs.map fun x => [iv x])
def Small (xs : List Int) : Prop := ∀ x, x ∈ xs → -9223372036854775808 ≤ x ∧ x ≤ 9223372036854775807
theorem new_pf (xs : List Int) (hl : xs.length ≤ 9223372036854775807) : POwn Tryz.prog none none 5 [intsL xs] 89 2 (· = [[intsL (xs.take 900), iv 0]]) := by
  refine pown_intro Tryz.func5 rfl (by simp [Tryz.f5]) (by kernel_rfl) ?_
  intro E hP hr hs hW hN
  simp [go_sem, hP, intsL, amin, aminFrom, asliceOp, bound, aslice]
  have c : 0 ≤ min (xs.length : Int) 900 ∧ min (xs.length : Int) 900 ≤ xs.length := ⟨by omega, by omega⟩
  have m : (min (xs.length : Int) 900).toNat = min 900 xs.length := by omega
  rw [if_pos c, m]
  simp [go_sem, hP, AOwn, Tryz.f5]
  intro e he a ha
  have := List.mem_of_mem_take he
  simp at this
  obtain ⟨x, _, rfl⟩ := this
  simp at ha
  subst ha
  exact .sc
theorem range_pf (p : Nat) (src : Option Nat) (lo hi : Int) (h1 : -1000000000000000000 ≤ lo ∧ lo ≤ 1000000000000000000) (h2 : -1000000000000000000 ≤ hi ∧ hi ≤ 1000000000000000000) :
    PFun Tryz.prog (some p) src 18 [sp p, iv lo, iv hi] (fun x => ∃ m : Int, x = iv m ∧ (lo ≤ hi → lo ≤ m ∧ m ≤ hi) ∧ (hi < lo → m = lo)) := by
  refine pfun_intro Tryz.func18 rfl (by simp [Tryz.f18]) (by kernel_rfl) ?_
  intro E hP hr hs hW hN
  have w1 := wrap_in (hi - lo) (by omega)
  have w2 := wrap_in (hi - lo + 1) (by omega)
  simp [go_sem, *]
  refine callB_flat (hr ▸ hs ▸ N_pf p src (hi - lo + 1) (by omega)) hP en_16 (by simp [go_sem]) ?_ ?_ ?_
  · by_cases h : hi - lo + 1 < 1
    · exact ⟨iv 0, 0, rfl, fun _ => rfl, fun h' => by omega⟩
    · exact ⟨iv 0, 0, rfl, fun _ => rfl, fun h' => by omega⟩
  · rintro r ⟨m, rfl, _⟩; exact .sc
  · rintro r ⟨m, rfl, a1, a2⟩
    have w3 := wrap_in (lo + m) (by omega)
    simp [go_sem, *, Tryz.f18]
    omega
theorem pick_pf (p : Nat) (src : Option Nat) (xs : List Int) (h : 1 ≤ xs.length ∧ xs.length ≤ 1000) :
    PFun Tryz.prog (some p) src 24 [sp p, intsL xs] (fun x => ∃ m : Int, x = iv m ∧ m ∈ xs) := by
  refine pfun_intro Tryz.func24 rfl (by simp [Tryz.f24]) (by kernel_rfl) ?_
  intro E hP hr hs hW hN
  simp [go_sem, hP, intsL]
  refine callB_flat (hr ▸ hs ▸ N_pf p src xs.length (by omega)) hP en_16 (by simp [go_sem]) ?_ ?_ ?_
  · exact ⟨iv 0, 0, rfl, fun _ => rfl, fun h' => by omega⟩
  · rintro r ⟨m, rfl, _⟩; exact .sc
  · rintro r ⟨m, rfl, a1, a2⟩
    obtain ⟨b1, b2⟩ := a2 (by omega)
    have b3 : m.toNat < xs.length := by omega
    simp [go_sem, *, Tryz.f24]
theorem NQ_ex (n : Int) : ∃ r, NQ n r := ⟨iv 0, 0, rfl, fun _ => rfl, fun h => by omega⟩
theorem NQ_flat (n : Int) : ∀ r, NQ n r → Flat r := by
  rintro r ⟨m, rfl, _⟩; exact .sc
end Go.Proofs.YtpjecipdklcjbaaGreatDoor
set_option maxRecDepth 100000
namespace Go.Proofs.YtpjecipdklcjbaaGreatDoor
open Go.RowKit Go.WideShapes Go.ChangeShapes
open Go.PA (RepI PFun AV Rep)
section
variable {H : Type} {enc : TypeId × Value → H} {P : Program}
theorem post_of_below {f : Func} {s : ChangeSpec} {apart fresh handsOn again : Bool} {W W' : World} {args : Array Value} {v : Value} {ds gs : List (DataW H)} {before pa pv : List MemPlace}
    (hW : DataW.Whole enc P f.params.toList s.vars apart W args.toList ds gs before)
    (hres : ∀ (b : Nat) (sp : Nat → Bool) (hd : Bool), DataW.TrodAll enc P W' b sp hd f.resultTypes.toList (v.resultList f.resultTypes.size) (s.fn H (ds ++ gs)).results [])
    (hargs : ∀ sp : Nat → Bool, (∀ p ∈ before, sp p.block = true) → DataW.TrodAll enc P W' 0 sp true f.params.toList args.toList (s.fn H (ds ++ gs)).args pa)
    (hvars : ∀ sp : Nat → Bool, (∀ p ∈ before, sp p.block = true) → DataW.TrodVars enc P W' sp s.vars (s.fn H (ds ++ gs)).vars pv)
    (hps : before = pa ++ pv) (hb : Below W.heap.size W W')
    (hok : ∀ (j : Nat) (t : TypeId) (r : Value), f.resultTypes[j]? = some t → (v.resultList f.resultTypes.size)[j]? = some r → Value.okWide P W' .any 0 t r) :
    s.post enc P f apart fresh handsOn again W args v W' := by
  have hlt : ∀ p ∈ before, p.block < W.heap.size := fun p hp => hW.lt p hp
  have hold : ∀ p ∈ before, (fun b => decide (b < W.heap.size)) p.block = true := fun p hp => by simpa using hlt p hp
  refine ⟨ds, gs, before, [], pa, pv, hW, hres _ _ _, hargs _ hold, hvars _ hold, World.keptBut_mono (fun p hp => ⟨hp, ?_⟩) (hb.frame (· ∈ before)), fun _ => ?_⟩
  · rw [hps, List.mem_append] at hp
    exact Or.inr hp
  · obtain ⟨_, _, _, _, _, hz, hn⟩ := hW
    refine ⟨hok, _, _, ([] ++ pa) ++ pv, ⟨[] ++ pa, pv, trodAll_append (hargs _ (fun _ _ => rfl)) (hres _ _ _), hvars _ (fun _ _ => rfl), rfl, ?_, ?_⟩, ?_⟩
    · intro b off hp
      have hin : MemPlace.cell b off ∈ before := by rw [hps]; simpa using hp
      rw [hb.frozen (hlt _ hin)]
      exact hz b off hin
    · intro ha
      have := hn ha
      rw [hps] at this
      simpa using this
    · intro p hp _
      rw [hps]
      simpa using hp
end
theorem Tryz.own : ownKnob Tryz.prog.godebug = none := by kernel_rfl
theorem Tryz.laidOut : laidOutB Tryz.prog = true := by kernel_rfl
end Go.Proofs.YtpjecipdklcjbaaGreatDoor
