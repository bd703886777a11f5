/- Several texts of this claim, joined: PaC Types Facts PlayAll Frame PaArg Args ArgsUse Acc1 AccLib. -/
import Derived.Test.YtmpncdlhmknkoaaGreatPk2
import Derived.Test.YtmpncdlhmknkoaaGreatProg
import Derived.KernelRfl
import Derived.WalkSpells
import Derived.WalkLawsBesides
import Derived.Deep.QuietTactic
import Derived.BigQuiet
import Derived.RegionTactic
import Derived.Lib.Hide
import Derived.Test.YtmpncdlhmknkoaaGreatRows
import Derived.ProofKit
import Derived.Below
import Derived.Carry
import Derived.ChangeSame
import Derived.ChangeMaps5
import Derived.ShutString
set_option linter.unusedSimpArgs false
set_option linter.unusedVariables false
namespace Go.PA
open Go.RowKit
def POwn (P : Program) (row src : Option Nat) (f : FuncId) (args : List AV) (ty : TypeId) (k : Nat) (Q : List (List AV) → Prop) : Prop :=
 ∀ (w : World) (ok : Nat → Prop) (vs : Array Value), (∀ b, ok b → b < w.heap.size ∧ some b ≠ row) → Inv row src ok w → vs.size = args.length → (∀ (i : Nat) (v : Value) (a : AV), vs[i]? = some v → args[i]? = some a → RepI w ok v a) →
  Calls P f vs w fun e w' => ∃ (b cap : Nat) (es : List (List AV)), e = .returned (.pointer (some ⟨b, 0, none⟩)) ∧ Q es ∧ w.heap.size ≤ b ∧ b < w'.heap.size ∧ (∀ e, e ∈ es → e.length = k) ∧
   CellsOk w' (fun _ => none) [] (fun x => (ok x ∨ (w.heap.size ≤ x ∧ x < w'.heap.size)) ∧ x ≠ b) ⟨ty, k, es⟩ b cap ∧ (∀ e, e ∈ es → ∀ a, a ∈ e → Imm a) ∧ w.grownBy w' row ∧ Inv row src ok w'
def AOwn (P : Program) (rs : List ResultVar) (ty : TypeId) (k : Nat) (Q : List (List AV) → Prop) : Exit → St → Prop
 | .normal, s | .ret, s => ∃ id es, ares P s rs = some (.ref id 0 0) ∧ s.H[id]? = some (some ⟨ty, k, es⟩) ∧ (∀ e, e ∈ es → ∀ a, a ∈ e → Imm a) ∧ Q es
 | _, _ => False
theorem pown_intro {P : Program} {row src : Option Nat} {f : FuncId} {args : List AV} {ty : TypeId} {k : Nat} {Q : List (List AV) → Prop} {fn : Func} {body : Code}
  (hf : P.funcs[f]? = some fn) (hb : fn.body = some body) (hn : args.length ≤ fn.ntmps) (hc : codeOk fn.ntmps body = true)
  (h : ∀ E : Env, E.P = P → E.row = row → E.src = src → (∀ b, ¬ E.W b) → E.N = fn.ntmps → awp E body ⟨initT args, []⟩ (AOwn P fn.results.toList ty k Q)) : POwn P row src f args ty k Q := by
 intro w ok vs h1 h2 h3 h4
 let E : Env := { P := P, w0 := w, okA := ok, row := row, src := src, N := fn.ntmps, W := fun _ => False, ρ0 := fun _ => none, H0 := [] }
 have g : Good E w (fun _ => none) [] ok := ⟨rfl, rfl, rfl, Nat.le_refl _, fun _ _ _ _ => rfl, h2, fun b hb => ⟨(h1 b hb).1, (h1 b hb).2, .inl hb⟩, by simp, by simp, by simp, by simp⟩
 have r : Rel E ⟨initT args, []⟩ { tmps := vs ++ Array.replicate (fn.ntmps - vs.size) undef, defers := [] } w := by
  refine ⟨fun _ => none, ok, g, Ext.refl _ _ _ _, rfl, by simp [E]; omega, fun i => ?_⟩
  simp only [initT]
  rcases Nat.lt_or_ge i args.length with hlt | hge
  ·have e1 : args.getD i (.sc undef) = args[i] := by simp [List.getD, List.getElem?_eq_getElem hlt]
   have hv : vs[i]? = some (vs[i]'(by omega)) := Array.getElem?_eq_getElem (by omega)
   have e2 : (vs ++ Array.replicate (fn.ntmps - vs.size) undef).getD i undef = vs[i]'(by omega) := by
    rw [Array.getD_eq_getD_getElem?, Array.getElem?_append_left (by omega), hv]
    rfl
   rw [e1, e2]
   exact h4 i _ _ hv (List.getElem?_eq_getElem hlt)
  ·have e1 : args.getD i (.sc undef) = .sc undef := by simp [List.getD, List.getElem?_eq_none hge]
   have e2 : (vs ++ Array.replicate (fn.ntmps - vs.size) undef).getD i undef = undef := by
    rw [Array.getD_eq_getD_getElem?, Array.getElem?_append_right (by omega), Array.getElem?_replicate]
    split <;> rfl
   rw [e1, e2]
   exact .sc
 have hw := awp_sound (E := E) body _ _ hc (h E rfl rfl rfl (fun _ h => h) rfl) _ _ r
 refine calls_of_wp hf hb (wp_mono hw fun e a' w' h' => ?_)
 obtain ⟨s', hq, ρ, ok', g', _, hd, _, hr⟩ := h'
 have fin : (∃ id es, ares P s' fn.results.toList = some (.ref id 0 0) ∧ s'.H[id]? = some (some ⟨ty, k, es⟩) ∧ (∀ e, e ∈ es → ∀ a, a ∈ e → Imm a) ∧ Q es) → a'.defers = [] ∧ ∃ v, (results fn a'.tmps).run P w' = .ok v w' ∧
   ∃ (b cap : Nat) (es : List (List AV)), Ending.returned v = .returned (.pointer (some ⟨b, 0, none⟩)) ∧ Q es ∧ w.heap.size ≤ b ∧ b < w'.heap.size ∧ (∀ e, e ∈ es → e.length = k) ∧
   CellsOk w' (fun _ => none) [] (fun x => (ok x ∨ (w.heap.size ≤ x ∧ x < w'.heap.size)) ∧ x ≠ b) ⟨ty, k, es⟩ b cap ∧ (∀ e, e ∈ es → ∀ a, a ∈ e → Imm a) ∧ w.grownBy w' row ∧ Inv row src ok w' := by
  rintro ⟨id, es, hres, ho, hi, hq⟩
  obtain ⟨v, hrun, hrep⟩ := ares_sound (E := E) g' hr hres
  refine ⟨hd, v, hrun, ?_⟩
  cases hrep with
  | refDead hd' _ => rw [ho] at hd'; cases hd'
  | @ref _ _ _ o b cap ho' hρ hcap =>
   rw [ho] at ho'
   simp only [Option.some.injEq] at ho'
   subst ho'
   have hobj := g'.obj id _ ho
   rw [hρ] at hobj
   obtain ⟨a1, a2, a3⟩ := g'.own id _ b cap ho hρ
   have hb1 : w.heap.size ≤ b := a3.resolve_left (fun h => h)
   refine ⟨b, cap, es, by simp, hq, hb1, hobj.lt, g'.len id _ ho, ?_, hi, ⟨g'.os, g'.tape, g'.output, g'.size, fun k hk hne => g'.blk k hk (fun h => h) hne⟩, h2.1, fun p hp => g'.inv.2 p hp⟩
   obtain ⟨cur, c1, c2, c3, c4, c5⟩ := hobj.cells hcap
   refine ⟨cur, c1, c2, c3, c4, fun i e j a he ha => ?_⟩
   obtain ⟨c, d1, d2, d3⟩ := c5 i e j a he ha
   refine ⟨c, d1, d2, d3.imm (fun x hx => ⟨?_, fun e => a1 (e ▸ hx)⟩) (hi e (List.mem_of_getElem? he) a (List.mem_of_getElem? ha))⟩
   obtain ⟨x1, _, x3⟩ := g'.oks x hx
   exact x3.imp (fun h => h) fun h => ⟨h, x1⟩
 cases e with
 | normal => exact fin hq
 | ret => exact fin hq
 | _ => exact hq.elim
section
variable {E : Env}
theorem callB_own {P : Program} {f : FuncId} {args : List AV} {args' : List AV} {H : Heap} {ty : TypeId} {k : Nat} {Q : List (List AV) → Prop} {C : AV → Heap → Prop} {b : Bx C} (h : POwn P E.row E.src f args' ty k Q) (hP : E.P = P) (hen : enterable P f = true) (ha : Args H args args') (hn : ∀ a, a ∈ args → srefs a = [])
  (hex : ∃ es, Q es) (hC : ∀ es, Q es → C (.ref H.length 0 0) (H ++ [some ⟨ty, k, es⟩])) : CallB E f args H C b := by
 subst hP
 obtain ⟨es0, hq0⟩ := hex
 refine .inl ⟨hen, ⟨_, _, hC es0 hq0⟩, fun w ρ ok vs g hs hr => ?_⟩
 have hr' : ∀ (i : Nat) (v : Value) (a : AV), vs[i]? = some v → args'[i]? = some a → RepI w ok v a := fun i v a' hv ha' => by
  obtain ⟨a, h1, h2, h3⟩ := ha.get i a' ha'
  refine ((view_soundX (fun _ => False) g (hr i v a hv h1) h3 (fun id hid => ?_)).weak h2).ext ⟨by simp, by simp, ?_, fun _ _ => rfl⟩
  ·rw [hn a (List.mem_of_getElem? h1)] at hid; cases hid
  ·rintro b (hb | ⟨_, _, _, hf, _⟩)
   ·exact hb
   ·exact hf.elim
 refine (h w ok vs (fun b hb => ⟨(g.oks b hb).1, (g.oks b hb).2.1⟩) g.inv (hs.trans ha.len) hr').mono ?_
 rintro e w' ⟨b, cap, es, rfl, hq, hb1, hb2, hlen, hobj, hi, hg, hinv⟩
 obtain ⟨g1, x1⟩ := g.call (ok' := fun x => (ok x ∨ (w.heap.size ≤ x ∧ x < w'.heap.size)) ∧ x ≠ b) hg hinv (fun x hx => ⟨.inl hx, fun e => by have := (g.oks x hx).1; omega⟩) (fun x hx => hx.1)
 have hcm : cap ≤ maxLen := hobj.choose_spec.2.2.2.1
 have hobj' : ObjOk w' ρ H (fun x => (ok x ∨ (w.heap.size ≤ x ∧ x < w'.heap.size)) ∧ x ≠ b) ⟨ty, k, es⟩ (some (b, cap)) := by
  obtain ⟨cur, c1, c2, c3, c4, c5⟩ := hobj
  refine .inl ⟨cur, c1, c2, c3, c4, fun i e j a he ha => ?_⟩
  obtain ⟨c, d1, d2, d3⟩ := c5 i e j a he ha
  exact ⟨c, d1, d2, d3.imm (fun x hx => hx) (hi e (List.mem_of_getElem? he) a (List.mem_of_getElem? ha))⟩
 obtain ⟨g2, x2⟩ := g1.add ⟨ty, k, es⟩ (some (b, cap)) hobj' hlen (fun b' c' h' => by
  simp only [Option.some.injEq, Prod.mk.injEq] at h'
  obtain ⟨rfl, rfl⟩ := h'
  refine ⟨fun hx => hx.2 rfl, fun id o c ho hρ => ?_, fun hrow => ?_, .inr (Nat.le_trans g.size hb1)⟩
  ·have := g.obj id o ho
   rw [hρ] at this
   have := this.lt
   omega
  ·have := g.row_lt hrow.symm
   omega)
 refine ⟨_, .ref H.length 0 0, H ++ [some ⟨ty, k, es⟩], _, _, rfl, hC es hq, g2, x1.trans x2, ?_⟩
 have := Rep.ref (w := w') (ρ := updP ρ H.length (some (b, cap))) (H := H ++ [some ⟨ty, k, es⟩]) (ok := fun x => (ok x ∨ (w.heap.size ≤ x ∧ x < w'.heap.size)) ∧ x ≠ b) (id := H.length) (i := 0) (j := 0) (o := ⟨ty, k, es⟩) (b := b) (cap := cap) push_new (by simp [updP]) hcm
 simpa using this
theorem rep_int_list_cell {w : World} {ρ : Places} {H : Heap} {ok : Nat → Prop} {xs : List Int} {v : Value} (r : Rep w ρ H ok v (.list 1 (xs.map fun x => [.sc (.int .i64 x)]))) :
  ∃ A c, v = .slice A xs.length c ∧ ∀ i, i < xs.length → ∃ ad, A = some ad ∧ ok ad.block ∧ ∃ x, x ∈ xs ∧ w.cell? (ad.add i) = some (.int .i64 x) := by
 generalize hes : xs.map (fun x => [AV.sc (.int .i64 x)]) = es at r
 cases r with
 | listNil => simp at hes; subst hes; exact ⟨_, _, rfl, by simp⟩
 | @list ad n c _ _ f hn hnc hok hk hc h1 hr =>
  subst hes
  refine ⟨some ad, c, by simp at hn; rw [hn], fun i hi => ⟨ad, rfl, hok, xs[i], List.getElem_mem hi, ?_⟩⟩
  have he : (xs.map (fun x => [AV.sc (.int .i64 x)]))[i]? = some [.sc (.int .i64 xs[i])] := by simp [List.getElem?_map, List.getElem?_eq_getElem hi]
  have := hr i _ 0 _ he rfl
  have e := rep_sc this
  have h2 := hc i _ 0 _ he rfl
  rw [e] at h2
  simpa using h2
theorem awp_adoptW {c : Code} {s : St} {Q : Exit → St → Prop} (j id0 : Nat) {ty : TypeId} {xs : List Int} {at_ : Nat} (hrow : E.row = none) (hsrc : E.src = none) (ht : s.t j = .ref id0 0 0) (h0 : s.H[id0]? = some (some ⟨ty, 2, [[.list 1 (xs.map fun x => [.sc (.int .i64 x)]), .sc (.int .i64 at_)]]⟩))
  (hat : at_ ≤ xs.length) (hl : xs.length ≤ 900) (hx : ∀ x, x ∈ xs → -9223372036854775808 ≤ x ∧ x ≤ 9223372036854775807)
  (h : ∀ (E' : Env) (p : Nat), E'.P = E.P → E'.row = some p → E'.N = E.N → (∀ b', E'.W b' → ∃ (id : Nat) (o : AObj), (s.H.set id0 none)[id]? = some (some o)) → AWp E' c ⟨upd s.t j (.sc (.pointer (some ⟨p, 0, none⟩))), s.H.set id0 none⟩ Q) : AWp E c s Q := by
 rintro a w ⟨ρ, ok, g, hx0, hd, hs, hr⟩
 have hv := hr j
 rw [ht] at hv
 obtain ⟨o, b, cap, ho, hρ, hcap, hve⟩ : ∃ o b cap, s.H[id0]? = some (some o) ∧ ρ id0 = some (b, cap) ∧ cap ≤ maxLen ∧ a.tmps.getD j undef = .pointer (some ⟨b, 0 * o.k + 0, none⟩) := by
  generalize hgen : a.tmps.getD j undef = v at hv
  cases hv with
  | ref ho hρ hcap => exact ⟨_, _, _, ho, hρ, hcap, rfl⟩
  | refDead hd _ => rw [h0] at hd; cases hd
 rw [h0] at ho
 simp only [Option.some.injEq] at ho
 subst ho
 have hobj := g.obj id0 _ h0
 rw [hρ] at hobj
 obtain ⟨hb1, _, hb3⟩ := g.own id0 _ b cap h0 hρ
 have hblt := hobj.lt
 obtain ⟨cur, c1, c2, c3, c4, c5⟩ := hobj.cells hcap
 obtain ⟨v0, d1, d2, d3⟩ := c5 0 _ 0 _ rfl rfl
 obtain ⟨v1, e1, e2, e3⟩ := c5 0 _ 1 _ rfl rfl
 obtain ⟨A, c', rfl, hA⟩ := rep_int_list_cell d3
 have e3 := rep_sc e3
 subst e3
 have hlt0 : id0 < s.H.length := (gsI h0)
 have old : ∀ (id : Nat) (o : AObj), (s.H.set id0 none)[id]? = some (some o) → ¬ id0 = id ∧ s.H[id]? = some (some o) := fun id o ho => by
  rw [List.getElem?_set] at ho
  split at ho
  ·rename_i he
   first | (cases ho; done) | (split at ho <;> cases ho)
  ·rename_i he
   exact ⟨he, ho⟩
 let src : Option Nat := if 0 < xs.length then A.map (·.block) else none
 let E' : Env := { P := E.P, w0 := w, okA := ok, row := some b, src := src, N := E.N, W := fun b' => ∃ id o c, (s.H.set id0 none)[id]? = some (some o) ∧ ρ id = some (b', c), ρ0 := ρ, H0 := s.H.set id0 none }
 have hsok : ∀ b', src = some b' → ok b' := fun b' hb' => by
  simp only [src] at hb'
  split at hb'
  ·rename_i h0
   obtain ⟨ad, rfl, hk, _⟩ := hA 0 h0
   simp at hb'
   exact hb' ▸ hk
  ·cases hb'
 have hS : SrcOk src w b := by
  refine ⟨cur, A, xs.length, c', at_, ty, ⟨c1, by simpa using d1, by simpa using e1⟩, hat, hl, fun i hi => ?_⟩
  obtain ⟨ad, rfl, hk, x, hxm, hc⟩ := hA i hi
  refine ⟨ad, x, rfl, ?_, fun e => hb1 (e ▸ hk), hc, hx x hxm⟩
  simp only [src]
  rw [if_pos (by omega)]
  rfl
 have hext : Ext w ρ s.H ok w ρ (s.H.set id0 none) ok := by
  refine ⟨fun id o ho => ?_, fun id ho => ?_, fun _ h => h, fun _ _ => rfl⟩
  ·by_cases he : id0 = id
   ·subst he
    exact .inl (List.getElem?_set_self hlt0)
   ·exact .inr ⟨o, by rw [List.getElem?_set_ne he]; exact ho, rfl, rfl, Nat.le_refl _⟩
  ·by_cases he : id0 = id
   ·subst he
    exact List.getElem?_set_self hlt0
   ·rw [List.getElem?_set_ne he]; exact ho
 have gE : Good E' w ρ (s.H.set id0 none) ok := by
  refine ⟨rfl, rfl, rfl, Nat.le_refl _, fun _ _ _ _ => rfl, ⟨hsok, fun p hp => ?_⟩, fun b' hb' => ⟨(g.oks b' hb').1, fun e => ?_, .inl hb'⟩, fun id o b' c ho hρ' => ?_, fun id o b' c id' o' c' ho hρ1 ho' hρ2 => ?_, fun id o ho => g.len id o (old id o ho).2, fun id o ho => ?_⟩
  ·cases hp; exact hS
  ·simp only [E', Option.some.injEq] at e
   subst e
   exact hb1 hb'
  ·obtain ⟨hne, ho1⟩ := old id o ho
   refine ⟨(g.own id o b' c ho1 hρ').1, fun e => ?_, .inl ⟨id, o, c, ho, hρ'⟩⟩
   simp only [E', Option.some.injEq] at e
   subst e
   exact hne (g.inj id0 _ b' cap id o c h0 hρ ho1 hρ')
  ·exact g.inj id o b' c id' o' c' (old id o ho).2 hρ1 (old id' o' ho').2 hρ2
  ·exact (g.obj id o (old id o ho).2).ext hext (fun _ _ _ => rfl)
 have rE : Rel E' ⟨upd s.t j (.sc (.pointer (some ⟨b, 0, none⟩))), s.H.set id0 none⟩ a w := by
  refine ⟨ρ, ok, gE, Ext.refl _ _ _ _, hd, hs, fun i => ?_⟩
  simp only [upd]
  split
  ·rename_i hi
   subst hi
   rw [hve]
   simp only [Nat.zero_mul, Nat.zero_add]
   exact .sc
  ·exact (hr i).ext hext
 have wold : ∀ b', E'.W b' → E.W b' ∨ E.w0.heap.size ≤ b' := fun b' ⟨id, o, c, ho, hρ'⟩ => (g.own id o b' c (old id o ho).2 hρ').2.2
 refine wp_mono (h E' b rfl rfl rfl (fun _ hb' => hb'.imp fun _ h1 => h1.imp fun _ h2 => h2.choose_spec.1) a w rE) fun e a' w' h' => ?_
 obtain ⟨s', hq, ρ', ok', g', hx', hd', hs', hr'⟩ := h'
 refine ⟨s', hq, ρ', ok', ⟨g'.os.trans g.os, g'.tape.trans g.tape, g'.output.trans g.output, Nat.le_trans g.size g'.size, fun b' hb' hW' hr' => ?_, ⟨fun b' hb' => (by rw [hsrc] at hb'; cases hb'), fun p hp => (by rw [hrow] at hp; cases hp)⟩, fun b' hb' => ?_, fun id o b' c ho hρ => ?_, g'.inj, g'.len, g'.obj⟩, (hx0.trans hext).trans hx', hd', hs', hr'⟩
 ·refine (g'.blk b' (Nat.lt_of_lt_of_le hb' g.size) (fun h => ?_) (fun e => ?_)).trans (g.blk b' hb' hW' hr')
  ·rcases wold b' h with h | h
   ·exact hW' h
   ·omega
  ·simp only [E', Option.some.injEq] at e
   subst e
   rcases hb3 with h | h
   ·exact hW' h
   ·omega
 ·obtain ⟨x1, x2, x3⟩ := g'.oks b' hb'
  refine ⟨x1, by rw [hrow]; simp, ?_⟩
  rcases x3 with x3 | x3
  ·exact (g.oks b' x3).2.2
  ·exact .inr (Nat.le_trans g.size x3)
 ·obtain ⟨x1, x2, x3⟩ := g'.own id o b' c ho hρ
  refine ⟨x1, by rw [hrow]; simp, ?_⟩
  rcases x3 with x3 | x3
  ·exact wold b' x3
  ·exact .inr (Nat.le_trans g.size x3)
theorem awp_cut {a b : Code} {s : St} {Q : Exit → St → Prop} (hc : codeOk E.N a = true) (h : awp E a s (Athen (fun s' => AWp E b s' Q) Q)) : AWp E (.seq a b) s Q := by
 intro x w r
 refine wp_seq (wp_mono (awp_sound a s _ hc h x w r) fun e a' w' h' => ?_)
 obtain ⟨s', h1, h2⟩ := h'
 cases e with
 | normal => exact h1 a' w' h2
 | _ => exact ⟨s', h1, h2⟩
end
theorem pfun_introA {P : Program} {row src : Option Nat} {f : FuncId} {args : List AV} {Q : AV → Prop} {fn : Func} {body : Code}
  (hf : P.funcs[f]? = some fn) (hb : fn.body = some body) (hn : args.length ≤ fn.ntmps)
  (h : ∀ E : Env, E.P = P → E.row = row → E.src = src → (∀ b, ¬ E.W b) → E.N = fn.ntmps → AWp E body ⟨initT args, []⟩ (ARet P fn.results.toList Q)) : PFun P row src f args Q := by
 have key : ∀ E : Env, E.P = P → E.row = row → E.src = src → (∀ b, ¬ E.W b) → E.N = fn.ntmps → AWp E body ⟨initT args, []⟩ (ARet P fn.results.toList Q) := h
 exact pfun_of_AWp hf hb hn key
open Go.RowKit
def AM (P : Program) (rs : List ResultVar) (C : AV → Heap → Prop) : Exit → St → Prop
 | .normal, s | .ret, s => match ares P s rs with
  | some r => C r s.H
  | none => False
 | _, _ => False
def MFun (P : Program) (row src : Option Nat) (f : FuncId) (args : List AV) (H : Heap) (C : AV → Heap → Prop) : Prop :=
 ∀ E : Env, E.P = P → E.row = row → E.src = src → ACall E f args H C
theorem MFun.mono {P : Program} {row src : Option Nat} {f : FuncId} {args : List AV} {H : Heap} {C D : AV → Heap → Prop} (h : MFun P row src f args H C) (hd : ∀ x H', C x H' → D x H') : MFun P row src f args H D :=
 fun E h1 h2 h3 => (h E h1 h2 h3).mono hd
theorem mfun_of_AWp {P : Program} {row src : Option Nat} {f : FuncId} {args : List AV} {H : Heap} {C : AV → Heap → Prop} {fn : Func} {body : Code}
  (hf : P.funcs[f]? = some fn) (hb : fn.body = some body) (hn : args.length ≤ fn.ntmps) (hex : ∃ x H', C x H')
  (h : ∀ E : Env, E.P = P → E.row = row → E.src = src → E.N = fn.ntmps → AWp E body ⟨initT args, H⟩ (AM P fn.results.toList C)) : MFun P row src f args H C := by
 intro E hP hrow hsrc
 refine ⟨hex, fun w ρ ok vs g hsz hrep => ?_⟩
 subst hP; subst hrow; subst hsrc
 let E' : Env := { P := E.P, w0 := w, okA := ok, row := E.row, src := E.src, N := fn.ntmps, W := fun b => ∃ id o c, H[id]? = some (some o) ∧ ρ id = some (b, c), ρ0 := ρ, H0 := H }
 have gE : Good E' w ρ H ok := ⟨rfl, rfl, rfl, Nat.le_refl _, fun _ _ _ _ => rfl, g.inv, fun b hb => ⟨(g.oks b hb).1, (g.oks b hb).2.1, .inl hb⟩, fun id o b c ho hρ => ⟨(g.own id o b c ho hρ).1, (g.own id o b c ho hρ).2.1, .inl ⟨id, o, c, ho, hρ⟩⟩, g.inj, g.len, g.obj⟩
 have r : Rel E' ⟨initT args, H⟩ { tmps := vs ++ Array.replicate (fn.ntmps - vs.size) undef, defers := [] } w := by
  refine ⟨ρ, ok, gE, Ext.refl _ _ _ _, rfl, by simp [E']; omega, fun i => ?_⟩
  simp only [initT]
  rcases Nat.lt_or_ge i args.length with hlt | hge
  ·have e1 : args.getD i (.sc undef) = args[i] := by simp [List.getD, List.getElem?_eq_getElem hlt]
   have hv : vs[i]? = some (vs[i]'(by omega)) := Array.getElem?_eq_getElem (by omega)
   have e2 : (vs ++ Array.replicate (fn.ntmps - vs.size) undef).getD i undef = vs[i]'(by omega) := by
    rw [Array.getD_eq_getD_getElem?, Array.getElem?_append_left (by omega), hv]
    rfl
   rw [e1, e2]
   exact hrep i _ _ hv (List.getElem?_eq_getElem hlt)
  ·have e1 : args.getD i (.sc undef) = .sc undef := by simp [List.getD, List.getElem?_eq_none hge]
   have e2 : (vs ++ Array.replicate (fn.ntmps - vs.size) undef).getD i undef = undef := by
    rw [Array.getD_eq_getD_getElem?, Array.getElem?_append_right (by omega), Array.getElem?_replicate]
    split <;> rfl
   rw [e1, e2]
   exact .sc
 refine calls_of_wp hf hb (wp_mono (h E' rfl rfl rfl rfl _ _ r) fun e a' w' h' => ?_)
 obtain ⟨s', hq, ρ', ok', g', hx', hd, _, hr⟩ := h'
 have gF : Good E w' ρ' s'.H ok' := by
  have hnW : ∀ b, b < E.w0.heap.size → ¬ E.W b → ¬ E'.W b := fun b hb hW ⟨id, o, c, ho, hρ⟩ => by
   rcases (g.own id o b c ho hρ).2.2 with h | h
   ·exact hW h
   ·omega
  refine ⟨g'.os.trans g.os, g'.tape.trans g.tape, g'.output.trans g.output, Nat.le_trans g.size g'.size, fun b hb hW hr' => (g'.blk b (Nat.lt_of_lt_of_le hb g.size) (hnW b hb hW) hr').trans (g.blk b hb hW hr'), g'.inv, fun b hb => ?_, fun id o b c ho hρ => ?_, g'.inj, g'.len, g'.obj⟩
  ·obtain ⟨x1, x2, x3⟩ := g'.oks b hb
   refine ⟨x1, x2, ?_⟩
   rcases x3 with x3 | x3
   ·exact (g.oks b x3).2.2
   ·exact .inr (Nat.le_trans g.size x3)
  ·obtain ⟨x1, x2, x3⟩ := g'.own id o b c ho hρ
   refine ⟨x1, x2, ?_⟩
   rcases x3 with ⟨id', o', c', ho', hρ'⟩ | x3
   ·exact (g.own id' o' b c' ho' hρ').2.2
   ·exact .inr (Nat.le_trans g.size x3)
 have fin : ∀ {r : AV}, ares E.P s' fn.results.toList = some r → C r s'.H → a'.defers = [] ∧ ∃ v, (results fn a'.tmps).run E.P w' = .ok v w' ∧
   ∃ (v' : Value) (x : AV) (H' : Heap) (ρ' : Places) (ok' : Nat → Prop), Ending.returned v = .returned v' ∧ C x H' ∧ Good E w' ρ' H' ok' ∧ Ext w ρ H ok w' ρ' H' ok' ∧ Rep w' ρ' H' ok' v' x := by
  intro r hres hc
  obtain ⟨v, hrun, hrep'⟩ := ares_sound (E := E) gF hr hres
  exact ⟨hd, v, hrun, v, r, s'.H, ρ', ok', rfl, hc, gF, hx', hrep'⟩
 cases e with
 | normal =>
  simp only [AM] at hq
  split at hq
  ·rename_i r hres; exact fin hres hq
  ·exact hq.elim
 | ret =>
  simp only [AM] at hq
  split at hq
  ·rename_i r hres; exact fin hres hq
  ·exact hq.elim
 | _ => exact hq.elim
theorem mfun_intro {P : Program} {row src : Option Nat} {f : FuncId} {args : List AV} {H : Heap} {C : AV → Heap → Prop} {fn : Func} {body : Code}
  (hf : P.funcs[f]? = some fn) (hb : fn.body = some body) (hn : args.length ≤ fn.ntmps) (hc : codeOk fn.ntmps body = true) (hex : ∃ x H', C x H')
  (h : ∀ E : Env, E.P = P → E.row = row → E.src = src → E.N = fn.ntmps → awp E body ⟨initT args, H⟩ (AM P fn.results.toList C)) : MFun P row src f args H C :=
 mfun_of_AWp hf hb hn hex fun E h1 h2 h3 h5 => awp_sound body _ _ (h5 ▸ hc) (h E h1 h2 h3 h5)
theorem am_ret {P : Program} {rs : List ResultVar} {C : AV → Heap → Prop} {s : St} : AM P rs C .ret s = OB (ares P s rs) (fun r => C r s.H) .mk := by
 simp only [AM]
 cases ares P s rs <;> rfl
theorem am_normal {P : Program} {rs : List ResultVar} {C : AV → Heap → Prop} {s : St} : AM P rs C .normal s = OB (ares P s rs) (fun r => C r s.H) .mk := by
 simp only [AM]
 cases ares P s rs <;> rfl
attribute [go_sem ↓] am_ret am_normal
theorem callB_m {E : Env} {f : FuncId} {args : List AV} {H : Heap} {C C' : AV → Heap → Prop} {b : Bx C} {P : Program} (h : MFun P E.row E.src f args H C') (hP : E.P = P) (hen : enterable P f = true) (hC : ∀ r H', C' r H' → C r H') : CallB E f args H C b :=
 .inl ⟨hP ▸ hen, (h E hP rfl rfl).mono hC⟩
def Kept (X : List Nat) (H H' : Heap) : Prop := ∀ j o, j ∉ X → H[j]? = some (some o) → H'[j]? = some (some o)
theorem kept_refl (X : List Nat) (H : Heap) : Kept X H H := fun _ _ _ h => h
theorem Kept.trans {X : List Nat} {H H' H'' : Heap} (h : Kept X H H') (k : Kept X H' H'') : Kept X H H'' := fun j o hj ho => k j o hj (h j o hj ho)
theorem kept_push {X : List Nat} {H H' : Heap} (x : Option AObj) (h : Kept X H H') : Kept X H (H' ++ [x]) := fun j o hj ho => by
 have := h j o hj ho
 rw [List.getElem?_append_left (gsI this)]
 exact this
theorem kept_app (X : List Nat) (H l : Heap) : Kept X H (H ++ l) := fun j o _ ho => by
 rw [List.getElem?_append_left (gsI ho)]
 exact ho
theorem kept_set {X : List Nat} {H H' : Heap} {i : Nat} (x : Option AObj) (hi : i ∈ X) (h : Kept X H H') : Kept X H (H'.set i x) := fun j o hj ho => by
 rw [List.getElem?_set_ne (by rintro rfl; exact hj hi)]
 exact h j o hj ho
theorem kept_new {X : List Nat} {H H' : Heap} {i : Nat} (x : Option AObj) (hi : H.length ≤ i) (h : Kept X H H') : Kept X H (H'.set i x) := fun j o hj ho => by
 have := (gsI ho)
 rw [List.getElem?_set_ne (by omega)]
 exact h j o hj ho
theorem Kept.mono {X Y : List Nat} {H H' : Heap} (h : Kept X H H') (hs : ∀ x, x ∈ X → x ∈ Y) : Kept Y H H' := fun j o hj ho => h j o (fun hx => hj (hs _ hx)) ho
theorem mfun_list_nil {P : Program} {row src : Option Nat} {f : FuncId} {args : List AV} {k : Nat} {H : Heap} {C : AV → Heap → Prop} (h : ∀ A c, MFun P row src f (.sc (.slice A 0 c) :: args) H C) : MFun P row src f (.list k [] :: args) H C := by
 intro E hP hrow hsrc
 refine ⟨(h none 0 E hP hrow hsrc).1, fun w ρ ok vs g hs hr => ?_⟩
 have h0 : 0 < vs.size := by rw [hs]; simp
 have hv := hr 0 vs[0] (.list k []) (Array.getElem?_eq_getElem h0) rfl
 have key : ∃ A c, vs[0] = .slice A 0 c := by
  generalize vs[0] = v at hv
  cases hv with
  | listNil => exact ⟨_, _, rfl⟩
  | list f hn _ _ _ _ _ _ => subst hn; exact ⟨_, _, rfl⟩
 obtain ⟨A, c, hA⟩ := key
 refine (h A c E hP hrow hsrc).2 w ρ ok vs g hs fun i v a hv ha => ?_
 match i, hv, ha with
 | 0, hv, ha =>
  rw [Array.getElem?_eq_getElem h0, hA] at hv
  simp at hv ha
  subst hv; subst ha
  exact .sc
 | i + 1, hv, ha => exact hr (i + 1) v a hv ha
theorem MFun.ownNil {P : Program} {row src : Option Nat} {f : FuncId} {args : List AV} {H : Heap} {C : AV → Heap → Prop} (ty : TypeId) (k : Nat) (h : MFun P row src f args H C) :
  MFun P row src f args H (fun r H' => (∃ H0, C .nil H0 ∧ r = .sref H0.length 0 0 ∧ H' = H0 ++ [some ⟨ty, k, []⟩]) ∨ (r ≠ .nil ∧ C r H')) := by
 intro E hP hrow hsrc
 obtain ⟨⟨x0, H0, h0⟩, hw⟩ := h E hP hrow hsrc
 refine ⟨?_, fun w ρ ok vs g hs hr => (hw w ρ ok vs g hs hr).mono ?_⟩
 ·by_cases hx : x0 = .nil
  ·subst hx; exact ⟨_, _, .inl ⟨H0, h0, rfl, rfl⟩⟩
  ·exact ⟨_, _, .inr ⟨hx, h0⟩⟩
 ·rintro e w' ⟨v, x, H', ρ', ok', rfl, hc, g', x', r'⟩
  by_cases hx : x = .nil
  ·subst hx
   obtain ⟨g2, x2⟩ := g'.add ⟨ty, k, []⟩ none rfl (by simp) (by simp)
   refine ⟨v, _, _, _, _, rfl, .inl ⟨H', hc, rfl, rfl⟩, g2, x'.trans x2, ?_⟩
   cases r'
   exact .srefNil push_new (by simp [updP])
  ·exact ⟨v, x, H', ρ', ok', rfl, .inr ⟨hx, hc⟩, g', x', r'⟩
def SlIs (H : Heap) (x : AV) (k : Nat) (es : List (List AV)) : Prop := x = .list k es ∨ (x = .nil ∧ es = []) ∨ ∃ id ty, x = .sref id 0 es.length ∧ H[id]? = some (some ⟨ty, k, es⟩)
theorem SlIs.kept {H H' : Heap} {x : AV} {k : Nat} {es : List (List AV)} (h : SlIs H x k es) (hk : Kept [] H H') : SlIs H' x k es := by
 rcases h with h | h | ⟨id, ty, h1, h2⟩
 ·exact .inl h
 ·exact .inr (.inl h)
 ·exact .inr (.inr ⟨id, ty, h1, hk id _ (by simp) h2⟩)
theorem SlIs.len {H : Heap} {x : AV} {k : Nat} {es : List (List AV)} (h : SlIs H x k es) : alen H x = some (es.length : Int) := by
 rcases h with h | ⟨rfl, rfl⟩ | ⟨id, ty, rfl, h2⟩
 ·subst h; rfl
 ·rfl
 ·simp only [alen, h2]
theorem SlIs.idx {P : Program} {t e : TypeId} {H : Heap} {x : AV} {k : Nat} {es : List (List AV)} (h : SlIs H x k es) (ht : Go.PA.elemOf P t = some e) (hk : k = szOf P e) (hn : knownT P e = true) (i : Nat) (hi : i < es.length) :
  ∃ a, aindexAddr P t H x i = some a ∧ addrCells H a = some es[i] := by
 rcases h with h | ⟨rfl, rfl⟩ | ⟨id, ty, rfl, h2⟩
 ·subst h
  refine ⟨.iref es[i], ?_, rfl⟩
  rw [aix_list ht]
  simp [hk, hn, hi]
 ·simp at hi
 ·refine ⟨.ref id i 0, ?_, ?_⟩
  ·rw [aix_sref ht]
   simp [h2, hk, hn, hi]
  ·rw [addr_ref]
   simp [h2, hi]
theorem weaker_frz {E : Env} {s : St} (hW : ∀ b, ¬ E.W b) (j : Nat) {id lo n : Nat} {o : AObj} (hj : s.t j = .sref id lo n) (ho : s.H[id]? = some (some o)) (hi : Imm (.list o.k ((o.es.drop lo).take n))) :
  Weaker E s ⟨upd s.t j (.list o.k ((o.es.drop lo).take n)), s.H.set id none⟩ := by
 rintro a w ⟨ρ, ok, g, hx, hd, hs, hr⟩
 obtain ⟨g', x'⟩ := g.kill id (fun b => ok b ∨ ∃ o c, s.H[id]? = some (some o) ∧ ρ id = some (b, c)) (fun _ h => .inl h) (fun b hb => hb.imp (fun h => h) fun ⟨o, c, h1, h2⟩ => ⟨o, c, h1, h2, hW b⟩)
 refine ⟨ρ, _, g', hx.trans x', hd, hs, fun i => ?_⟩
 simp only [upd]
 split
 ·rename_i hij
  subst hij
  have hv := hr i
  have hview : view s.H (s.t i) = .list o.k ((o.es.drop lo).take n) := by rw [hj, view_sref, ho, viewS_some]
  have := view_soundX (fun x => x = id) g hv (by rw [hview]; exact hi) (fun x hx => by rw [hj] at hx; simpa [srefs, srefs2, srefs1] using hx)
  rw [hview] at this
  refine this.imm (fun b hb => ?_) hi
  rcases hb with hb | ⟨x, o', c, rfl, h1, h2⟩
  ·exact .inl hb
  ·exact .inr ⟨o', c, h1, h2⟩
 ·exact (hr i).ext x'
def RoundF (j n : Nat) (I : Nat → St → Prop) (Q : Exit → St → Prop) (_ : Bx (I, Q)) : Exit → St → Prop
 | .normal, s' => ∃ n', n' < n ∧ I n' s'
 | .exit i, s' => ∃ id lo m o, s'.t j = .sref id lo m ∧ s'.H[id]? = some (some o) ∧ Imm (.list o.k ((o.es.drop lo).take m)) ∧ Q (.exit i) ⟨upd s'.t j (.list o.k ((o.es.drop lo).take m)), s'.H.set id none⟩
 | x, s' => Q x s'
theorem roundF_normal {j n : Nat} {I : Nat → St → Prop} {Q : Exit → St → Prop} {b : Bx (I, Q)} {s : St} : RoundF j n I Q b .normal s = (∃ n', n' < n ∧ I n' s) := rfl
theorem roundF_ret {j n : Nat} {I : Nat → St → Prop} {Q : Exit → St → Prop} {b : Bx (I, Q)} {s : St} : RoundF j n I Q b .ret s = Q .ret s := rfl
def Frz (j : Nat) (s : St) (k : St → Prop) : Prop := ∃ id lo m o, s.t j = .sref id lo m ∧ s.H[id]? = some (some o) ∧ Imm (.list o.k ((o.es.drop lo).take m)) ∧ k ⟨upd s.t j (.list o.k ((o.es.drop lo).take m)), s.H.set id none⟩
theorem roundF_frz {j n i : Nat} {I : Nat → St → Prop} {Q : Exit → St → Prop} {b : Bx (I, Q)} {s : St} : RoundF j n I Q b (.exit i) s = Frz j s (Q (.exit i)) := rfl
theorem frz {j : Nat} {s : St} {k : St → Prop} (id n : Nat) (ty : TypeId) (kk : Nat) (es : List (List AV)) (h1 : s.t j = .sref id 0 n) (h2 : s.H[id]? = some (some ⟨ty, kk, es⟩)) (hn : n = es.length) (hi : Imm (.list kk es)) (h : k ⟨upd s.t j (.list kk es), s.H.set id none⟩) : Frz j s k := by
 refine ⟨id, 0, n, _, h1, h2, ?_, ?_⟩
 ·simpa [hn] using hi
 ·simpa [hn] using h
attribute [go_sem ↓] roundF_normal roundF_frz roundF_ret
theorem aloopF {E : Env} {c : Code} {s0 : St} {Q : Exit → St → Prop} {b : Bx (c, Q)} (j : Nat) (hW : ∀ b, ¬ E.W b) (I : Nat → St → Prop) (n0 : Nat) (hc : codeOk E.N c = true) (h0 : I n0 s0)
  (round : ∀ n s, I n s → awp E c s (RoundF j n I Q .mk)) : ALoop E c s0 Q b := by
 intro a w r
 refine wp_loop_ghost (fun n a w => ∃ s, I n s ∧ Rel E s a w) n0 ⟨_, h0, r⟩ fun n a w hI => ?_
 obtain ⟨s, hs, r⟩ := hI
 refine wp_mono (awp_sound c s _ hc (round n s hs) a w r) fun e a' w' h' => ?_
 obtain ⟨s', h1, h2⟩ := h'
 cases e with
 | normal =>
  obtain ⟨n', hlt, hI'⟩ := h1
  exact ⟨n', hlt, _, hI', h2⟩
 | exit i =>
  obtain ⟨id, lo, m, o, e1, e2, e3, e4⟩ := h1
  exact ⟨_, e4, weaker_frz hW j e1 e2 e3 a' w' h2⟩
 | _ => exact ⟨s', h1, h2⟩
def encL {α : Type} (enc : α → List AV) (l : List α) : List (List AV) := l.map enc
section
variable {α : Type} (enc : α → List AV)
theorem encL_nil : encL enc [] = [] := rfl
theorem encL_len (l : List α) : (encL enc l).length = l.length := by simp [encL]
theorem encL_snoc (l : List α) (a : α) : encL enc l ++ [enc a] = encL enc (l ++ [a]) := by simp [encL]
theorem encL_take (l : List α) (n : Nat) (h : n = l.length) : (encL enc l).take n = encL enc l := by subst h; rw [← encL_len enc l, List.take_length]
theorem encL_takeL (l : List α) : (encL enc l).take l.length = encL enc l := encL_take enc l _ rfl
theorem encL_get (l : List α) (i : Nat) : (encL enc l)[i]? = (l[i]?).map enc := by simp [encL]
theorem imm_encL {k : Nat} (h : ∀ a c, c ∈ enc a → Imm c) (l : List α) : Imm (.list k (encL enc l)) := by
 refine .list fun e he c hc => ?_
 simp only [encL, List.mem_map] at he
 obtain ⟨a, _, rfl⟩ := he
 exact h a c hc
theorem encL_set (l : List α) (i : Nat) (a : α) : (encL enc l).set i (enc a) = encL enc (l.set i a) := by simp [encL, List.map_set]
attribute [go_sem] encL_nil encL_len encL_takeL encL_get
end
def idxFrom {α : Type} (p : α → Bool) : Nat → List α → Int
 | _, [] => -1
 | k, a :: l => if p a = true then k else idxFrom p (k + 1) l
def idxI {α : Type} (p : α → Bool) (l : List α) : Int := idxFrom p 0 l
theorem idxFrom_spec {α : Type} (p : α → Bool) : ∀ (l : List α) (k : Nat), (idxFrom p k l = -1 ∧ ∀ a, a ∈ l → p a = false) ∨ ∃ (i : Nat) (a : α), l[i]? = some a ∧ p a = true ∧ idxFrom p k l = ((k + i : Nat) : Int) ∧ ∀ (j : Nat) (b : α), j < i → l[j]? = some b → p b = false
 | [], k => .inl ⟨rfl, by simp⟩
 | a :: l, k => by
  simp only [idxFrom]
  by_cases h : p a = true
  ·rw [if_pos h]
   exact .inr ⟨0, a, rfl, h, rfl, fun j b hj => by omega⟩
  ·rw [if_neg h]
   have h' : p a = false := by simpa using h
   rcases idxFrom_spec p l (k + 1) with ⟨h1, h2⟩ | ⟨i, b, h1, h2, h3, h4⟩
   ·refine .inl ⟨h1, fun b hb => ?_⟩
    rcases List.mem_cons.1 hb with rfl | hb
    ·exact h'
    ·exact h2 b hb
   ·refine .inr ⟨i + 1, b, by simpa using h1, h2, by rw [h3]; congr 1; omega, fun j c hj hc => ?_⟩
    match j, hj, hc with
    | 0, hj, hc => simp at hc; subst hc; exact h'
    | j + 1, hj, hc => exact h4 j c (by omega) (by simpa using hc)
theorem idxI_spec {α : Type} (p : α → Bool) (l : List α) : (idxI p l = -1 ∧ ∀ a, a ∈ l → p a = false) ∨ ∃ (i : Nat) (a : α), l[i]? = some a ∧ p a = true ∧ idxI p l = (i : Int) ∧ ∀ (j : Nat) (b : α), j < i → l[j]? = some b → p b = false := by
 have := idxFrom_spec p l 0
 simpa [idxI] using this
theorem args_sref {H : Heap} {id n : Nat} {ty : TypeId} {k : Nat} {es : List (List AV)} {as0 as' : List AV} (hH : H[id]? = some (some ⟨ty, k, es⟩)) (hn : n = es.length) (hi : Imm (.list k es)) (ht : Args H as0 as') : Args H (.sref id 0 n :: as0) (.list k es :: as') := by
 have hv : view H (.sref id 0 n) = .list k es := by rw [view_sref, hH, viewS_some]; simp [hn]
 exact .cons (by rw [hv]; exact .refl _) (by rw [hv]; exact hi) ht
theorem args_imm {H : Heap} {a : AV} {as0 as' : List AV} (hi : Imm a) (ht : Args H as0 as') : Args H (a :: as0) (a :: as') := .cons (by rw [view_imm hi]; exact .refl _) (by rw [view_imm hi]; exact hi) ht
inductive CW (H : Heap) : List AV → List AV → Prop
 | nil : CW H [] []
 | cons {a a' : AV} {as0 as' : List AV} (h : Weak (view1 H a) a') (hi : Imm (view1 H a)) (hi' : Imm a') (t : CW H as0 as') : CW H (a :: as0) (a' :: as')
theorem CW.len {H : Heap} {as0 as' : List AV} (h : CW H as0 as') : as0.length = as'.length := by
 induction h with
 | nil => rfl
 | cons _ _ _ _ ih => simp [ih]
theorem CW.weak {H : Heap} {as0 as' : List AV} (h : CW H as0 as') : Weak (.agg (as0.map (view1 H))) (.agg as') := by
 refine .agg (by simpa using h.len) ?_
 induction h with
 | nil => intro i a b h; simp at h
 | cons h _ _ _ ih =>
  intro i a b ha hb
  match i, ha, hb with
  | 0, ha, hb => simp at ha hb; subst ha; subst hb; exact h
  | i + 1, ha, hb => exact ih i a b (by simpa using ha) (by simpa using hb)
theorem CW.imm {H : Heap} {as0 as' : List AV} (h : CW H as0 as') : Imm (.agg (as0.map (view1 H))) := by
 refine .agg fun c hc => ?_
 induction h with
 | nil => simp at hc
 | cons _ h _ _ ih =>
  rcases List.mem_cons.1 hc with rfl | hc
  ·exact h
  ·exact ih hc
theorem CW.imm' {H : Heap} {as0 as' : List AV} (h : CW H as0 as') : Imm (.agg as') := by
 refine .agg fun c hc => ?_
 induction h with
 | nil => simp at hc
 | cons _ _ h _ ih =>
  rcases List.mem_cons.1 hc with rfl | hc
  ·exact h
  ·exact ih hc
theorem cw_imm {H : Heap} {a : AV} {as0 as' : List AV} (hi : Imm a) (t : CW H as0 as') : CW H (a :: as0) (a :: as') := by
 refine .cons ?_ ?_ hi t
 ·rw [view1_imm hi]; exact .refl a
 ·rw [view1_imm hi]; exact hi
theorem cw_sc {H : Heap} {v : Value} {as0 as' : List AV} (t : CW H as0 as') : CW H (.sc v :: as0) (.sc v :: as') := cw_imm .sc t
theorem cw_nil {H : Heap} {k : Nat} {as0 as' : List AV} (t : CW H as0 as') : CW H (.nil :: as0) (.list k [] :: as') := .cons (.nil k) .nil (imm_list.2 (by simp)) t
theorem cw_sref {H : Heap} {id n : Nat} {ty : TypeId} {k : Nat} {es : List (List AV)} {as0 as' : List AV} (hH : H[id]? = some (some ⟨ty, k, es⟩)) (hn : n = es.length) (hi : Imm (.list k es)) (t : CW H as0 as') : CW H (.sref id 0 n :: as0) (.list k es :: as') := by
 have hv : view1 H (.sref id 0 n) = .list k es := by rw [view1_sref, hH, viewS_some]; simp [hn]
 exact .cons (by rw [hv]; exact .refl _) (by rw [hv]; exact hi) hi t
theorem args_agg {H : Heap} {cs cs' as0 as' : List AV} (h : CW H cs cs') (ht : Args H as0 as') : Args H (.agg cs :: as0) (.agg cs' :: as') := .cons h.weak h.imm ht
theorem done_agg {H : Heap} {cs cs' : List AV} {Q : AV → Prop} {b : Bx Q} (h : CW H cs cs') (hq : Q (.agg cs')) : Done H (.agg cs) Q b := done_weak h.imm h.imm' h.weak hq
theorem done_agg2 {H : Heap} {cs cs' : List AV} {v : Value} {Q : AV → Prop} {b : Bx Q} (h : CW H cs cs') (hq : Q (.tup [.agg cs', .sc v])) : Done H (.tup [.agg cs, .sc v]) Q b :=
 done_weak (imm_pair h.imm .sc) (imm_pair h.imm' .sc) (weak_tup2 h.weak (.refl _)) hq
open Go.RowKit
def valI : Int → Value := Value.int .i64
def valB : Bool → Value := Value.bool
def encK {β : Type} (f : β → Value) (l : List (Int × β)) : List (List AV) := l.map fun e => [.sc (.int .i64 e.1), .sc (f e.2)]
def imK {β : Type} (f : β → Value) (l : List (Int × β)) : List (Value × Value) := l.map fun e => (.int .i64 e.1, f e.2)
def getM {β : Type} : List (Int × β) → Int → Option β
 | [], _ => none
 | e :: l, k => if e.1 = k then some e.2 else getM l k
def putM {β : Type} : List (Int × β) → Int → β → List (Int × β)
 | [], k, v => [(k, v)]
 | e :: l, k, v => if e.1 = k then (k, v) :: l else e :: putM l k v
section
variable {β : Type} {f : β → Value}
theorem entsOf_encK (l : List (Int × β)) : entsOf (encK f l) = some (l.map fun e => (.int .i64 e.1, .sc (f e.2))) := by
 induction l with
 | nil => rfl
 | cons e l ih =>
  simp only [encK, List.map_cons, entsOf] at ih ⊢
  rw [ih]
  rfl
theorem ents1_encK (l : List (Int × β)) : ents1 (encK f l) = some (imK f l) := by
 induction l with
 | nil => rfl
 | cons e l ih =>
  simp only [encK, List.map_cons, ents1] at ih ⊢
  rw [ih]
  rfl
theorem afind_map (l : List (Int × β)) (n : Int) : afind (.int .i64) (.int .i64 n) (l.map fun e => (.int .i64 e.1, .sc (f e.2))) = some ((getM l n).map fun b => .sc (f b)) := by
 induction l with
 | nil => rfl
 | cons e l ih =>
  simp only [List.map_cons, afind, Instr.sameNow, getM, if_true]
  by_cases h : n = e.1
  ·subst h; simp
  ·rw [if_neg (fun q => h q.symm)]
   have hb : (n == e.1) = false := by simpa using h
   rw [hb]
   simp only [ih]
theorem aput_encK (l : List (Int × β)) (n : Int) (b : β) : aput (.int .i64) (.int .i64 n) (.sc (f b)) (encK f l) = some (encK f (putM l n b)) := by
 induction l with
 | nil => rfl
 | cons e l ih =>
  simp only [encK, List.map_cons, aput, Instr.sameNow, putM, if_true] at ih ⊢
  by_cases h : n = e.1
  ·subst h; simp
  ·rw [if_neg (fun q => h q.symm)]
   have hb : (n == e.1) = false := by simpa using h
   rw [hb]
   simp only [ih, Option.map_some, List.map_cons]
end
section
variable {E : Env} {P : Program} {H : Heap}
theorem aeff_makeMap {t : TypeId} {ev : Operand → AV} {C : AV → Heap → Prop} : AEff E (.makeMap t none) ev H C = OV2 (.mref H.length) (H ++ [some ⟨0, 2, []⟩]) C .mk := rfl
theorem aeff_mapUpdate {t : TypeId} {x k v : Operand} {ev : Operand → AV} {C : AV → Heap → Prop} : AEff E (.mapUpdate t x k v) ev H C = OB (aupdate E.P t H (ev x) (ev k) (ev v)) (fun H' => C (.sc undef) H') .mk := by
 simp only [AEff]
 cases aupdate E.P t H (ev x) (ev k) (ev v) <;> rfl
theorem aeff_lookup {t : TypeId} {x k : Operand} {c : Bool} {ev : Operand → AV} {C : AV → Heap → Prop} : AEff E (.lookup t x k c) ev H C = OB (alookup E.P t H (ev x) (ev k) c) (fun v => C v H) .mk := aeff_read rfl
theorem aeff_entry {x : Operand} {ev : Operand → AV} {C : AV → Heap → Prop} : AEff E (.entry x) ev H C = OB (aentry H (ev x)) (fun v => C v H) .mk := aeff_read rfl
def rangeV (E : Env) (t : TypeId) (x : AV) (H : Heap) (C : AV → Heap → Prop) (_ : Bx C) : Prop := match x with
 | .imap es => if isMapT E.P t then C (.miter H.length) (H ++ [some ⟨0, 3, [[.junk, .junk, .imap es]]⟩]) else False
 | _ => False
theorem aeff_range {t : TypeId} {x : Operand} {ev : Operand → AV} {C : AV → Heap → Prop} : AEff E (.range t x) ev H C = rangeV E t (ev x) H C .mk := by
 simp only [AEff, rangeV]
 rfl
theorem rangeV_imap {t : TypeId} {es : List (Value × Value)} {C : AV → Heap → Prop} {b : Bx C} (h : isMapT E.P t = true) : rangeV E t (.imap es) H C b = OV2 (.miter H.length) (H ++ [some ⟨0, 3, [[.junk, .junk, .imap es]]⟩]) C .mk := by
 simp only [rangeV, h, if_true, OV2]
def ANext (left : List (Value × Value)) (id : Nat) (o : AObj) (H : Heap) (C : AV → Heap → Prop) (_ : Bx C) : Prop :=
 (left = [] → C (.tup [.sc (.bool false)]) H) ∧ ∀ (i : Nat) (e : Value × Value), left[i]? = some e → C (.tup [.sc (.bool true), .sc e.1, .sc e.2]) (H.set id (some { o with es := [[.sc e.1, .sc e.2, .imap (left.eraseIdx i)]] }))
def nextV (x : AV) (s : Bool) (H : Heap) (C : AV → Heap → Prop) (b : Bx C) : Prop := match x with
 | .miter id => match H[id]? with
  | some (some o) => match o.es with
   | [[_, _, .imap left]] => s = false ∧ ANext left id o H C b
   | _ => False
  | _ => False
 | _ => False
def nextO (y : Option (Option AObj)) (id : Nat) (H : Heap) (C : AV → Heap → Prop) (b : Bx C) : Prop := match y with
 | some (some o) => match o.es with
  | [[_, _, .imap left]] => ANext left id o H C b
  | _ => False
 | _ => False
theorem aeff_next {x : Operand} {ev : Operand → AV} {C : AV → Heap → Prop} : AEff E (.next x false) ev H C = nextV (ev x) false H C .mk := by
 simp only [AEff, nextV, ANext]
 rfl
theorem nextV_it {id : Nat} {C : AV → Heap → Prop} {b : Bx C} : nextV (.miter id) false H C b = nextO H[id]? id H C .mk := by
 simp only [nextV, nextO, true_and]
theorem nextO_some {id ty k : Nat} {a1 a2 : AV} {left : List (Value × Value)} {C : AV → Heap → Prop} {b : Bx C} : nextO (some (some ⟨ty, k, [[a1, a2, .imap left]]⟩)) id H C b = ANext left id ⟨ty, k, [[a1, a2, .imap left]]⟩ H C .mk := rfl
def alookO (P : Program) (t : TypeId) (y : Option (Option AObj)) (k : AV) (c : Bool) : Option AV := match mapOf P t, k, (match y with | some (some o) => entsOf o.es | _ => none) with
 | some (_, d, et), .sc kv, some es => if isKeyB d kv then (match afind d kv es with
  | some (some a) => some (if c then .tup [a, .sc (.bool true)] else a)
  | some none => (azero1 P et).map fun z => if c then .tup [z, .sc (.bool false)] else z
  | none => none) else none
 | _, _, _ => none
theorem alook_mref {t : TypeId} {id : Nat} {k : AV} {c : Bool} : alookup P t H (.mref id) k c = alookO P t H[id]? k c := rfl
theorem look_core {β : Type} {f : β → Value} {d : β} {et : TypeId} (hz : azero1 P et = some (.sc (f d))) (l : List (Int × β)) (n : Int) (c : Bool) :
  (match afind (.int .i64) (.int .i64 n) (l.map fun e => (.int .i64 e.1, .sc (f e.2))) with
  | some (some a) => some (if c then .tup [a, .sc (.bool true)] else a)
  | some none => (azero1 P et).map fun z => if c then .tup [z, .sc (.bool false)] else z
  | none => none) = some (if c then .tup [.sc (f ((getM l n).getD d)), .sc (.bool (getM l n).isSome)] else .sc (f ((getM l n).getD d))) := by
 rw [afind_map]
 cases getM l n with
 | none => simp [hz]
 | some b => simp
theorem alookO_enc {β : Type} {f : β → Value} {d : β} {t kt et : TypeId} (hm : mapOf P t = some (kt, .int .i64, et)) (hz : azero1 P et = some (.sc (f d))) {ty k : Nat} {l : List (Int × β)} {n : Int} {c : Bool} :
  alookO P t (some (some ⟨ty, k, encK f l⟩)) (.sc (.int .i64 n)) c = some (if c then .tup [.sc (f ((getM l n).getD d)), .sc (.bool (getM l n).isSome)] else .sc (f ((getM l n).getD d))) := by
 rw [← look_core hz l n c]
 simp only [alookO, hm, entsOf_encK, isKeyB, decide_true, if_true]
theorem alook_imap {β : Type} {f : β → Value} {d : β} {t kt et : TypeId} (hm : mapOf P t = some (kt, .int .i64, et)) (hz : azero1 P et = some (.sc (f d))) {l : List (Int × β)} {n : Int} {c : Bool} :
  alookup P t H (.imap (imK f l)) (.sc (.int .i64 n)) c = some (if c then .tup [.sc (f ((getM l n).getD d)), .sc (.bool (getM l n).isSome)] else .sc (f ((getM l n).getD d))) := by
 rw [← look_core hz l n c]
 simp only [alookup, hm, ents, imK, List.map_map, isKeyB, decide_true, if_true]
 rfl
theorem alookO_I {t : TypeId} (h : IMap P t (.sc (.int .i64 0))) {ty k : Nat} {l : List (Int × Int)} {n : Int} :
  alookO P t (some (some ⟨ty, k, encK valI l⟩)) (.sc (.int .i64 n)) false = some (.sc (.int .i64 ((getM l n).getD 0))) := by
 obtain ⟨kt, et, hm, hz⟩ := h
 exact (alookO_enc (f := valI) (d := 0) hm hz).trans rfl
theorem alook_I {t : TypeId} (h : IMap P t (.sc (.int .i64 0))) {l : List (Int × Int)} {n : Int} :
  alookup P t H (.imap (imK valI l)) (.sc (.int .i64 n)) false = some (.sc (.int .i64 ((getM l n).getD 0))) := by
 obtain ⟨kt, et, hm, hz⟩ := h
 exact (alook_imap (f := valI) (d := 0) hm hz).trans rfl
theorem alookO_B {t : TypeId} (h : IMap P t (.sc (.bool false))) {ty k : Nat} {l : List (Int × Bool)} {n : Int} :
  alookO P t (some (some ⟨ty, k, encK valB l⟩)) (.sc (.int .i64 n)) false = some (.sc (.bool ((getM l n).getD false))) := by
 obtain ⟨kt, et, hm, hz⟩ := h
 exact (alookO_enc (f := valB) (d := false) hm hz).trans rfl
def aupdO (P : Program) (t : TypeId) (id : Nat) (H : Heap) (y : Option (Option AObj)) (k v : AV) : Option Heap := match mapOf P t, k, y with
 | some (_, d, _), .sc kv, some (some o) => if isKeyB d kv then (aput d kv v o.es).map fun es => H.set id (some { o with es := es }) else none
 | _, _, _ => none
theorem aupd_mref {t : TypeId} {id : Nat} {k v : AV} : aupdate P t H (.mref id) k v = aupdO P t id H H[id]? k v := by
 unfold aupdate aupdO
 cases mapOf P t with
 | none => rfl
 | some m =>
  cases k <;> first | rfl | skip
  rename_i kv
  obtain ⟨kt, d, et⟩ := m
  simp only
  generalize H[id]? = y
  cases y with
  | none => simp
  | some y => cases y with
   | none => simp
   | some o => rfl
theorem aupdO_enc {β : Type} {f : β → Value} {t kt et : TypeId} (hm : mapOf P t = some (kt, .int .i64, et)) {id ty k : Nat} {l : List (Int × β)} {n : Int} {b : β} :
  aupdO P t id H (some (some ⟨ty, k, encK f l⟩)) (.sc (.int .i64 n)) (.sc (f b)) = some (H.set id (some ⟨ty, k, encK f (putM l n b)⟩)) := by
 simp only [aupdO, hm, isKeyB, decide_true, if_true, aput_encK, Option.map_some]
theorem aupdO_I {t : TypeId} (h : IMap P t (.sc (.int .i64 0))) {id ty k : Nat} {l : List (Int × Int)} {n b : Int} :
  aupdO P t id H (some (some ⟨ty, k, encK valI l⟩)) (.sc (.int .i64 n)) (.sc (.int .i64 b)) = some (H.set id (some ⟨ty, k, encK valI (putM l n b)⟩)) := by
 obtain ⟨kt, et, hm, hz⟩ := h
 exact aupdO_enc (f := valI) hm
theorem aupdO_B {t : TypeId} (h : IMap P t (.sc (.bool false))) {id ty k : Nat} {l : List (Int × Bool)} {n : Int} {b : Bool} :
  aupdO P t id H (some (some ⟨ty, k, encK valB l⟩)) (.sc (.int .i64 n)) (.sc (.bool b)) = some (H.set id (some ⟨ty, k, encK valB (putM l n b)⟩)) := by
 obtain ⟨kt, et, hm, hz⟩ := h
 exact aupdO_enc (f := valB) hm
def aentryO (y : Option (Option AObj)) : Option AV := match y with
 | some (some o) => match o.es with
  | [[.sc k, .sc v, _]] => some (.tup [.sc k, .sc v])
  | _ => none
 | _ => none
theorem aentry_it {id : Nat} : aentry H (.miter id) = aentryO H[id]? := rfl
theorem aentryO_some {ty k : Nat} {a b : Value} {c : AV} : aentryO (some (some ⟨ty, k, [[.sc a, .sc b, c]]⟩)) = some (.tup [.sc a, .sc b]) := rfl
def viewM (y : Option (Option AObj)) : AV := match y with
 | some (some o) => match ents1 o.es with
  | some es => .imap es
  | none => .junk
 | _ => .junk
theorem view_mref {id : Nat} : view H (.mref id) = viewM H[id]? := rfl
theorem view1_mref {id : Nat} : view1 H (.mref id) = viewM H[id]? := rfl
theorem view2_mref {id : Nat} : view2 H (.mref id) = viewM H[id]? := rfl
theorem viewM_enc {β : Type} {f : β → Value} {ty k : Nat} {l : List (Int × β)} : viewM (some (some ⟨ty, k, encK f l⟩)) = .imap (imK f l) := by simp only [viewM, ents1_encK]
end
section
variable {E : Env} {ev : Operand → AV} {H : Heap} {k : AV → Prop} {b : Bx k}
theorem ard_lookup {t : TypeId} {x y : Operand} {c : Bool} : ARd E (.lookup t x y c) ev H k b = AEff E (.lookup t x y c) ev H fun v _ => k v := ard_aeff rfl
theorem ard_entry {x : Operand} : ARd E (.entry x) ev H k b = AEff E (.entry x) ev H fun v _ => k v := ard_aeff rfl
end
attribute [go_sem ↓] ard_lookup ard_entry
attribute [go_sem ↓] aeff_makeMap aeff_mapUpdate aeff_lookup aeff_entry aeff_range aeff_next
attribute [go_sem] rangeV_imap nextV_it nextO_some alook_mref alookO_I alookO_B alook_I aupd_mref aupdO_I aupdO_B aentry_it aentryO_some view_mref view1_mref view2_mref viewM_enc
theorem pfun_list_nil {P : Program} {row src : Option Nat} {f : FuncId} {args : List AV} {k : Nat} {Q : AV → Prop} (h : ∀ A c, PFun P row src f (.sc (.slice A 0 c) :: args) Q) : PFun P row src f (.list k [] :: args) Q := by
 intro w ok vs h1 h2 h3 h4
 have h0 : 0 < vs.size := by rw [h3]; simp
 have hv := h4 0 vs[0] (.list k []) (Array.getElem?_eq_getElem h0) rfl
 have key : ∃ A c, vs[0] = .slice A 0 c := by
  generalize vs[0] = v at hv
  cases hv with
  | listNil => exact ⟨_, _, rfl⟩
  | list f hn _ _ _ _ _ _ => subst hn; exact ⟨_, _, rfl⟩
 obtain ⟨A, c, hA⟩ := key
 refine h A c w ok vs h1 h2 (by simpa using h3) fun i v a hv ha => ?_
 match i, hv, ha with
 | 0, hv, ha =>
  rw [Array.getElem?_eq_getElem h0, hA] at hv
  simp at hv ha
  subst hv; subst ha
  exact .sc
 | i + 1, hv, ha => exact h4 (i + 1) v a hv ha
section
variable {E : Env}
end
theorem agree_push {n : Nat} {H l : Heap} (h : n ≤ H.length) : Agree (fun id => decide (id < n)) H (H ++ l) := fun id hid => List.getElem?_append_left (by simp at hid; omega)
theorem agree_3 {a b c : Option AObj} {l l' : Heap} : Agree (fun id => decide (id < 3)) (a :: b :: c :: l) (a :: b :: c :: l') := fun id hid => by
 have : id < 3 := by simpa using hid
 rcases id with _ | _ | _ | id
 ·rfl
 ·rfl
 ·rfl
 ·omega
theorem agree_two {H H' : Heap} {X : List Nat} {p q : Nat} {o o' : AObj} (hk : Kept X H H') (hp : H[p]? = some (some o)) (hq : H[q]? = some (some o')) (np : p ∉ X) (nq : q ∉ X) : Agree (fun i => decide (i = p) || decide (i = q)) H H' := fun i hi => by
 simp only [Bool.or_eq_true, decide_eq_true_eq] at hi
 rcases hi with rfl | rfl
 ·rw [hp, hk _ _ np hp]
 ·rw [hq, hk _ _ nq hq]
theorem agree_live {D : Nat → Bool} {X : List Nat} {H H' : Heap} (hk : Kept X H H') (hD : ∀ i, D i = true → i ∉ X ∧ ∃ o, H[i]? = some (some o)) : Agree D H H' := fun i hi => by
 obtain ⟨h1, o, ho⟩ := hD i hi
 rw [ho, hk i o h1 ho]
theorem valI_eq (v : Int) : valI v = Value.int .i64 v := rfl
theorem valB_eq (v : Bool) : valB v = Value.bool v := rfl
def aixA (P : Program) (H : Heap) (a : Option (Nat × TypeId)) (id i j : Nat) (n : Int) : Option AV := match a with
 | some (len, e) => if knownT P e = true ∧ 0 ≤ n ∧ n < len then (if (addrCells H (.ref id i j)).isSome then some (.ref id i (j + n.toNat * szOf P e)) else none) else none
 | none => none
theorem aix_ref {P : Program} {t : TypeId} {H : Heap} {id i j : Nat} {n : Int} (h : Go.PA.elemOf P t = none) : aindexAddr P t H (.ref id i j) n = aixA P H (arrOf P t) id i j n := by
 simp only [aindexAddr, h, aixA]
 cases arrOf P t <;> rfl
theorem aixA_some {P : Program} {H : Heap} {len : Nat} {e : TypeId} {id i j : Nat} {n : Int} : aixA P H (some (len, e)) id i j n = if knownT P e = true ∧ 0 ≤ n ∧ n < len then (if (addrCells H (.ref id i j)).isSome then some (.ref id i (j + n.toNat * szOf P e)) else none) else none := rfl
def aixVA (P : Program) (cs : List AV) (n : Int) (a : Option (Nat × TypeId)) : Option AV := match a with
 | some (len, e) => if knownT P e = true ∧ 0 ≤ n ∧ n < len then apart P e cs (n.toNat * szOf P e) else none
 | none => none
theorem aixV_agg {P : Program} {t : TypeId} {cs : List AV} {k : IntKind} {n : Int} : aixV P t (.agg cs) (.sc (.int k n)) = aixVA P cs n (arrOf P t) := by
 simp only [aixV, aixVA]
 cases arrOf P t <;> rfl
theorem aixVA_some {P : Program} {cs : List AV} {n : Int} {len : Nat} {e : TypeId} : aixVA P cs n (some (len, e)) = if knownT P e = true ∧ 0 ≤ n ∧ n < len then apart P e cs (n.toNat * szOf P e) else none := rfl
attribute [go_sem] aix_ref aixA_some aixV_agg aixVA_some valI_eq valB_eq
def arI (xs : List Int) : List AV := xs.map fun x => .sc (.int .i64 x)
theorem arI_len (xs : List Int) : (arI xs).length = xs.length := by simp [arI]
theorem arI_at (xs : List Int) (j : Nat) : ((arI xs).drop j).head? = (xs[j]?).map fun x => .sc (.int .i64 x) := by simp [arI]
theorem arI_dropLen (xs : List Int) (j : Nat) : ((arI xs).drop j).length = xs.length - j := by simp [arI]
theorem arI_get (xs : List Int) (j : Nat) : (arI xs)[j]? = (xs[j]?).map fun x => .sc (.int .i64 x) := by simp [arI]
theorem arI_all (xs : List Int) : (arI xs).all AV.cellish = true := by simp [arI, AV.cellish, Value.oneCell']
theorem arI_view1 (H : Heap) (xs : List Int) : (arI xs).map (view1 H) = arI xs := by simp [arI, view1]
attribute [go_sem] arI_len arI_at arI_dropLen arI_get arI_all arI_view1
section
variable {E : Env} {H : Heap}
end
end Go.PA
namespace Go.Proofs.YtmpncdlhmknkoaaGreat
open Go.PA
open Go.RowKit
abbrev iv (n : Int) : AV := .sc (.int .i64 n)
abbrev bv (b : Bool) : AV := .sc (.bool b)
def encI (n : Int) : List AV := [iv n]
theorem imm_encI (n : Int) (c : AV) (h : c ∈ encI n) : Imm c := by simp [encI] at h; subst h; exact .sc
structure TSub where
 ID : Int
 Balance : Int
deriving DecidableEq, Inhabited
def TSub.cells (x : TSub) : List AV := [iv x.ID, iv x.Balance]
theorem TSub.len (x : TSub) : x.cells.length = 2 := by simp [TSub.cells]
theorem TSub.imm (x : TSub) (c : AV) (h : c ∈ x.cells) : Imm c := by
 simp only [TSub.cells, List.mem_cons, List.not_mem_nil, or_false] at h
 rcases h with rfl | rfl
 ·exact .sc
 ·exact .sc
structure TEntry where
 Number : Int
 Day : Int
 From : Int
 To : Int
 Amount : Int
 Ref : Int
deriving DecidableEq, Inhabited
def TEntry.cells (x : TEntry) : List AV := [iv x.Number, iv x.Day, iv x.From, iv x.To, iv x.Amount, iv x.Ref]
theorem TEntry.len (x : TEntry) : x.cells.length = 6 := by simp [TEntry.cells]
theorem TEntry.imm (x : TEntry) (c : AV) (h : c ∈ x.cells) : Imm c := by
 simp only [TEntry.cells, List.mem_cons, List.not_mem_nil, or_false] at h
 rcases h with rfl | rfl | rfl | rfl | rfl | rfl
 ·exact .sc
 ·exact .sc
 ·exact .sc
 ·exact .sc
 ·exact .sc
 ·exact .sc
structure TAccount where
 Credit : Int
 Subs : List TSub
 Entries : List TEntry
deriving DecidableEq, Inhabited
def TAccount.cells (x : TAccount) : List AV := [iv x.Credit, .list 2 (encL TSub.cells x.Subs), .list 6 (encL TEntry.cells x.Entries)]
theorem TAccount.len (x : TAccount) : x.cells.length = 3 := by simp [TAccount.cells]
theorem TAccount.imm (x : TAccount) (c : AV) (h : c ∈ x.cells) : Imm c := by
 simp only [TAccount.cells, List.mem_cons, List.not_mem_nil, or_false] at h
 rcases h with rfl | rfl | rfl
 ·exact .sc
 ·exact imm_encL _ (TSub.imm) _
 ·exact imm_encL _ (TEntry.imm) _
structure TPayment where
 Warrant : Int
 Payee : Int
 Amount : Int
 Due : Int
 Sub : Int
deriving DecidableEq, Inhabited
def TPayment.cells (x : TPayment) : List AV := [iv x.Warrant, iv x.Payee, iv x.Amount, iv x.Due, iv x.Sub]
theorem TPayment.len (x : TPayment) : x.cells.length = 5 := by simp [TPayment.cells]
theorem TPayment.imm (x : TPayment) (c : AV) (h : c ∈ x.cells) : Imm c := by
 simp only [TPayment.cells, List.mem_cons, List.not_mem_nil, or_false] at h
 rcases h with rfl | rfl | rfl | rfl | rfl
 ·exact .sc
 ·exact .sc
 ·exact .sc
 ·exact .sc
 ·exact .sc
structure TBatch where
 Number : Int
 Day : Int
 Payments : List TPayment
deriving DecidableEq, Inhabited
def TBatch.cells (x : TBatch) : List AV := [iv x.Number, iv x.Day, .list 5 (encL TPayment.cells x.Payments)]
theorem TBatch.len (x : TBatch) : x.cells.length = 3 := by simp [TBatch.cells]
theorem TBatch.imm (x : TBatch) (c : AV) (h : c ∈ x.cells) : Imm c := by
 simp only [TBatch.cells, List.mem_cons, List.not_mem_nil, or_false] at h
 rcases h with rfl | rfl | rfl
 ·exact .sc
 ·exact .sc
 ·exact imm_encL _ (TPayment.imm) _
structure TQueue where
 Waiting : List TPayment
 Known : List Int
 Batches : List TBatch
deriving DecidableEq, Inhabited
def TQueue.cells (x : TQueue) : List AV := [.list 5 (encL TPayment.cells x.Waiting), .list 1 (encL encI x.Known), .list 3 (encL TBatch.cells x.Batches)]
theorem TQueue.len (x : TQueue) : x.cells.length = 3 := by simp [TQueue.cells]
theorem TQueue.imm (x : TQueue) (c : AV) (h : c ∈ x.cells) : Imm c := by
 simp only [TQueue.cells, List.mem_cons, List.not_mem_nil, or_false] at h
 rcases h with rfl | rfl | rfl
 ·exact imm_encL _ (TPayment.imm) _
 ·exact imm_encL _ (imm_encI) _
 ·exact imm_encL _ (TBatch.imm) _
structure TItem where
 Payment : TPayment
 State : Int
 Attempts : Int
deriving DecidableEq, Inhabited
def TItem.cells (x : TItem) : List AV := x.Payment.cells ++ [iv x.State, iv x.Attempts]
theorem TItem.len (x : TItem) : x.cells.length = 7 := by simp [TItem.cells, TPayment.len]
theorem TItem.imm (x : TItem) (c : AV) (h : c ∈ x.cells) : Imm c := by
 simp only [TItem.cells, List.mem_append, List.mem_cons, List.not_mem_nil, or_false] at h
 rcases h with (h) | (rfl | rfl)
 ·exact TPayment.imm _ c h
 ·exact .sc
 ·exact .sc
structure TDesk where
 Account : TAccount
 Queue : TQueue
 Items : List TItem
deriving DecidableEq, Inhabited
def TDesk.cells (x : TDesk) : List AV := x.Account.cells ++ x.Queue.cells ++ [.list 7 (encL TItem.cells x.Items)]
theorem TDesk.len (x : TDesk) : x.cells.length = 7 := by simp [TDesk.cells, TAccount.len, TQueue.len]
theorem TDesk.imm (x : TDesk) (c : AV) (h : c ∈ x.cells) : Imm c := by
 simp only [TDesk.cells, List.mem_append, List.mem_cons, List.not_mem_nil, or_false] at h
 rcases h with ((h) | (h)) | (rfl)
 ·exact TAccount.imm _ c h
 ·exact TQueue.imm _ c h
 ·exact imm_encL _ (TItem.imm) _
open Go.PA
@[go_sem] theorem sz_2 : szOf Tryz.prog 2 = 1 := by kernel_rfl
@[go_sem] theorem kn_2 : knownT Tryz.prog 2 = true := by kernel_rfl
@[go_sem] theorem ag_2 : aggOf Tryz.prog 2 = false := by kernel_rfl
@[go_sem] theorem us_2 : (Tryz.prog.underlying 2).isSome = true := by kernel_rfl
@[go_sem] theorem un_2 : Tryz.prog.underlying 2 = some (.int .i64) := by kernel_rfl
@[go_sem] theorem ze_2 : zeros Tryz.prog 2 = some [.sc (.int .i64 0)] := by kernel_rfl
@[go_sem] theorem az_2 : azero1 Tryz.prog 2 = some (.sc (.int .i64 0)) := by kernel_rfl
@[go_sem] theorem by_2 : bytesOf Tryz.prog 2 = 8 := by kernel_rfl
@[go_sem] theorem sz_3 : szOf Tryz.prog 3 = 1 := by kernel_rfl
@[go_sem] theorem kn_3 : knownT Tryz.prog 3 = true := by kernel_rfl
@[go_sem] theorem ag_3 : aggOf Tryz.prog 3 = false := by kernel_rfl
@[go_sem] theorem us_3 : (Tryz.prog.underlying 3).isSome = true := by kernel_rfl
@[go_sem] theorem un_3 : Tryz.prog.underlying 3 = some (.int .i64) := by kernel_rfl
@[go_sem] theorem ze_3 : zeros Tryz.prog 3 = some [.sc (.int .i64 0)] := by kernel_rfl
@[go_sem] theorem az_3 : azero1 Tryz.prog 3 = some (.sc (.int .i64 0)) := by kernel_rfl
@[go_sem] theorem by_3 : bytesOf Tryz.prog 3 = 8 := by kernel_rfl
@[go_sem] theorem sz_4 : szOf Tryz.prog 4 = 1 := by kernel_rfl
@[go_sem] theorem kn_4 : knownT Tryz.prog 4 = true := by kernel_rfl
@[go_sem] theorem ag_4 : aggOf Tryz.prog 4 = false := by kernel_rfl
@[go_sem] theorem us_4 : (Tryz.prog.underlying 4).isSome = true := by kernel_rfl
@[go_sem] theorem un_4 : Tryz.prog.underlying 4 = some .bool := by kernel_rfl
@[go_sem] theorem ze_4 : zeros Tryz.prog 4 = some [.sc (.bool false)] := by kernel_rfl
@[go_sem] theorem az_4 : azero1 Tryz.prog 4 = some (.sc (.bool false)) := by kernel_rfl
@[go_sem] theorem by_4 : bytesOf Tryz.prog 4 = 1 := by kernel_rfl
@[go_sem] theorem sz_5 : szOf Tryz.prog 5 = 1 := by kernel_rfl
@[go_sem] theorem kn_5 : knownT Tryz.prog 5 = true := by kernel_rfl
@[go_sem] theorem ag_5 : aggOf Tryz.prog 5 = false := by kernel_rfl
@[go_sem] theorem us_5 : (Tryz.prog.underlying 5).isSome = true := by kernel_rfl
@[go_sem] theorem un_5 : Tryz.prog.underlying 5 = some (.int .u8) := by kernel_rfl
@[go_sem] theorem ze_5 : zeros Tryz.prog 5 = some [.sc (.int .u8 0)] := by kernel_rfl
@[go_sem] theorem az_5 : azero1 Tryz.prog 5 = some (.sc (.int .u8 0)) := by kernel_rfl
@[go_sem] theorem by_5 : bytesOf Tryz.prog 5 = 1 := by kernel_rfl
@[go_sem] theorem sz_9 : szOf Tryz.prog 9 = 1 := by kernel_rfl
@[go_sem] theorem kn_9 : knownT Tryz.prog 9 = true := by kernel_rfl
@[go_sem] theorem ag_9 : aggOf Tryz.prog 9 = false := by kernel_rfl
@[go_sem] theorem us_9 : (Tryz.prog.underlying 9).isSome = true := by kernel_rfl
@[go_sem] theorem un_9 : Tryz.prog.underlying 9 = some .string := by kernel_rfl
@[go_sem] theorem ze_9 : zeros Tryz.prog 9 = some [.sc (.string ByteArray.empty)] := by kernel_rfl
@[go_sem] theorem az_9 : azero1 Tryz.prog 9 = some (.sc (.string ByteArray.empty)) := by kernel_rfl
@[go_sem] theorem by_9 : bytesOf Tryz.prog 9 = 16 := by kernel_rfl
@[go_sem] theorem sz_12 : szOf Tryz.prog 12 = 1 := by kernel_rfl
@[go_sem] theorem kn_12 : knownT Tryz.prog 12 = true := by kernel_rfl
@[go_sem] theorem ag_12 : aggOf Tryz.prog 12 = false := by kernel_rfl
@[go_sem] theorem us_12 : (Tryz.prog.underlying 12).isSome = true := by kernel_rfl
@[go_sem] theorem un_12 : Tryz.prog.underlying 12 = some (.int .u64) := by kernel_rfl
@[go_sem] theorem ze_12 : zeros Tryz.prog 12 = some [.sc (.int .u64 0)] := by kernel_rfl
@[go_sem] theorem az_12 : azero1 Tryz.prog 12 = some (.sc (.int .u64 0)) := by kernel_rfl
@[go_sem] theorem by_12 : bytesOf Tryz.prog 12 = 8 := by kernel_rfl
@[go_sem] theorem sz_17 : szOf Tryz.prog 17 = 1 := by kernel_rfl
@[go_sem] theorem kn_17 : knownT Tryz.prog 17 = true := by kernel_rfl
@[go_sem] theorem ag_17 : aggOf Tryz.prog 17 = false := by kernel_rfl
@[go_sem] theorem us_17 : (Tryz.prog.underlying 17).isSome = true := by kernel_rfl
@[go_sem] theorem ze_17 : zeros Tryz.prog 17 = some [.sc (.pointer none)] := by kernel_rfl
@[go_sem] theorem by_17 : bytesOf Tryz.prog 17 = 8 := by kernel_rfl
@[go_sem] theorem sz_21 : szOf Tryz.prog 21 = 1 := by kernel_rfl
@[go_sem] theorem kn_21 : knownT Tryz.prog 21 = true := by kernel_rfl
@[go_sem] theorem ag_21 : aggOf Tryz.prog 21 = false := by kernel_rfl
@[go_sem] theorem us_21 : (Tryz.prog.underlying 21).isSome = true := by kernel_rfl
@[go_sem] theorem un_21 : Tryz.prog.underlying 21 = some (.int .i32) := by kernel_rfl
@[go_sem] theorem ze_21 : zeros Tryz.prog 21 = some [.sc (.int .i32 0)] := by kernel_rfl
@[go_sem] theorem az_21 : azero1 Tryz.prog 21 = some (.sc (.int .i32 0)) := by kernel_rfl
@[go_sem] theorem by_21 : bytesOf Tryz.prog 21 = 4 := by kernel_rfl
@[go_sem] theorem sz_22 : szOf Tryz.prog 22 = 1 := by kernel_rfl
@[go_sem] theorem kn_22 : knownT Tryz.prog 22 = true := by kernel_rfl
@[go_sem] theorem ag_22 : aggOf Tryz.prog 22 = false := by kernel_rfl
@[go_sem] theorem us_22 : (Tryz.prog.underlying 22).isSome = true := by kernel_rfl
@[go_sem] theorem el_22 : Go.PA.elemOf Tryz.prog 22 = some 3 := by kernel_rfl
@[go_sem] theorem un_22 : Tryz.prog.underlying 22 = some (.slice 3) := by kernel_rfl
@[go_sem] theorem ze_22 : zeros Tryz.prog 22 = some [.nil] := by kernel_rfl
@[go_sem] theorem az_22 : azero1 Tryz.prog 22 = some (.nil) := by kernel_rfl
@[go_sem] theorem by_22 : bytesOf Tryz.prog 22 = 24 := by kernel_rfl
@[go_sem] theorem sz_23 : szOf Tryz.prog 23 = 1 := by kernel_rfl
@[go_sem] theorem kn_23 : knownT Tryz.prog 23 = true := by kernel_rfl
@[go_sem] theorem ag_23 : aggOf Tryz.prog 23 = false := by kernel_rfl
@[go_sem] theorem us_23 : (Tryz.prog.underlying 23).isSome = true := by kernel_rfl
@[go_sem] theorem ze_23 : zeros Tryz.prog 23 = some [.sc (.pointer none)] := by kernel_rfl
@[go_sem] theorem by_23 : bytesOf Tryz.prog 23 = 8 := by kernel_rfl
@[go_sem] theorem sz_25 : szOf Tryz.prog 25 = 1 := by kernel_rfl
@[go_sem] theorem kn_25 : knownT Tryz.prog 25 = true := by kernel_rfl
@[go_sem] theorem ag_25 : aggOf Tryz.prog 25 = false := by kernel_rfl
@[go_sem] theorem us_25 : (Tryz.prog.underlying 25).isSome = true := by kernel_rfl
@[go_sem] theorem el_25 : Go.PA.elemOf Tryz.prog 25 = some 98 := by kernel_rfl
@[go_sem] theorem un_25 : Tryz.prog.underlying 25 = some (.slice 98) := by kernel_rfl
@[go_sem] theorem ze_25 : zeros Tryz.prog 25 = some [.nil] := by kernel_rfl
@[go_sem] theorem az_25 : azero1 Tryz.prog 25 = some (.nil) := by kernel_rfl
@[go_sem] theorem by_25 : bytesOf Tryz.prog 25 = 24 := by kernel_rfl
@[go_sem] theorem sz_26 : szOf Tryz.prog 26 = 1 := by kernel_rfl
@[go_sem] theorem kn_26 : knownT Tryz.prog 26 = true := by kernel_rfl
@[go_sem] theorem ag_26 : aggOf Tryz.prog 26 = false := by kernel_rfl
@[go_sem] theorem us_26 : (Tryz.prog.underlying 26).isSome = true := by kernel_rfl
@[go_sem] theorem el_26 : Go.PA.elemOf Tryz.prog 26 = some 48 := by kernel_rfl
@[go_sem] theorem un_26 : Tryz.prog.underlying 26 = some (.slice 48) := by kernel_rfl
@[go_sem] theorem ze_26 : zeros Tryz.prog 26 = some [.nil] := by kernel_rfl
@[go_sem] theorem az_26 : azero1 Tryz.prog 26 = some (.nil) := by kernel_rfl
@[go_sem] theorem by_26 : bytesOf Tryz.prog 26 = 24 := by kernel_rfl
@[go_sem] theorem sz_27 : szOf Tryz.prog 27 = 3 := by kernel_rfl
@[go_sem] theorem kn_27 : knownT Tryz.prog 27 = true := by kernel_rfl
@[go_sem] theorem ag_27 : aggOf Tryz.prog 27 = true := by kernel_rfl
@[go_sem] theorem us_27 : (Tryz.prog.underlying 27).isSome = true := by kernel_rfl
@[go_sem] theorem fd_27_0 : fieldOf Tryz.prog 27 0 = some (0, 3) := by kernel_rfl
@[go_sem] theorem fd_27_1 : fieldOf Tryz.prog 27 1 = some (1, 25) := by kernel_rfl
@[go_sem] theorem fd_27_2 : fieldOf Tryz.prog 27 2 = some (2, 26) := by kernel_rfl
@[go_sem] theorem el_27 : Go.PA.elemOf Tryz.prog 27 = none := by kernel_rfl
@[go_sem] theorem ar_27 : arrOf Tryz.prog 27 = none := by kernel_rfl
@[go_sem] theorem fk_27 : fieldsKnown Tryz.prog 27 = true := by kernel_rfl
@[go_sem] theorem ze_27 : zeros Tryz.prog 27 = some [.sc (.int .i64 0), .nil, .nil] := by kernel_rfl
@[go_sem] theorem by_27 : bytesOf Tryz.prog 27 = 56 := by kernel_rfl
@[go_sem] theorem sz_28 : szOf Tryz.prog 28 = 3 := by kernel_rfl
@[go_sem] theorem kn_28 : knownT Tryz.prog 28 = true := by kernel_rfl
@[go_sem] theorem ag_28 : aggOf Tryz.prog 28 = true := by kernel_rfl
@[go_sem] theorem us_28 : (Tryz.prog.underlying 28).isSome = true := by kernel_rfl
@[go_sem] theorem fd_28_0 : fieldOf Tryz.prog 28 0 = some (0, 3) := by kernel_rfl
@[go_sem] theorem fd_28_1 : fieldOf Tryz.prog 28 1 = some (1, 25) := by kernel_rfl
@[go_sem] theorem fd_28_2 : fieldOf Tryz.prog 28 2 = some (2, 26) := by kernel_rfl
@[go_sem] theorem el_28 : Go.PA.elemOf Tryz.prog 28 = none := by kernel_rfl
@[go_sem] theorem ar_28 : arrOf Tryz.prog 28 = none := by kernel_rfl
@[go_sem] theorem fk_28 : fieldsKnown Tryz.prog 28 = true := by kernel_rfl
@[go_sem] theorem ze_28 : zeros Tryz.prog 28 = some [.sc (.int .i64 0), .nil, .nil] := by kernel_rfl
@[go_sem] theorem by_28 : bytesOf Tryz.prog 28 = 56 := by kernel_rfl
@[go_sem] theorem sz_29 : szOf Tryz.prog 29 = 1 := by kernel_rfl
@[go_sem] theorem kn_29 : knownT Tryz.prog 29 = true := by kernel_rfl
@[go_sem] theorem ag_29 : aggOf Tryz.prog 29 = false := by kernel_rfl
@[go_sem] theorem us_29 : (Tryz.prog.underlying 29).isSome = true := by kernel_rfl
@[go_sem] theorem el_29 : Go.PA.elemOf Tryz.prog 29 = some 44 := by kernel_rfl
@[go_sem] theorem un_29 : Tryz.prog.underlying 29 = some (.slice 44) := by kernel_rfl
@[go_sem] theorem ze_29 : zeros Tryz.prog 29 = some [.nil] := by kernel_rfl
@[go_sem] theorem az_29 : azero1 Tryz.prog 29 = some (.nil) := by kernel_rfl
@[go_sem] theorem by_29 : bytesOf Tryz.prog 29 = 24 := by kernel_rfl
@[go_sem] theorem sz_30 : szOf Tryz.prog 30 = 1 := by kernel_rfl
@[go_sem] theorem kn_30 : knownT Tryz.prog 30 = true := by kernel_rfl
@[go_sem] theorem ag_30 : aggOf Tryz.prog 30 = false := by kernel_rfl
@[go_sem] theorem us_30 : (Tryz.prog.underlying 30).isSome = true := by kernel_rfl
@[go_sem] theorem el_30 : Go.PA.elemOf Tryz.prog 30 = some 55 := by kernel_rfl
@[go_sem] theorem un_30 : Tryz.prog.underlying 30 = some (.slice 55) := by kernel_rfl
@[go_sem] theorem ze_30 : zeros Tryz.prog 30 = some [.nil] := by kernel_rfl
@[go_sem] theorem az_30 : azero1 Tryz.prog 30 = some (.nil) := by kernel_rfl
@[go_sem] theorem by_30 : bytesOf Tryz.prog 30 = 24 := by kernel_rfl
@[go_sem] theorem sz_31 : szOf Tryz.prog 31 = 3 := by kernel_rfl
@[go_sem] theorem kn_31 : knownT Tryz.prog 31 = true := by kernel_rfl
@[go_sem] theorem ag_31 : aggOf Tryz.prog 31 = true := by kernel_rfl
@[go_sem] theorem us_31 : (Tryz.prog.underlying 31).isSome = true := by kernel_rfl
@[go_sem] theorem fd_31_0 : fieldOf Tryz.prog 31 0 = some (0, 29) := by kernel_rfl
@[go_sem] theorem fd_31_1 : fieldOf Tryz.prog 31 1 = some (1, 22) := by kernel_rfl
@[go_sem] theorem fd_31_2 : fieldOf Tryz.prog 31 2 = some (2, 30) := by kernel_rfl
@[go_sem] theorem el_31 : Go.PA.elemOf Tryz.prog 31 = none := by kernel_rfl
@[go_sem] theorem ar_31 : arrOf Tryz.prog 31 = none := by kernel_rfl
@[go_sem] theorem fk_31 : fieldsKnown Tryz.prog 31 = true := by kernel_rfl
@[go_sem] theorem ze_31 : zeros Tryz.prog 31 = some [.nil, .nil, .nil] := by kernel_rfl
@[go_sem] theorem by_31 : bytesOf Tryz.prog 31 = 72 := by kernel_rfl
@[go_sem] theorem sz_32 : szOf Tryz.prog 32 = 3 := by kernel_rfl
@[go_sem] theorem kn_32 : knownT Tryz.prog 32 = true := by kernel_rfl
@[go_sem] theorem ag_32 : aggOf Tryz.prog 32 = true := by kernel_rfl
@[go_sem] theorem us_32 : (Tryz.prog.underlying 32).isSome = true := by kernel_rfl
@[go_sem] theorem fd_32_0 : fieldOf Tryz.prog 32 0 = some (0, 29) := by kernel_rfl
@[go_sem] theorem fd_32_1 : fieldOf Tryz.prog 32 1 = some (1, 22) := by kernel_rfl
@[go_sem] theorem fd_32_2 : fieldOf Tryz.prog 32 2 = some (2, 30) := by kernel_rfl
@[go_sem] theorem el_32 : Go.PA.elemOf Tryz.prog 32 = none := by kernel_rfl
@[go_sem] theorem ar_32 : arrOf Tryz.prog 32 = none := by kernel_rfl
@[go_sem] theorem fk_32 : fieldsKnown Tryz.prog 32 = true := by kernel_rfl
@[go_sem] theorem ze_32 : zeros Tryz.prog 32 = some [.nil, .nil, .nil] := by kernel_rfl
@[go_sem] theorem by_32 : bytesOf Tryz.prog 32 = 72 := by kernel_rfl
@[go_sem] theorem sz_33 : szOf Tryz.prog 33 = 1 := by kernel_rfl
@[go_sem] theorem kn_33 : knownT Tryz.prog 33 = true := by kernel_rfl
@[go_sem] theorem ag_33 : aggOf Tryz.prog 33 = false := by kernel_rfl
@[go_sem] theorem us_33 : (Tryz.prog.underlying 33).isSome = true := by kernel_rfl
@[go_sem] theorem el_33 : Go.PA.elemOf Tryz.prog 33 = some 46 := by kernel_rfl
@[go_sem] theorem un_33 : Tryz.prog.underlying 33 = some (.slice 46) := by kernel_rfl
@[go_sem] theorem ze_33 : zeros Tryz.prog 33 = some [.nil] := by kernel_rfl
@[go_sem] theorem az_33 : azero1 Tryz.prog 33 = some (.nil) := by kernel_rfl
@[go_sem] theorem by_33 : bytesOf Tryz.prog 33 = 24 := by kernel_rfl
@[go_sem] theorem sz_34 : szOf Tryz.prog 34 = 7 := by kernel_rfl
@[go_sem] theorem kn_34 : knownT Tryz.prog 34 = true := by kernel_rfl
@[go_sem] theorem ag_34 : aggOf Tryz.prog 34 = true := by kernel_rfl
@[go_sem] theorem us_34 : (Tryz.prog.underlying 34).isSome = true := by kernel_rfl
@[go_sem] theorem fd_34_0 : fieldOf Tryz.prog 34 0 = some (0, 28) := by kernel_rfl
@[go_sem] theorem fd_34_1 : fieldOf Tryz.prog 34 1 = some (3, 32) := by kernel_rfl
@[go_sem] theorem fd_34_2 : fieldOf Tryz.prog 34 2 = some (6, 33) := by kernel_rfl
@[go_sem] theorem el_34 : Go.PA.elemOf Tryz.prog 34 = none := by kernel_rfl
@[go_sem] theorem ar_34 : arrOf Tryz.prog 34 = none := by kernel_rfl
@[go_sem] theorem fk_34 : fieldsKnown Tryz.prog 34 = true := by kernel_rfl
@[go_sem] theorem ze_34 : zeros Tryz.prog 34 = some [.sc (.int .i64 0), .nil, .nil, .nil, .nil, .nil, .nil] := by kernel_rfl
@[go_sem] theorem by_34 : bytesOf Tryz.prog 34 = 152 := by kernel_rfl
@[go_sem] theorem sz_35 : szOf Tryz.prog 35 = 7 := by kernel_rfl
@[go_sem] theorem kn_35 : knownT Tryz.prog 35 = true := by kernel_rfl
@[go_sem] theorem ag_35 : aggOf Tryz.prog 35 = true := by kernel_rfl
@[go_sem] theorem us_35 : (Tryz.prog.underlying 35).isSome = true := by kernel_rfl
@[go_sem] theorem fd_35_0 : fieldOf Tryz.prog 35 0 = some (0, 28) := by kernel_rfl
@[go_sem] theorem fd_35_1 : fieldOf Tryz.prog 35 1 = some (3, 32) := by kernel_rfl
@[go_sem] theorem fd_35_2 : fieldOf Tryz.prog 35 2 = some (6, 33) := by kernel_rfl
@[go_sem] theorem el_35 : Go.PA.elemOf Tryz.prog 35 = none := by kernel_rfl
@[go_sem] theorem ar_35 : arrOf Tryz.prog 35 = none := by kernel_rfl
@[go_sem] theorem fk_35 : fieldsKnown Tryz.prog 35 = true := by kernel_rfl
@[go_sem] theorem ze_35 : zeros Tryz.prog 35 = some [.sc (.int .i64 0), .nil, .nil, .nil, .nil, .nil, .nil] := by kernel_rfl
@[go_sem] theorem by_35 : bytesOf Tryz.prog 35 = 152 := by kernel_rfl
@[go_sem] theorem sz_36 : szOf Tryz.prog 36 = 1 := by kernel_rfl
@[go_sem] theorem kn_36 : knownT Tryz.prog 36 = true := by kernel_rfl
@[go_sem] theorem ag_36 : aggOf Tryz.prog 36 = false := by kernel_rfl
@[go_sem] theorem us_36 : (Tryz.prog.underlying 36).isSome = true := by kernel_rfl
@[go_sem] theorem un_36 : Tryz.prog.underlying 36 = some (.int .i64) := by kernel_rfl
@[go_sem] theorem ze_36 : zeros Tryz.prog 36 = some [.sc (.int .i64 0)] := by kernel_rfl
@[go_sem] theorem az_36 : azero1 Tryz.prog 36 = some (.sc (.int .i64 0)) := by kernel_rfl
@[go_sem] theorem by_36 : bytesOf Tryz.prog 36 = 8 := by kernel_rfl
@[go_sem] theorem sz_43 : szOf Tryz.prog 43 = 5 := by kernel_rfl
@[go_sem] theorem kn_43 : knownT Tryz.prog 43 = true := by kernel_rfl
@[go_sem] theorem ag_43 : aggOf Tryz.prog 43 = true := by kernel_rfl
@[go_sem] theorem us_43 : (Tryz.prog.underlying 43).isSome = true := by kernel_rfl
@[go_sem] theorem fd_43_0 : fieldOf Tryz.prog 43 0 = some (0, 3) := by kernel_rfl
@[go_sem] theorem fd_43_1 : fieldOf Tryz.prog 43 1 = some (1, 3) := by kernel_rfl
@[go_sem] theorem fd_43_2 : fieldOf Tryz.prog 43 2 = some (2, 3) := by kernel_rfl
@[go_sem] theorem fd_43_3 : fieldOf Tryz.prog 43 3 = some (3, 3) := by kernel_rfl
@[go_sem] theorem fd_43_4 : fieldOf Tryz.prog 43 4 = some (4, 3) := by kernel_rfl
@[go_sem] theorem el_43 : Go.PA.elemOf Tryz.prog 43 = none := by kernel_rfl
@[go_sem] theorem ar_43 : arrOf Tryz.prog 43 = none := by kernel_rfl
@[go_sem] theorem fk_43 : fieldsKnown Tryz.prog 43 = true := by kernel_rfl
@[go_sem] theorem sg_43 : sigOf Tryz.prog 43 = some [.int, .int, .int, .int, .int] := by kernel_rfl
@[go_sem] theorem ze_43 : zeros Tryz.prog 43 = some [.sc (.int .i64 0), .sc (.int .i64 0), .sc (.int .i64 0), .sc (.int .i64 0), .sc (.int .i64 0)] := by kernel_rfl
@[go_sem] theorem by_43 : bytesOf Tryz.prog 43 = 40 := by kernel_rfl
@[go_sem] theorem sz_44 : szOf Tryz.prog 44 = 5 := by kernel_rfl
@[go_sem] theorem kn_44 : knownT Tryz.prog 44 = true := by kernel_rfl
@[go_sem] theorem ag_44 : aggOf Tryz.prog 44 = true := by kernel_rfl
@[go_sem] theorem us_44 : (Tryz.prog.underlying 44).isSome = true := by kernel_rfl
@[go_sem] theorem fd_44_0 : fieldOf Tryz.prog 44 0 = some (0, 3) := by kernel_rfl
@[go_sem] theorem fd_44_1 : fieldOf Tryz.prog 44 1 = some (1, 3) := by kernel_rfl
@[go_sem] theorem fd_44_2 : fieldOf Tryz.prog 44 2 = some (2, 3) := by kernel_rfl
@[go_sem] theorem fd_44_3 : fieldOf Tryz.prog 44 3 = some (3, 3) := by kernel_rfl
@[go_sem] theorem fd_44_4 : fieldOf Tryz.prog 44 4 = some (4, 3) := by kernel_rfl
@[go_sem] theorem el_44 : Go.PA.elemOf Tryz.prog 44 = none := by kernel_rfl
@[go_sem] theorem ar_44 : arrOf Tryz.prog 44 = none := by kernel_rfl
@[go_sem] theorem fk_44 : fieldsKnown Tryz.prog 44 = true := by kernel_rfl
@[go_sem] theorem sg_44 : sigOf Tryz.prog 44 = some [.int, .int, .int, .int, .int] := by kernel_rfl
@[go_sem] theorem ze_44 : zeros Tryz.prog 44 = some [.sc (.int .i64 0), .sc (.int .i64 0), .sc (.int .i64 0), .sc (.int .i64 0), .sc (.int .i64 0)] := by kernel_rfl
@[go_sem] theorem by_44 : bytesOf Tryz.prog 44 = 40 := by kernel_rfl
@[go_sem] theorem sz_45 : szOf Tryz.prog 45 = 7 := by kernel_rfl
@[go_sem] theorem kn_45 : knownT Tryz.prog 45 = true := by kernel_rfl
@[go_sem] theorem ag_45 : aggOf Tryz.prog 45 = true := by kernel_rfl
@[go_sem] theorem us_45 : (Tryz.prog.underlying 45).isSome = true := by kernel_rfl
@[go_sem] theorem fd_45_0 : fieldOf Tryz.prog 45 0 = some (0, 44) := by kernel_rfl
@[go_sem] theorem fd_45_1 : fieldOf Tryz.prog 45 1 = some (5, 3) := by kernel_rfl
@[go_sem] theorem fd_45_2 : fieldOf Tryz.prog 45 2 = some (6, 3) := by kernel_rfl
@[go_sem] theorem el_45 : Go.PA.elemOf Tryz.prog 45 = none := by kernel_rfl
@[go_sem] theorem ar_45 : arrOf Tryz.prog 45 = none := by kernel_rfl
@[go_sem] theorem fk_45 : fieldsKnown Tryz.prog 45 = true := by kernel_rfl
@[go_sem] theorem sg_45 : sigOf Tryz.prog 45 = some [.int, .int, .int, .int, .int, .int, .int] := by kernel_rfl
@[go_sem] theorem ze_45 : zeros Tryz.prog 45 = some [.sc (.int .i64 0), .sc (.int .i64 0), .sc (.int .i64 0), .sc (.int .i64 0), .sc (.int .i64 0), .sc (.int .i64 0), .sc (.int .i64 0)] := by kernel_rfl
@[go_sem] theorem by_45 : bytesOf Tryz.prog 45 = 56 := by kernel_rfl
@[go_sem] theorem sz_46 : szOf Tryz.prog 46 = 7 := by kernel_rfl
@[go_sem] theorem kn_46 : knownT Tryz.prog 46 = true := by kernel_rfl
@[go_sem] theorem ag_46 : aggOf Tryz.prog 46 = true := by kernel_rfl
@[go_sem] theorem us_46 : (Tryz.prog.underlying 46).isSome = true := by kernel_rfl
@[go_sem] theorem fd_46_0 : fieldOf Tryz.prog 46 0 = some (0, 44) := by kernel_rfl
@[go_sem] theorem fd_46_1 : fieldOf Tryz.prog 46 1 = some (5, 3) := by kernel_rfl
@[go_sem] theorem fd_46_2 : fieldOf Tryz.prog 46 2 = some (6, 3) := by kernel_rfl
@[go_sem] theorem el_46 : Go.PA.elemOf Tryz.prog 46 = none := by kernel_rfl
@[go_sem] theorem ar_46 : arrOf Tryz.prog 46 = none := by kernel_rfl
@[go_sem] theorem fk_46 : fieldsKnown Tryz.prog 46 = true := by kernel_rfl
@[go_sem] theorem sg_46 : sigOf Tryz.prog 46 = some [.int, .int, .int, .int, .int, .int, .int] := by kernel_rfl
@[go_sem] theorem ze_46 : zeros Tryz.prog 46 = some [.sc (.int .i64 0), .sc (.int .i64 0), .sc (.int .i64 0), .sc (.int .i64 0), .sc (.int .i64 0), .sc (.int .i64 0), .sc (.int .i64 0)] := by kernel_rfl
@[go_sem] theorem by_46 : bytesOf Tryz.prog 46 = 56 := by kernel_rfl
@[go_sem] theorem sz_47 : szOf Tryz.prog 47 = 6 := by kernel_rfl
@[go_sem] theorem kn_47 : knownT Tryz.prog 47 = true := by kernel_rfl
@[go_sem] theorem ag_47 : aggOf Tryz.prog 47 = true := by kernel_rfl
@[go_sem] theorem us_47 : (Tryz.prog.underlying 47).isSome = true := by kernel_rfl
@[go_sem] theorem fd_47_0 : fieldOf Tryz.prog 47 0 = some (0, 3) := by kernel_rfl
@[go_sem] theorem fd_47_1 : fieldOf Tryz.prog 47 1 = some (1, 3) := by kernel_rfl
@[go_sem] theorem fd_47_2 : fieldOf Tryz.prog 47 2 = some (2, 3) := by kernel_rfl
@[go_sem] theorem fd_47_3 : fieldOf Tryz.prog 47 3 = some (3, 3) := by kernel_rfl
@[go_sem] theorem fd_47_4 : fieldOf Tryz.prog 47 4 = some (4, 3) := by kernel_rfl
@[go_sem] theorem fd_47_5 : fieldOf Tryz.prog 47 5 = some (5, 3) := by kernel_rfl
@[go_sem] theorem el_47 : Go.PA.elemOf Tryz.prog 47 = none := by kernel_rfl
@[go_sem] theorem ar_47 : arrOf Tryz.prog 47 = none := by kernel_rfl
@[go_sem] theorem fk_47 : fieldsKnown Tryz.prog 47 = true := by kernel_rfl
@[go_sem] theorem sg_47 : sigOf Tryz.prog 47 = some [.int, .int, .int, .int, .int, .int] := by kernel_rfl
@[go_sem] theorem ze_47 : zeros Tryz.prog 47 = some [.sc (.int .i64 0), .sc (.int .i64 0), .sc (.int .i64 0), .sc (.int .i64 0), .sc (.int .i64 0), .sc (.int .i64 0)] := by kernel_rfl
@[go_sem] theorem by_47 : bytesOf Tryz.prog 47 = 48 := by kernel_rfl
@[go_sem] theorem sz_48 : szOf Tryz.prog 48 = 6 := by kernel_rfl
@[go_sem] theorem kn_48 : knownT Tryz.prog 48 = true := by kernel_rfl
@[go_sem] theorem ag_48 : aggOf Tryz.prog 48 = true := by kernel_rfl
@[go_sem] theorem us_48 : (Tryz.prog.underlying 48).isSome = true := by kernel_rfl
@[go_sem] theorem fd_48_0 : fieldOf Tryz.prog 48 0 = some (0, 3) := by kernel_rfl
@[go_sem] theorem fd_48_1 : fieldOf Tryz.prog 48 1 = some (1, 3) := by kernel_rfl
@[go_sem] theorem fd_48_2 : fieldOf Tryz.prog 48 2 = some (2, 3) := by kernel_rfl
@[go_sem] theorem fd_48_3 : fieldOf Tryz.prog 48 3 = some (3, 3) := by kernel_rfl
@[go_sem] theorem fd_48_4 : fieldOf Tryz.prog 48 4 = some (4, 3) := by kernel_rfl
@[go_sem] theorem fd_48_5 : fieldOf Tryz.prog 48 5 = some (5, 3) := by kernel_rfl
@[go_sem] theorem el_48 : Go.PA.elemOf Tryz.prog 48 = none := by kernel_rfl
@[go_sem] theorem ar_48 : arrOf Tryz.prog 48 = none := by kernel_rfl
@[go_sem] theorem fk_48 : fieldsKnown Tryz.prog 48 = true := by kernel_rfl
@[go_sem] theorem sg_48 : sigOf Tryz.prog 48 = some [.int, .int, .int, .int, .int, .int] := by kernel_rfl
@[go_sem] theorem ze_48 : zeros Tryz.prog 48 = some [.sc (.int .i64 0), .sc (.int .i64 0), .sc (.int .i64 0), .sc (.int .i64 0), .sc (.int .i64 0), .sc (.int .i64 0)] := by kernel_rfl
@[go_sem] theorem by_48 : bytesOf Tryz.prog 48 = 48 := by kernel_rfl
@[go_sem] theorem sz_54 : szOf Tryz.prog 54 = 3 := by kernel_rfl
@[go_sem] theorem kn_54 : knownT Tryz.prog 54 = true := by kernel_rfl
@[go_sem] theorem ag_54 : aggOf Tryz.prog 54 = true := by kernel_rfl
@[go_sem] theorem us_54 : (Tryz.prog.underlying 54).isSome = true := by kernel_rfl
@[go_sem] theorem fd_54_0 : fieldOf Tryz.prog 54 0 = some (0, 3) := by kernel_rfl
@[go_sem] theorem fd_54_1 : fieldOf Tryz.prog 54 1 = some (1, 3) := by kernel_rfl
@[go_sem] theorem fd_54_2 : fieldOf Tryz.prog 54 2 = some (2, 29) := by kernel_rfl
@[go_sem] theorem el_54 : Go.PA.elemOf Tryz.prog 54 = none := by kernel_rfl
@[go_sem] theorem ar_54 : arrOf Tryz.prog 54 = none := by kernel_rfl
@[go_sem] theorem fk_54 : fieldsKnown Tryz.prog 54 = true := by kernel_rfl
@[go_sem] theorem ze_54 : zeros Tryz.prog 54 = some [.sc (.int .i64 0), .sc (.int .i64 0), .nil] := by kernel_rfl
@[go_sem] theorem by_54 : bytesOf Tryz.prog 54 = 40 := by kernel_rfl
@[go_sem] theorem sz_55 : szOf Tryz.prog 55 = 3 := by kernel_rfl
@[go_sem] theorem kn_55 : knownT Tryz.prog 55 = true := by kernel_rfl
@[go_sem] theorem ag_55 : aggOf Tryz.prog 55 = true := by kernel_rfl
@[go_sem] theorem us_55 : (Tryz.prog.underlying 55).isSome = true := by kernel_rfl
@[go_sem] theorem fd_55_0 : fieldOf Tryz.prog 55 0 = some (0, 3) := by kernel_rfl
@[go_sem] theorem fd_55_1 : fieldOf Tryz.prog 55 1 = some (1, 3) := by kernel_rfl
@[go_sem] theorem fd_55_2 : fieldOf Tryz.prog 55 2 = some (2, 29) := by kernel_rfl
@[go_sem] theorem el_55 : Go.PA.elemOf Tryz.prog 55 = none := by kernel_rfl
@[go_sem] theorem ar_55 : arrOf Tryz.prog 55 = none := by kernel_rfl
@[go_sem] theorem fk_55 : fieldsKnown Tryz.prog 55 = true := by kernel_rfl
@[go_sem] theorem ze_55 : zeros Tryz.prog 55 = some [.sc (.int .i64 0), .sc (.int .i64 0), .nil] := by kernel_rfl
@[go_sem] theorem by_55 : bytesOf Tryz.prog 55 = 40 := by kernel_rfl
@[go_sem] theorem sz_70 : szOf Tryz.prog 70 = 9 := by kernel_rfl
@[go_sem] theorem kn_70 : knownT Tryz.prog 70 = true := by kernel_rfl
@[go_sem] theorem ag_70 : aggOf Tryz.prog 70 = true := by kernel_rfl
@[go_sem] theorem us_70 : (Tryz.prog.underlying 70).isSome = true := by kernel_rfl
@[go_sem] theorem el_70 : Go.PA.elemOf Tryz.prog 70 = none := by kernel_rfl
@[go_sem] theorem ar_70 : arrOf Tryz.prog 70 = some (3, 28) := by kernel_rfl
@[go_sem] theorem fk_70 : fieldsKnown Tryz.prog 70 = true := by kernel_rfl
@[go_sem] theorem fd_70_0 : fieldOf Tryz.prog 70 0 = none := by kernel_rfl
@[go_sem] theorem fd_70_1 : fieldOf Tryz.prog 70 1 = none := by kernel_rfl
@[go_sem] theorem fd_70_2 : fieldOf Tryz.prog 70 2 = none := by kernel_rfl
@[go_sem] theorem ze_70 : zeros Tryz.prog 70 = some [.sc (.int .i64 0), .nil, .nil, .sc (.int .i64 0), .nil, .nil, .sc (.int .i64 0), .nil, .nil] := by kernel_rfl
@[go_sem] theorem by_70 : bytesOf Tryz.prog 70 = 168 := by kernel_rfl
@[go_sem] theorem sz_73 : szOf Tryz.prog 73 = 21 := by kernel_rfl
@[go_sem] theorem kn_73 : knownT Tryz.prog 73 = true := by kernel_rfl
@[go_sem] theorem ag_73 : aggOf Tryz.prog 73 = true := by kernel_rfl
@[go_sem] theorem us_73 : (Tryz.prog.underlying 73).isSome = true := by kernel_rfl
@[go_sem] theorem el_73 : Go.PA.elemOf Tryz.prog 73 = none := by kernel_rfl
@[go_sem] theorem ar_73 : arrOf Tryz.prog 73 = some (3, 35) := by kernel_rfl
@[go_sem] theorem fk_73 : fieldsKnown Tryz.prog 73 = true := by kernel_rfl
@[go_sem] theorem fd_73_0 : fieldOf Tryz.prog 73 0 = none := by kernel_rfl
@[go_sem] theorem fd_73_1 : fieldOf Tryz.prog 73 1 = none := by kernel_rfl
@[go_sem] theorem fd_73_2 : fieldOf Tryz.prog 73 2 = none := by kernel_rfl
@[go_sem] theorem ze_73 : zeros Tryz.prog 73 = some [.sc (.int .i64 0), .nil, .nil, .nil, .nil, .nil, .nil, .sc (.int .i64 0), .nil, .nil, .nil, .nil, .nil, .nil, .sc (.int .i64 0), .nil, .nil, .nil, .nil, .nil, .nil] := by kernel_rfl
@[go_sem] theorem by_73 : bytesOf Tryz.prog 73 = 456 := by kernel_rfl
@[go_sem] theorem sz_75 : szOf Tryz.prog 75 = 10 := by kernel_rfl
@[go_sem] theorem kn_75 : knownT Tryz.prog 75 = true := by kernel_rfl
@[go_sem] theorem ag_75 : aggOf Tryz.prog 75 = true := by kernel_rfl
@[go_sem] theorem us_75 : (Tryz.prog.underlying 75).isSome = true := by kernel_rfl
@[go_sem] theorem el_75 : Go.PA.elemOf Tryz.prog 75 = none := by kernel_rfl
@[go_sem] theorem ar_75 : arrOf Tryz.prog 75 = some (2, 44) := by kernel_rfl
@[go_sem] theorem fk_75 : fieldsKnown Tryz.prog 75 = true := by kernel_rfl
@[go_sem] theorem fd_75_0 : fieldOf Tryz.prog 75 0 = none := by kernel_rfl
@[go_sem] theorem fd_75_1 : fieldOf Tryz.prog 75 1 = none := by kernel_rfl
@[go_sem] theorem ze_75 : zeros Tryz.prog 75 = some [.sc (.int .i64 0), .sc (.int .i64 0), .sc (.int .i64 0), .sc (.int .i64 0), .sc (.int .i64 0), .sc (.int .i64 0), .sc (.int .i64 0), .sc (.int .i64 0), .sc (.int .i64 0), .sc (.int .i64 0)] := by kernel_rfl
@[go_sem] theorem by_75 : bytesOf Tryz.prog 75 = 80 := by kernel_rfl
@[go_sem] theorem sz_76 : szOf Tryz.prog 76 = 2 := by kernel_rfl
@[go_sem] theorem kn_76 : knownT Tryz.prog 76 = true := by kernel_rfl
@[go_sem] theorem ag_76 : aggOf Tryz.prog 76 = true := by kernel_rfl
@[go_sem] theorem us_76 : (Tryz.prog.underlying 76).isSome = true := by kernel_rfl
@[go_sem] theorem el_76 : Go.PA.elemOf Tryz.prog 76 = none := by kernel_rfl
@[go_sem] theorem ar_76 : arrOf Tryz.prog 76 = some (2, 3) := by kernel_rfl
@[go_sem] theorem fk_76 : fieldsKnown Tryz.prog 76 = true := by kernel_rfl
@[go_sem] theorem fd_76_0 : fieldOf Tryz.prog 76 0 = none := by kernel_rfl
@[go_sem] theorem fd_76_1 : fieldOf Tryz.prog 76 1 = none := by kernel_rfl
@[go_sem] theorem ze_76 : zeros Tryz.prog 76 = some [.sc (.int .i64 0), .sc (.int .i64 0)] := by kernel_rfl
@[go_sem] theorem by_76 : bytesOf Tryz.prog 76 = 16 := by kernel_rfl
@[go_sem] theorem sz_77 : szOf Tryz.prog 77 = 6 := by kernel_rfl
@[go_sem] theorem kn_77 : knownT Tryz.prog 77 = true := by kernel_rfl
@[go_sem] theorem ag_77 : aggOf Tryz.prog 77 = true := by kernel_rfl
@[go_sem] theorem us_77 : (Tryz.prog.underlying 77).isSome = true := by kernel_rfl
@[go_sem] theorem el_77 : Go.PA.elemOf Tryz.prog 77 = none := by kernel_rfl
@[go_sem] theorem ar_77 : arrOf Tryz.prog 77 = some (3, 76) := by kernel_rfl
@[go_sem] theorem fk_77 : fieldsKnown Tryz.prog 77 = true := by kernel_rfl
@[go_sem] theorem fd_77_0 : fieldOf Tryz.prog 77 0 = none := by kernel_rfl
@[go_sem] theorem fd_77_1 : fieldOf Tryz.prog 77 1 = none := by kernel_rfl
@[go_sem] theorem fd_77_2 : fieldOf Tryz.prog 77 2 = none := by kernel_rfl
@[go_sem] theorem ze_77 : zeros Tryz.prog 77 = some [.sc (.int .i64 0), .sc (.int .i64 0), .sc (.int .i64 0), .sc (.int .i64 0), .sc (.int .i64 0), .sc (.int .i64 0)] := by kernel_rfl
@[go_sem] theorem by_77 : bytesOf Tryz.prog 77 = 48 := by kernel_rfl
@[go_sem] theorem sz_80 : szOf Tryz.prog 80 = 2 := by kernel_rfl
@[go_sem] theorem kn_80 : knownT Tryz.prog 80 = true := by kernel_rfl
@[go_sem] theorem ag_80 : aggOf Tryz.prog 80 = true := by kernel_rfl
@[go_sem] theorem us_80 : (Tryz.prog.underlying 80).isSome = true := by kernel_rfl
@[go_sem] theorem fd_80_0 : fieldOf Tryz.prog 80 0 = some (0, 22) := by kernel_rfl
@[go_sem] theorem fd_80_1 : fieldOf Tryz.prog 80 1 = some (1, 3) := by kernel_rfl
@[go_sem] theorem el_80 : Go.PA.elemOf Tryz.prog 80 = none := by kernel_rfl
@[go_sem] theorem ar_80 : arrOf Tryz.prog 80 = none := by kernel_rfl
@[go_sem] theorem fk_80 : fieldsKnown Tryz.prog 80 = true := by kernel_rfl
@[go_sem] theorem ze_80 : zeros Tryz.prog 80 = some [.nil, .sc (.int .i64 0)] := by kernel_rfl
@[go_sem] theorem by_80 : bytesOf Tryz.prog 80 = 32 := by kernel_rfl
@[go_sem] theorem sz_81 : szOf Tryz.prog 81 = 2 := by kernel_rfl
@[go_sem] theorem kn_81 : knownT Tryz.prog 81 = true := by kernel_rfl
@[go_sem] theorem ag_81 : aggOf Tryz.prog 81 = true := by kernel_rfl
@[go_sem] theorem us_81 : (Tryz.prog.underlying 81).isSome = true := by kernel_rfl
@[go_sem] theorem fd_81_0 : fieldOf Tryz.prog 81 0 = some (0, 22) := by kernel_rfl
@[go_sem] theorem fd_81_1 : fieldOf Tryz.prog 81 1 = some (1, 3) := by kernel_rfl
@[go_sem] theorem el_81 : Go.PA.elemOf Tryz.prog 81 = none := by kernel_rfl
@[go_sem] theorem ar_81 : arrOf Tryz.prog 81 = none := by kernel_rfl
@[go_sem] theorem fk_81 : fieldsKnown Tryz.prog 81 = true := by kernel_rfl
@[go_sem] theorem ze_81 : zeros Tryz.prog 81 = some [.nil, .sc (.int .i64 0)] := by kernel_rfl
@[go_sem] theorem by_81 : bytesOf Tryz.prog 81 = 32 := by kernel_rfl
@[go_sem] theorem sz_97 : szOf Tryz.prog 97 = 2 := by kernel_rfl
@[go_sem] theorem kn_97 : knownT Tryz.prog 97 = true := by kernel_rfl
@[go_sem] theorem ag_97 : aggOf Tryz.prog 97 = true := by kernel_rfl
@[go_sem] theorem us_97 : (Tryz.prog.underlying 97).isSome = true := by kernel_rfl
@[go_sem] theorem fd_97_0 : fieldOf Tryz.prog 97 0 = some (0, 3) := by kernel_rfl
@[go_sem] theorem fd_97_1 : fieldOf Tryz.prog 97 1 = some (1, 3) := by kernel_rfl
@[go_sem] theorem el_97 : Go.PA.elemOf Tryz.prog 97 = none := by kernel_rfl
@[go_sem] theorem ar_97 : arrOf Tryz.prog 97 = none := by kernel_rfl
@[go_sem] theorem fk_97 : fieldsKnown Tryz.prog 97 = true := by kernel_rfl
@[go_sem] theorem sg_97 : sigOf Tryz.prog 97 = some [.int, .int] := by kernel_rfl
@[go_sem] theorem ze_97 : zeros Tryz.prog 97 = some [.sc (.int .i64 0), .sc (.int .i64 0)] := by kernel_rfl
@[go_sem] theorem by_97 : bytesOf Tryz.prog 97 = 16 := by kernel_rfl
@[go_sem] theorem sz_98 : szOf Tryz.prog 98 = 2 := by kernel_rfl
@[go_sem] theorem kn_98 : knownT Tryz.prog 98 = true := by kernel_rfl
@[go_sem] theorem ag_98 : aggOf Tryz.prog 98 = true := by kernel_rfl
@[go_sem] theorem us_98 : (Tryz.prog.underlying 98).isSome = true := by kernel_rfl
@[go_sem] theorem fd_98_0 : fieldOf Tryz.prog 98 0 = some (0, 3) := by kernel_rfl
@[go_sem] theorem fd_98_1 : fieldOf Tryz.prog 98 1 = some (1, 3) := by kernel_rfl
@[go_sem] theorem el_98 : Go.PA.elemOf Tryz.prog 98 = none := by kernel_rfl
@[go_sem] theorem ar_98 : arrOf Tryz.prog 98 = none := by kernel_rfl
@[go_sem] theorem fk_98 : fieldsKnown Tryz.prog 98 = true := by kernel_rfl
@[go_sem] theorem sg_98 : sigOf Tryz.prog 98 = some [.int, .int] := by kernel_rfl
@[go_sem] theorem ze_98 : zeros Tryz.prog 98 = some [.sc (.int .i64 0), .sc (.int .i64 0)] := by kernel_rfl
@[go_sem] theorem by_98 : bytesOf Tryz.prog 98 = 16 := by kernel_rfl
@[go_sem] theorem sz_106 : szOf Tryz.prog 106 = 1 := by kernel_rfl
@[go_sem] theorem kn_106 : knownT Tryz.prog 106 = true := by kernel_rfl
@[go_sem] theorem ag_106 : aggOf Tryz.prog 106 = false := by kernel_rfl
@[go_sem] theorem us_106 : (Tryz.prog.underlying 106).isSome = true := by kernel_rfl
@[go_sem] theorem ze_106 : zeros Tryz.prog 106 = some [.sc (.pointer none)] := by kernel_rfl
@[go_sem] theorem by_106 : bytesOf Tryz.prog 106 = 8 := by kernel_rfl
@[go_sem] theorem sz_107 : szOf Tryz.prog 107 = 1 := by kernel_rfl
@[go_sem] theorem kn_107 : knownT Tryz.prog 107 = true := by kernel_rfl
@[go_sem] theorem ag_107 : aggOf Tryz.prog 107 = false := by kernel_rfl
@[go_sem] theorem us_107 : (Tryz.prog.underlying 107).isSome = true := by kernel_rfl
@[go_sem] theorem ze_107 : zeros Tryz.prog 107 = some [.sc (.pointer none)] := by kernel_rfl
@[go_sem] theorem by_107 : bytesOf Tryz.prog 107 = 8 := by kernel_rfl
@[go_sem] theorem sz_129 : szOf Tryz.prog 129 = 1 := by kernel_rfl
@[go_sem] theorem kn_129 : knownT Tryz.prog 129 = true := by kernel_rfl
@[go_sem] theorem ag_129 : aggOf Tryz.prog 129 = false := by kernel_rfl
@[go_sem] theorem us_129 : (Tryz.prog.underlying 129).isSome = true := by kernel_rfl
@[go_sem] theorem ze_129 : zeros Tryz.prog 129 = some [.sc (.pointer none)] := by kernel_rfl
@[go_sem] theorem by_129 : bytesOf Tryz.prog 129 = 8 := by kernel_rfl
@[go_sem] theorem sz_133 : szOf Tryz.prog 133 = 4 := by kernel_rfl
@[go_sem] theorem kn_133 : knownT Tryz.prog 133 = true := by kernel_rfl
@[go_sem] theorem ag_133 : aggOf Tryz.prog 133 = true := by kernel_rfl
@[go_sem] theorem us_133 : (Tryz.prog.underlying 133).isSome = true := by kernel_rfl
@[go_sem] theorem fd_133_0 : fieldOf Tryz.prog 133 0 = some (0, 3) := by kernel_rfl
@[go_sem] theorem fd_133_1 : fieldOf Tryz.prog 133 1 = some (1, 3) := by kernel_rfl
@[go_sem] theorem fd_133_2 : fieldOf Tryz.prog 133 2 = some (2, 3) := by kernel_rfl
@[go_sem] theorem fd_133_3 : fieldOf Tryz.prog 133 3 = some (3, 25) := by kernel_rfl
@[go_sem] theorem el_133 : Go.PA.elemOf Tryz.prog 133 = none := by kernel_rfl
@[go_sem] theorem ar_133 : arrOf Tryz.prog 133 = none := by kernel_rfl
@[go_sem] theorem fk_133 : fieldsKnown Tryz.prog 133 = true := by kernel_rfl
@[go_sem] theorem ze_133 : zeros Tryz.prog 133 = some [.sc (.int .i64 0), .sc (.int .i64 0), .sc (.int .i64 0), .nil] := by kernel_rfl
@[go_sem] theorem by_133 : bytesOf Tryz.prog 133 = 48 := by kernel_rfl
@[go_sem] theorem sz_134 : szOf Tryz.prog 134 = 4 := by kernel_rfl
@[go_sem] theorem kn_134 : knownT Tryz.prog 134 = true := by kernel_rfl
@[go_sem] theorem ag_134 : aggOf Tryz.prog 134 = true := by kernel_rfl
@[go_sem] theorem us_134 : (Tryz.prog.underlying 134).isSome = true := by kernel_rfl
@[go_sem] theorem fd_134_0 : fieldOf Tryz.prog 134 0 = some (0, 3) := by kernel_rfl
@[go_sem] theorem fd_134_1 : fieldOf Tryz.prog 134 1 = some (1, 3) := by kernel_rfl
@[go_sem] theorem fd_134_2 : fieldOf Tryz.prog 134 2 = some (2, 3) := by kernel_rfl
@[go_sem] theorem fd_134_3 : fieldOf Tryz.prog 134 3 = some (3, 25) := by kernel_rfl
@[go_sem] theorem el_134 : Go.PA.elemOf Tryz.prog 134 = none := by kernel_rfl
@[go_sem] theorem ar_134 : arrOf Tryz.prog 134 = none := by kernel_rfl
@[go_sem] theorem fk_134 : fieldsKnown Tryz.prog 134 = true := by kernel_rfl
@[go_sem] theorem ze_134 : zeros Tryz.prog 134 = some [.sc (.int .i64 0), .sc (.int .i64 0), .sc (.int .i64 0), .nil] := by kernel_rfl
@[go_sem] theorem by_134 : bytesOf Tryz.prog 134 = 48 := by kernel_rfl
@[go_sem] theorem sz_160 : szOf Tryz.prog 160 = 1 := by kernel_rfl
@[go_sem] theorem kn_160 : knownT Tryz.prog 160 = true := by kernel_rfl
@[go_sem] theorem ag_160 : aggOf Tryz.prog 160 = false := by kernel_rfl
@[go_sem] theorem us_160 : (Tryz.prog.underlying 160).isSome = true := by kernel_rfl
@[go_sem] theorem ze_160 : zeros Tryz.prog 160 = some [.sc (.pointer none)] := by kernel_rfl
@[go_sem] theorem by_160 : bytesOf Tryz.prog 160 = 8 := by kernel_rfl
@[go_sem] theorem sz_166 : szOf Tryz.prog 166 = 1 := by kernel_rfl
@[go_sem] theorem kn_166 : knownT Tryz.prog 166 = true := by kernel_rfl
@[go_sem] theorem ag_166 : aggOf Tryz.prog 166 = false := by kernel_rfl
@[go_sem] theorem us_166 : (Tryz.prog.underlying 166).isSome = true := by kernel_rfl
@[go_sem] theorem mp_166 : mapOf Tryz.prog 166 = some (3, .int .i64, 4) := by kernel_rfl
@[go_sem] theorem mi_166 : IMap Tryz.prog 166 (.sc (.bool false)) := ⟨_, _, mp_166, by kernel_rfl⟩
@[go_sem] theorem im_166 : isMapT Tryz.prog 166 = true := by kernel_rfl
@[go_sem] theorem by_166 : bytesOf Tryz.prog 166 = 8 := by kernel_rfl
@[go_sem] theorem sz_168 : szOf Tryz.prog 168 = 3 := by kernel_rfl
@[go_sem] theorem kn_168 : knownT Tryz.prog 168 = true := by kernel_rfl
@[go_sem] theorem ag_168 : aggOf Tryz.prog 168 = true := by kernel_rfl
@[go_sem] theorem us_168 : (Tryz.prog.underlying 168).isSome = true := by kernel_rfl
@[go_sem] theorem fd_168_0 : fieldOf Tryz.prog 168 0 = some (0, 3) := by kernel_rfl
@[go_sem] theorem fd_168_1 : fieldOf Tryz.prog 168 1 = some (1, 3) := by kernel_rfl
@[go_sem] theorem fd_168_2 : fieldOf Tryz.prog 168 2 = some (2, 3) := by kernel_rfl
@[go_sem] theorem el_168 : Go.PA.elemOf Tryz.prog 168 = none := by kernel_rfl
@[go_sem] theorem ar_168 : arrOf Tryz.prog 168 = none := by kernel_rfl
@[go_sem] theorem fk_168 : fieldsKnown Tryz.prog 168 = true := by kernel_rfl
@[go_sem] theorem sg_168 : sigOf Tryz.prog 168 = some [.int, .int, .int] := by kernel_rfl
@[go_sem] theorem ze_168 : zeros Tryz.prog 168 = some [.sc (.int .i64 0), .sc (.int .i64 0), .sc (.int .i64 0)] := by kernel_rfl
@[go_sem] theorem by_168 : bytesOf Tryz.prog 168 = 24 := by kernel_rfl
@[go_sem] theorem sz_169 : szOf Tryz.prog 169 = 3 := by kernel_rfl
@[go_sem] theorem kn_169 : knownT Tryz.prog 169 = true := by kernel_rfl
@[go_sem] theorem ag_169 : aggOf Tryz.prog 169 = true := by kernel_rfl
@[go_sem] theorem us_169 : (Tryz.prog.underlying 169).isSome = true := by kernel_rfl
@[go_sem] theorem fd_169_0 : fieldOf Tryz.prog 169 0 = some (0, 3) := by kernel_rfl
@[go_sem] theorem fd_169_1 : fieldOf Tryz.prog 169 1 = some (1, 3) := by kernel_rfl
@[go_sem] theorem fd_169_2 : fieldOf Tryz.prog 169 2 = some (2, 3) := by kernel_rfl
@[go_sem] theorem el_169 : Go.PA.elemOf Tryz.prog 169 = none := by kernel_rfl
@[go_sem] theorem ar_169 : arrOf Tryz.prog 169 = none := by kernel_rfl
@[go_sem] theorem fk_169 : fieldsKnown Tryz.prog 169 = true := by kernel_rfl
@[go_sem] theorem sg_169 : sigOf Tryz.prog 169 = some [.int, .int, .int] := by kernel_rfl
@[go_sem] theorem ze_169 : zeros Tryz.prog 169 = some [.sc (.int .i64 0), .sc (.int .i64 0), .sc (.int .i64 0)] := by kernel_rfl
@[go_sem] theorem by_169 : bytesOf Tryz.prog 169 = 24 := by kernel_rfl
@[go_sem] theorem sz_171 : szOf Tryz.prog 171 = 1 := by kernel_rfl
@[go_sem] theorem kn_171 : knownT Tryz.prog 171 = true := by kernel_rfl
@[go_sem] theorem ag_171 : aggOf Tryz.prog 171 = false := by kernel_rfl
@[go_sem] theorem us_171 : (Tryz.prog.underlying 171).isSome = true := by kernel_rfl
@[go_sem] theorem un_171 : Tryz.prog.underlying 171 = some (.int .u64) := by kernel_rfl
@[go_sem] theorem ze_171 : zeros Tryz.prog 171 = some [.sc (.int .u64 0)] := by kernel_rfl
@[go_sem] theorem az_171 : azero1 Tryz.prog 171 = some (.sc (.int .u64 0)) := by kernel_rfl
@[go_sem] theorem by_171 : bytesOf Tryz.prog 171 = 8 := by kernel_rfl
@[go_sem] theorem sz_180 : szOf Tryz.prog 180 = 1 := by kernel_rfl
@[go_sem] theorem kn_180 : knownT Tryz.prog 180 = true := by kernel_rfl
@[go_sem] theorem ag_180 : aggOf Tryz.prog 180 = false := by kernel_rfl
@[go_sem] theorem us_180 : (Tryz.prog.underlying 180).isSome = true := by kernel_rfl
@[go_sem] theorem ze_180 : zeros Tryz.prog 180 = some [.sc (.pointer none)] := by kernel_rfl
@[go_sem] theorem by_180 : bytesOf Tryz.prog 180 = 8 := by kernel_rfl
@[go_sem] theorem sz_191 : szOf Tryz.prog 191 = 1 := by kernel_rfl
@[go_sem] theorem kn_191 : knownT Tryz.prog 191 = true := by kernel_rfl
@[go_sem] theorem ag_191 : aggOf Tryz.prog 191 = false := by kernel_rfl
@[go_sem] theorem us_191 : (Tryz.prog.underlying 191).isSome = true := by kernel_rfl
@[go_sem] theorem un_191 : Tryz.prog.underlying 191 = some (.int .u32) := by kernel_rfl
@[go_sem] theorem ze_191 : zeros Tryz.prog 191 = some [.sc (.int .u32 0)] := by kernel_rfl
@[go_sem] theorem az_191 : azero1 Tryz.prog 191 = some (.sc (.int .u32 0)) := by kernel_rfl
@[go_sem] theorem by_191 : bytesOf Tryz.prog 191 = 4 := by kernel_rfl
@[go_sem] theorem sz_195 : szOf Tryz.prog 195 = 1 := by kernel_rfl
@[go_sem] theorem kn_195 : knownT Tryz.prog 195 = true := by kernel_rfl
@[go_sem] theorem ag_195 : aggOf Tryz.prog 195 = false := by kernel_rfl
@[go_sem] theorem us_195 : (Tryz.prog.underlying 195).isSome = true := by kernel_rfl
@[go_sem] theorem ze_195 : zeros Tryz.prog 195 = some [.sc (.pointer none)] := by kernel_rfl
@[go_sem] theorem by_195 : bytesOf Tryz.prog 195 = 8 := by kernel_rfl
@[go_sem] theorem en_3 : enterable Tryz.prog 3 = true := by kernel_rfl
@[go_sem] theorem en_4 : enterable Tryz.prog 4 = true := by kernel_rfl
@[go_sem] theorem en_5 : enterable Tryz.prog 5 = true := by kernel_rfl
@[go_sem] theorem en_6 : enterable Tryz.prog 6 = true := by kernel_rfl
@[go_sem] theorem en_7 : enterable Tryz.prog 7 = true := by kernel_rfl
@[go_sem] theorem en_8 : enterable Tryz.prog 8 = true := by kernel_rfl
@[go_sem] theorem en_9 : enterable Tryz.prog 9 = true := by kernel_rfl
@[go_sem] theorem en_10 : enterable Tryz.prog 10 = true := by kernel_rfl
@[go_sem] theorem en_11 : enterable Tryz.prog 11 = true := by kernel_rfl
@[go_sem] theorem en_12 : enterable Tryz.prog 12 = true := by kernel_rfl
@[go_sem] theorem en_13 : enterable Tryz.prog 13 = true := by kernel_rfl
@[go_sem] theorem en_14 : enterable Tryz.prog 14 = true := by kernel_rfl
@[go_sem] theorem en_15 : enterable Tryz.prog 15 = true := by kernel_rfl
@[go_sem] theorem en_16 : enterable Tryz.prog 16 = true := by kernel_rfl
@[go_sem] theorem en_17 : enterable Tryz.prog 17 = true := by kernel_rfl
@[go_sem] theorem en_18 : enterable Tryz.prog 18 = true := by kernel_rfl
@[go_sem] theorem en_19 : enterable Tryz.prog 19 = true := by kernel_rfl
@[go_sem] theorem en_20 : enterable Tryz.prog 20 = true := by kernel_rfl
@[go_sem] theorem en_21 : enterable Tryz.prog 21 = true := by kernel_rfl
@[go_sem] theorem en_22 : enterable Tryz.prog 22 = true := by kernel_rfl
@[go_sem] theorem en_23 : enterable Tryz.prog 23 = true := by kernel_rfl
@[go_sem] theorem en_24 : enterable Tryz.prog 24 = true := by kernel_rfl
@[go_sem] theorem en_25 : enterable Tryz.prog 25 = true := by kernel_rfl
@[go_sem] theorem en_26 : enterable Tryz.prog 26 = true := by kernel_rfl
@[go_sem] theorem en_27 : enterable Tryz.prog 27 = true := by kernel_rfl
@[go_sem] theorem en_28 : enterable Tryz.prog 28 = true := by kernel_rfl
@[go_sem] theorem en_29 : enterable Tryz.prog 29 = true := by kernel_rfl
@[go_sem] theorem en_30 : enterable Tryz.prog 30 = true := by kernel_rfl
@[go_sem] theorem en_31 : enterable Tryz.prog 31 = true := by kernel_rfl
@[go_sem] theorem en_32 : enterable Tryz.prog 32 = true := by kernel_rfl
@[go_sem] theorem en_33 : enterable Tryz.prog 33 = true := by kernel_rfl
@[go_sem] theorem en_34 : enterable Tryz.prog 34 = true := by kernel_rfl
@[go_sem] theorem en_35 : enterable Tryz.prog 35 = true := by kernel_rfl
@[go_sem] theorem en_36 : enterable Tryz.prog 36 = true := by kernel_rfl
@[go_sem] theorem en_37 : enterable Tryz.prog 37 = true := by kernel_rfl
@[go_sem] theorem en_38 : enterable Tryz.prog 38 = true := by kernel_rfl
@[go_sem] theorem en_39 : enterable Tryz.prog 39 = true := by kernel_rfl
@[go_sem] theorem en_40 : enterable Tryz.prog 40 = true := by kernel_rfl
@[go_sem] theorem en_41 : enterable Tryz.prog 41 = true := by kernel_rfl
@[go_sem] theorem en_42 : enterable Tryz.prog 42 = true := by kernel_rfl
@[go_sem] theorem en_43 : enterable Tryz.prog 43 = true := by kernel_rfl
@[go_sem] theorem en_44 : enterable Tryz.prog 44 = true := by kernel_rfl
@[go_sem] theorem en_45 : enterable Tryz.prog 45 = true := by kernel_rfl
@[go_sem] theorem en_46 : enterable Tryz.prog 46 = true := by kernel_rfl
@[go_sem] theorem en_47 : enterable Tryz.prog 47 = true := by kernel_rfl
@[go_sem] theorem en_48 : enterable Tryz.prog 48 = true := by kernel_rfl
@[go_sem] theorem en_49 : enterable Tryz.prog 49 = true := by kernel_rfl
@[go_sem] theorem en_50 : enterable Tryz.prog 50 = true := by kernel_rfl
@[go_sem] theorem en_51 : enterable Tryz.prog 51 = true := by kernel_rfl
@[go_sem] theorem en_52 : enterable Tryz.prog 52 = true := by kernel_rfl
@[go_sem] theorem en_53 : enterable Tryz.prog 53 = true := by kernel_rfl
@[go_sem] theorem en_54 : enterable Tryz.prog 54 = true := by kernel_rfl
@[go_sem] theorem en_55 : enterable Tryz.prog 55 = true := by kernel_rfl
@[go_sem] theorem en_56 : enterable Tryz.prog 56 = true := by kernel_rfl
@[go_sem] theorem en_57 : enterable Tryz.prog 57 = true := by kernel_rfl
@[go_sem] theorem en_58 : enterable Tryz.prog 58 = true := by kernel_rfl
@[go_sem] theorem en_59 : enterable Tryz.prog 59 = true := by kernel_rfl
@[go_sem] theorem en_60 : enterable Tryz.prog 60 = true := by kernel_rfl
@[go_sem] theorem en_61 : enterable Tryz.prog 61 = true := by kernel_rfl
@[go_sem] theorem en_62 : enterable Tryz.prog 62 = true := by kernel_rfl
@[go_sem] theorem en_63 : enterable Tryz.prog 63 = true := by kernel_rfl
@[go_sem] theorem en_64 : enterable Tryz.prog 64 = true := by kernel_rfl
@[go_sem] theorem en_65 : enterable Tryz.prog 65 = true := by kernel_rfl
@[go_sem] theorem en_66 : enterable Tryz.prog 66 = true := by kernel_rfl
@[go_sem] theorem en_67 : enterable Tryz.prog 67 = true := by kernel_rfl
@[go_sem] theorem en_68 : enterable Tryz.prog 68 = true := by kernel_rfl
@[go_sem] theorem en_69 : enterable Tryz.prog 69 = true := by kernel_rfl
@[go_sem] theorem en_70 : enterable Tryz.prog 70 = true := by kernel_rfl
@[go_sem] theorem en_71 : enterable Tryz.prog 71 = true := by kernel_rfl
@[go_sem] theorem en_72 : enterable Tryz.prog 72 = true := by kernel_rfl
@[go_sem] theorem en_73 : enterable Tryz.prog 73 = true := by kernel_rfl
@[go_sem] theorem en_74 : enterable Tryz.prog 74 = true := by kernel_rfl
@[go_sem] theorem en_75 : enterable Tryz.prog 75 = true := by kernel_rfl
@[go_sem] theorem en_76 : enterable Tryz.prog 76 = true := by kernel_rfl
@[go_sem] theorem en_77 : enterable Tryz.prog 77 = true := by kernel_rfl
@[go_sem] theorem en_78 : enterable Tryz.prog 78 = true := by kernel_rfl
@[go_sem] theorem en_79 : enterable Tryz.prog 79 = true := by kernel_rfl
@[go_sem] theorem en_80 : enterable Tryz.prog 80 = true := by kernel_rfl
@[go_sem] theorem en_81 : enterable Tryz.prog 81 = true := by kernel_rfl
@[go_sem] theorem en_82 : enterable Tryz.prog 82 = true := by kernel_rfl
@[go_sem] theorem en_83 : enterable Tryz.prog 83 = true := by kernel_rfl
@[go_sem] theorem en_84 : enterable Tryz.prog 84 = true := by kernel_rfl
@[go_sem] theorem en_85 : enterable Tryz.prog 85 = true := by kernel_rfl
@[go_sem] theorem en_86 : enterable Tryz.prog 86 = true := by kernel_rfl
@[go_sem] theorem en_87 : enterable Tryz.prog 87 = true := by kernel_rfl
@[go_sem] theorem en_88 : enterable Tryz.prog 88 = true := by kernel_rfl
@[go_sem] theorem en_89 : enterable Tryz.prog 89 = true := by kernel_rfl
@[go_sem] theorem en_90 : enterable Tryz.prog 90 = true := by kernel_rfl
@[go_sem] theorem en_91 : enterable Tryz.prog 91 = true := by kernel_rfl
@[go_sem] theorem en_92 : enterable Tryz.prog 92 = true := by kernel_rfl
@[go_sem] theorem en_93 : enterable Tryz.prog 93 = true := by kernel_rfl
@[go_sem] theorem en_94 : enterable Tryz.prog 94 = true := by kernel_rfl
@[go_sem] theorem en_95 : enterable Tryz.prog 95 = true := by kernel_rfl
@[go_sem] theorem en_96 : enterable Tryz.prog 96 = true := by kernel_rfl
@[go_sem] theorem en_97 : enterable Tryz.prog 97 = true := by kernel_rfl
@[go_sem] theorem en_98 : enterable Tryz.prog 98 = true := by kernel_rfl
@[go_sem] theorem en_99 : enterable Tryz.prog 99 = true := by kernel_rfl
@[go_sem] theorem en_100 : enterable Tryz.prog 100 = true := by kernel_rfl
@[go_sem] theorem en_101 : enterable Tryz.prog 101 = true := by kernel_rfl
@[go_sem] theorem en_102 : enterable Tryz.prog 102 = true := by kernel_rfl
@[go_sem] theorem en_103 : enterable Tryz.prog 103 = true := by kernel_rfl
@[go_sem] theorem en_104 : enterable Tryz.prog 104 = true := by kernel_rfl
@[go_sem] theorem en_105 : enterable Tryz.prog 105 = true := by kernel_rfl
@[go_sem] theorem en_106 : enterable Tryz.prog 106 = true := by kernel_rfl
@[go_sem] theorem en_107 : enterable Tryz.prog 107 = true := by kernel_rfl
@[go_sem] theorem en_108 : enterable Tryz.prog 108 = true := by kernel_rfl
@[go_sem] theorem en_109 : enterable Tryz.prog 109 = true := by kernel_rfl
@[go_sem] theorem en_110 : enterable Tryz.prog 110 = true := by kernel_rfl
@[go_sem] theorem en_111 : enterable Tryz.prog 111 = true := by kernel_rfl
@[go_sem] theorem en_112 : enterable Tryz.prog 112 = true := by kernel_rfl
@[go_sem] theorem en_113 : enterable Tryz.prog 113 = true := by kernel_rfl
@[go_sem] theorem en_114 : enterable Tryz.prog 114 = true := by kernel_rfl
@[go_sem] theorem en_115 : enterable Tryz.prog 115 = true := by kernel_rfl
@[go_sem] theorem en_116 : enterable Tryz.prog 116 = true := by kernel_rfl
@[go_sem] theorem en_117 : enterable Tryz.prog 117 = true := by kernel_rfl
@[go_sem] theorem en_118 : enterable Tryz.prog 118 = true := by kernel_rfl
@[go_sem] theorem en_119 : enterable Tryz.prog 119 = true := by kernel_rfl
@[go_sem] theorem en_120 : enterable Tryz.prog 120 = true := by kernel_rfl
@[go_sem] theorem en_121 : enterable Tryz.prog 121 = true := by kernel_rfl
@[go_sem] theorem en_122 : enterable Tryz.prog 122 = true := by kernel_rfl
@[go_sem] theorem en_123 : enterable Tryz.prog 123 = true := by kernel_rfl
@[go_sem] theorem en_124 : enterable Tryz.prog 124 = true := by kernel_rfl
@[go_sem] theorem en_125 : enterable Tryz.prog 125 = true := by kernel_rfl
@[go_sem] theorem en_126 : enterable Tryz.prog 126 = true := by kernel_rfl
@[go_sem] theorem en_127 : enterable Tryz.prog 127 = true := by kernel_rfl
@[go_sem] theorem en_128 : enterable Tryz.prog 128 = true := by kernel_rfl
@[go_sem] theorem en_129 : enterable Tryz.prog 129 = true := by kernel_rfl
@[go_sem] theorem en_130 : enterable Tryz.prog 130 = true := by kernel_rfl
@[go_sem] theorem en_131 : enterable Tryz.prog 131 = true := by kernel_rfl
@[go_sem] theorem en_132 : enterable Tryz.prog 132 = true := by kernel_rfl
@[go_sem] theorem en_133 : enterable Tryz.prog 133 = true := by kernel_rfl
@[go_sem] theorem en_134 : enterable Tryz.prog 134 = true := by kernel_rfl
@[go_sem] theorem en_135 : enterable Tryz.prog 135 = true := by kernel_rfl
@[go_sem] theorem en_136 : enterable Tryz.prog 136 = true := by kernel_rfl
@[go_sem] theorem en_137 : enterable Tryz.prog 137 = true := by kernel_rfl
@[go_sem] theorem en_138 : enterable Tryz.prog 138 = true := by kernel_rfl
@[go_sem] theorem en_139 : enterable Tryz.prog 139 = true := by kernel_rfl
@[go_sem] theorem en_140 : enterable Tryz.prog 140 = true := by kernel_rfl
@[go_sem] theorem en_142 : enterable Tryz.prog 142 = true := by kernel_rfl
@[go_sem] theorem en_143 : enterable Tryz.prog 143 = true := by kernel_rfl
@[go_sem] theorem en_144 : enterable Tryz.prog 144 = true := by kernel_rfl
@[go_sem] theorem en_145 : enterable Tryz.prog 145 = true := by kernel_rfl
@[go_sem] theorem en_146 : enterable Tryz.prog 146 = true := by kernel_rfl
@[go_sem] theorem en_147 : enterable Tryz.prog 147 = true := by kernel_rfl
@[go_sem] theorem en_148 : enterable Tryz.prog 148 = true := by kernel_rfl
@[go_sem] theorem en_149 : enterable Tryz.prog 149 = true := by kernel_rfl
@[go_sem] theorem en_150 : enterable Tryz.prog 150 = true := by kernel_rfl
@[go_sem] theorem en_151 : enterable Tryz.prog 151 = true := by kernel_rfl
@[go_sem] theorem en_152 : enterable Tryz.prog 152 = true := by kernel_rfl
@[go_sem] theorem en_153 : enterable Tryz.prog 153 = true := by kernel_rfl
@[go_sem] theorem en_154 : enterable Tryz.prog 154 = true := by kernel_rfl
@[go_sem] theorem en_155 : enterable Tryz.prog 155 = true := by kernel_rfl
@[go_sem] theorem en_156 : enterable Tryz.prog 156 = true := by kernel_rfl
@[go_sem] theorem en_157 : enterable Tryz.prog 157 = true := by kernel_rfl
@[go_sem] theorem en_158 : enterable Tryz.prog 158 = true := by kernel_rfl
@[go_sem] theorem en_159 : enterable Tryz.prog 159 = true := by kernel_rfl
@[go_sem] theorem en_160 : enterable Tryz.prog 160 = true := by kernel_rfl
@[go_sem] theorem en_161 : enterable Tryz.prog 161 = true := by kernel_rfl
@[go_sem] theorem en_162 : enterable Tryz.prog 162 = true := by kernel_rfl
@[go_sem] theorem en_163 : enterable Tryz.prog 163 = true := by kernel_rfl
@[go_sem] theorem en_164 : enterable Tryz.prog 164 = true := by kernel_rfl
@[go_sem] theorem en_165 : enterable Tryz.prog 165 = true := by kernel_rfl
@[go_sem] theorem en_166 : enterable Tryz.prog 166 = true := by kernel_rfl
@[go_sem] theorem en_167 : enterable Tryz.prog 167 = true := by kernel_rfl
@[go_sem] theorem en_168 : enterable Tryz.prog 168 = true := by kernel_rfl
@[go_sem] theorem en_169 : enterable Tryz.prog 169 = true := by kernel_rfl
@[go_sem] theorem en_170 : enterable Tryz.prog 170 = true := by kernel_rfl
@[go_sem] theorem en_171 : enterable Tryz.prog 171 = true := by kernel_rfl
@[go_sem] theorem en_172 : enterable Tryz.prog 172 = true := by kernel_rfl
@[go_sem] theorem en_173 : enterable Tryz.prog 173 = true := by kernel_rfl
@[go_sem] theorem en_174 : enterable Tryz.prog 174 = true := by kernel_rfl
@[go_sem] theorem en_176 : enterable Tryz.prog 176 = true := by kernel_rfl
@[go_sem] theorem en_177 : enterable Tryz.prog 177 = true := by kernel_rfl
@[go_sem] theorem en_178 : enterable Tryz.prog 178 = true := by kernel_rfl
@[go_sem] theorem en_179 : enterable Tryz.prog 179 = true := by kernel_rfl
@[go_sem] theorem en_180 : enterable Tryz.prog 180 = true := by kernel_rfl
@[go_sem] theorem en_182 : enterable Tryz.prog 182 = true := by kernel_rfl
@[go_sem] theorem en_183 : enterable Tryz.prog 183 = true := by kernel_rfl
@[go_sem] theorem en_184 : enterable Tryz.prog 184 = true := by kernel_rfl
@[go_sem] theorem en_185 : enterable Tryz.prog 185 = true := by kernel_rfl
@[go_sem] theorem en_186 : enterable Tryz.prog 186 = true := by kernel_rfl
@[go_sem] theorem en_187 : enterable Tryz.prog 187 = true := by kernel_rfl
@[go_sem] theorem en_188 : enterable Tryz.prog 188 = true := by kernel_rfl
@[go_sem] theorem rs_3 : Tryz.f3.results.toList = [.tmp 2] := rfl
@[go_sem] theorem rs_4 : Tryz.f4.results.toList = [.tmp 2] := rfl
@[go_sem] theorem rs_5 : Tryz.f5.results.toList = [.tmp 2] := rfl
@[go_sem] theorem rs_6 : Tryz.f6.results.toList = [.tmp 2] := rfl
@[go_sem] theorem rs_7 : Tryz.f7.results.toList = [.tmp 2] := rfl
@[go_sem] theorem rs_8 : Tryz.f8.results.toList = [.tmp 10] := rfl
@[go_sem] theorem rs_9 : Tryz.f9.results.toList = [.tmp 2] := rfl
@[go_sem] theorem rs_10 : Tryz.f10.results.toList = [.cell 2 35, .tmp 3] := rfl
@[go_sem] theorem rs_11 : Tryz.f11.results.toList = [.cell 4 28] := rfl
@[go_sem] theorem rs_12 : Tryz.f12.results.toList = [.cell 6 35, .tmp 7] := rfl
@[go_sem] theorem rs_13 : Tryz.f13.results.toList = [.tmp 2] := rfl
@[go_sem] theorem rs_14 : Tryz.f14.results.toList = [.tmp 4] := rfl
@[go_sem] theorem rs_15 : Tryz.f15.results.toList = [.tmp 0] := rfl
@[go_sem] theorem rs_16 : Tryz.f16.results.toList = [.cell 4 35, .tmp 5] := rfl
@[go_sem] theorem rs_17 : Tryz.f17.results.toList = [.tmp 2] := rfl
@[go_sem] theorem rs_18 : Tryz.f18.results.toList = [.tmp 4] := rfl
@[go_sem] theorem rs_19 : Tryz.f19.results.toList = [.cell 4 35, .cell 5 55, .tmp 6] := rfl
@[go_sem] theorem rs_20 : Tryz.f20.results.toList = [.tmp 4] := rfl
@[go_sem] theorem rs_21 : Tryz.f21.results.toList = [.tmp 4, .tmp 5] := rfl
@[go_sem] theorem rs_22 : Tryz.f22.results.toList = [.tmp 2] := rfl
@[go_sem] theorem rs_23 : Tryz.f23.results.toList = [.tmp 2] := rfl
@[go_sem] theorem rs_24 : Tryz.f24.results.toList = [.cell 2 35, .tmp 3] := rfl
@[go_sem] theorem rs_25 : Tryz.f25.results.toList = [.cell 0 28] := rfl
@[go_sem] theorem rs_26 : Tryz.f26.results.toList = [.tmp 6] := rfl
@[go_sem] theorem rs_27 : Tryz.f27.results.toList = [.cell 4 35, .tmp 5] := rfl
@[go_sem] theorem rs_28 : Tryz.f28.results.toList = [.cell 6 35, .tmp 7] := rfl
@[go_sem] theorem rs_29 : Tryz.f29.results.toList = [.cell 6 35, .tmp 7] := rfl
@[go_sem] theorem rs_30 : Tryz.f30.results.toList = [.tmp 2] := rfl
@[go_sem] theorem rs_31 : Tryz.f31.results.toList = [.cell 4 35, .tmp 5] := rfl
@[go_sem] theorem rs_32 : Tryz.f32.results.toList = [.cell 4 35, .tmp 5] := rfl
@[go_sem] theorem rs_33 : Tryz.f33.results.toList = [.tmp 2] := rfl
@[go_sem] theorem rs_34 : Tryz.f34.results.toList = [.tmp 4] := rfl
@[go_sem] theorem rs_35 : Tryz.f35.results.toList = [.cell 4 35] := rfl
@[go_sem] theorem rs_36 : Tryz.f36.results.toList = [.tmp 2] := rfl
@[go_sem] theorem rs_37 : Tryz.f37.results.toList = [.tmp 2] := rfl
@[go_sem] theorem rs_38 : Tryz.f38.results.toList = [.cell 2 44] := rfl
@[go_sem] theorem rs_39 : Tryz.f39.results.toList = [.cell 4 35, .tmp 5] := rfl
@[go_sem] theorem rs_40 : Tryz.f40.results.toList = [.cell 4 35, .cell 5 55, .tmp 6] := rfl
@[go_sem] theorem rs_41 : Tryz.f41.results.toList = [.tmp 4] := rfl
@[go_sem] theorem rs_42 : Tryz.f42.results.toList = [.tmp 4] := rfl
@[go_sem] theorem rs_43 : Tryz.f43.results.toList = [.cell 4 35, .tmp 5] := rfl
@[go_sem] theorem rs_44 : Tryz.f44.results.toList = [.cell 4 35, .tmp 5] := rfl
@[go_sem] theorem rs_45 : Tryz.f45.results.toList = [.cell 6 35, .tmp 7] := rfl
@[go_sem] theorem rs_46 : Tryz.f46.results.toList = [.cell 6 35, .tmp 7] := rfl
@[go_sem] theorem rs_47 : Tryz.f47.results.toList = [.tmp 2] := rfl
@[go_sem] theorem rs_48 : Tryz.f48.results.toList = [.cell 4 28, .tmp 5] := rfl
@[go_sem] theorem rs_49 : Tryz.f49.results.toList = [.tmp 4] := rfl
@[go_sem] theorem rs_50 : Tryz.f50.results.toList = [.cell 4 28, .tmp 5] := rfl
@[go_sem] theorem rs_51 : Tryz.f51.results.toList = [.cell 12 48] := rfl
@[go_sem] theorem rs_52 : Tryz.f52.results.toList = [.tmp 2] := rfl
@[go_sem] theorem rs_53 : Tryz.f53.results.toList = [.tmp 2] := rfl
@[go_sem] theorem rs_54 : Tryz.f54.results.toList = [.tmp 4] := rfl
@[go_sem] theorem rs_55 : Tryz.f55.results.toList = [.tmp 4] := rfl
@[go_sem] theorem rs_56 : Tryz.f56.results.toList = [.tmp 4, .tmp 5] := rfl
@[go_sem] theorem rs_57 : Tryz.f57.results.toList = [.tmp 2] := rfl
@[go_sem] theorem rs_58 : Tryz.f58.results.toList = [.tmp 2] := rfl
@[go_sem] theorem rs_59 : Tryz.f59.results.toList = [.cell 2 35] := rfl
@[go_sem] theorem rs_60 : Tryz.f60.results.toList = [.tmp 4] := rfl
@[go_sem] theorem rs_61 : Tryz.f61.results.toList = [.cell 4 28, .tmp 5] := rfl
@[go_sem] theorem rs_62 : Tryz.f62.results.toList = [.cell 12 48] := rfl
@[go_sem] theorem rs_63 : Tryz.f63.results.toList = [.cell 6 32, .cell 7 55, .tmp 8] := rfl
@[go_sem] theorem rs_64 : Tryz.f64.results.toList = [.tmp 2] := rfl
@[go_sem] theorem rs_65 : Tryz.f65.results.toList = [.tmp 4] := rfl
@[go_sem] theorem rs_66 : Tryz.f66.results.toList = [.tmp 4] := rfl
@[go_sem] theorem rs_67 : Tryz.f67.results.toList = [.tmp 2] := rfl
@[go_sem] theorem rs_68 : Tryz.f68.results.toList = [.cell 2 28] := rfl
@[go_sem] theorem rs_69 : Tryz.f69.results.toList = [.cell 4 32, .tmp 5] := rfl
@[go_sem] theorem rs_70 : Tryz.f70.results.toList = [.tmp 4, .tmp 5] := rfl
@[go_sem] theorem rs_71 : Tryz.f71.results.toList = [.tmp 3] := rfl
@[go_sem] theorem rs_72 : Tryz.f72.results.toList = [.tmp 6] := rfl
@[go_sem] theorem rs_73 : Tryz.f73.results.toList = [.cell 8 35, .tmp 9] := rfl
@[go_sem] theorem rs_74 : Tryz.f74.results.toList = [.tmp 6] := rfl
@[go_sem] theorem rs_75 : Tryz.f75.results.toList = [.tmp 5] := rfl
@[go_sem] theorem rs_76 : Tryz.f76.results.toList = [.cell 4 32, .tmp 5] := rfl
@[go_sem] theorem rs_77 : Tryz.f77.results.toList = [.tmp 5] := rfl
@[go_sem] theorem rs_78 : Tryz.f78.results.toList = [.cell 4 32, .tmp 5] := rfl
@[go_sem] theorem rs_79 : Tryz.f79.results.toList = [.tmp 4] := rfl
@[go_sem] theorem rs_80 : Tryz.f80.results.toList = [.tmp 2] := rfl
@[go_sem] theorem rs_81 : Tryz.f81.results.toList = [.tmp 4] := rfl
@[go_sem] theorem rs_82 : Tryz.f82.results.toList = [.tmp 4] := rfl
@[go_sem] theorem rs_83 : Tryz.f83.results.toList = [.tmp 4] := rfl
@[go_sem] theorem rs_84 : Tryz.f84.results.toList = [.cell 4 28] := rfl
@[go_sem] theorem rs_85 : Tryz.f85.results.toList = [.tmp 2] := rfl
@[go_sem] theorem rs_86 : Tryz.f86.results.toList = [.cell 4 44, .tmp 5] := rfl
@[go_sem] theorem rs_87 : Tryz.f87.results.toList = [.tmp 4] := rfl
@[go_sem] theorem rs_88 : Tryz.f88.results.toList = [.tmp 4, .tmp 5, .tmp 6] := rfl
@[go_sem] theorem rs_89 : Tryz.f89.results.toList = [.cell 4 32, .tmp 5] := rfl
@[go_sem] theorem rs_90 : Tryz.f90.results.toList = [.tmp 2] := rfl
@[go_sem] theorem rs_91 : Tryz.f91.results.toList = [.cell 6 32, .cell 7 55, .tmp 8] := rfl
@[go_sem] theorem rs_92 : Tryz.f92.results.toList = [.tmp 4] := rfl
@[go_sem] theorem rs_93 : Tryz.f93.results.toList = [.cell 6 35] := rfl
@[go_sem] theorem rs_94 : Tryz.f94.results.toList = [.tmp 4] := rfl
@[go_sem] theorem rs_95 : Tryz.f95.results.toList = [.tmp 6, .cell 7 46, .tmp 8] := rfl
@[go_sem] theorem rs_96 : Tryz.f96.results.toList = [.cell 4 32, .tmp 5] := rfl
@[go_sem] theorem rs_97 : Tryz.f97.results.toList = [.cell 4 32, .tmp 5] := rfl
@[go_sem] theorem rs_98 : Tryz.f98.results.toList = [.tmp 2] := rfl
@[go_sem] theorem rs_99 : Tryz.f99.results.toList = [.tmp 2] := rfl
@[go_sem] theorem rs_100 : Tryz.f100.results.toList = [.tmp 4, .tmp 5] := rfl
@[go_sem] theorem rs_101 : Tryz.f101.results.toList = [.tmp 2] := rfl
@[go_sem] theorem rs_102 : Tryz.f102.results.toList = [.tmp 8, .tmp 9] := rfl
@[go_sem] theorem rs_103 : Tryz.f103.results.toList = [.cell 2 48] := rfl
@[go_sem] theorem rs_104 : Tryz.f104.results.toList = [.tmp 2] := rfl
@[go_sem] theorem rs_105 : Tryz.f105.results.toList = [.tmp 2] := rfl
@[go_sem] theorem rs_106 : Tryz.f106.results.toList = [.tmp 2] := rfl
@[go_sem] theorem rs_107 : Tryz.f107.results.toList = [.tmp 4, .tmp 5] := rfl
@[go_sem] theorem rs_108 : Tryz.f108.results.toList = [.tmp 2] := rfl
@[go_sem] theorem rs_109 : Tryz.f109.results.toList = [.tmp 4] := rfl
@[go_sem] theorem rs_110 : Tryz.f110.results.toList = [.tmp 2] := rfl
@[go_sem] theorem rs_111 : Tryz.f111.results.toList = [.tmp 2] := rfl
@[go_sem] theorem rs_112 : Tryz.f112.results.toList = [.tmp 4] := rfl
@[go_sem] theorem rs_113 : Tryz.f113.results.toList = [.tmp 2] := rfl
@[go_sem] theorem rs_114 : Tryz.f114.results.toList = [.tmp 2] := rfl
@[go_sem] theorem rs_115 : Tryz.f115.results.toList = [.tmp 4] := rfl
@[go_sem] theorem rs_116 : Tryz.f116.results.toList = [.tmp 2] := rfl
@[go_sem] theorem rs_117 : Tryz.f117.results.toList = [.tmp 4] := rfl
@[go_sem] theorem rs_118 : Tryz.f118.results.toList = [.tmp 4] := rfl
@[go_sem] theorem rs_119 : Tryz.f119.results.toList = [.tmp 6, .tmp 7] := rfl
@[go_sem] theorem rs_120 : Tryz.f120.results.toList = [.tmp 4] := rfl
@[go_sem] theorem rs_121 : Tryz.f121.results.toList = [.tmp 4] := rfl
@[go_sem] theorem rs_122 : Tryz.f122.results.toList = [.tmp 2] := rfl
@[go_sem] theorem rs_123 : Tryz.f123.results.toList = [.cell 2 32] := rfl
@[go_sem] theorem rs_124 : Tryz.f124.results.toList = [.tmp 2] := rfl
@[go_sem] theorem rs_125 : Tryz.f125.results.toList = [.tmp 4] := rfl
@[go_sem] theorem rs_126 : Tryz.f126.results.toList = [.tmp 2] := rfl
@[go_sem] theorem rs_127 : Tryz.f127.results.toList = [.tmp 3] := rfl
@[go_sem] theorem rs_128 : Tryz.f128.results.toList = [.tmp 4] := rfl
@[go_sem] theorem rs_129 : Tryz.f129.results.toList = [.tmp 2] := rfl
@[go_sem] theorem rs_130 : Tryz.f130.results.toList = [.tmp 3] := rfl
@[go_sem] theorem rs_131 : Tryz.f131.results.toList = [.tmp 4] := rfl
@[go_sem] theorem rs_132 : Tryz.f132.results.toList = [.tmp 3] := rfl
@[go_sem] theorem rs_133 : Tryz.f133.results.toList = [.tmp 4] := rfl
@[go_sem] theorem rs_134 : Tryz.f134.results.toList = [.tmp 4] := rfl
@[go_sem] theorem rs_135 : Tryz.f135.results.toList = [.tmp 2] := rfl
@[go_sem] theorem rs_136 : Tryz.f136.results.toList = [.tmp 4, .tmp 5] := rfl
@[go_sem] theorem rs_137 : Tryz.f137.results.toList = [.cell 4 32] := rfl
@[go_sem] theorem rs_138 : Tryz.f138.results.toList = [.tmp 6] := rfl
@[go_sem] theorem rs_139 : Tryz.f139.results.toList = [.tmp 4] := rfl
@[go_sem] theorem rs_140 : Tryz.f140.results.toList = [.tmp 3] := rfl
@[go_sem] theorem rs_141 : Tryz.f141.results.toList = [] := rfl
@[go_sem] theorem rs_142 : Tryz.f142.results.toList = [] := rfl
@[go_sem] theorem rs_143 : Tryz.f143.results.toList = [.tmp 4] := rfl
@[go_sem] theorem rs_144 : Tryz.f144.results.toList = [.tmp 6] := rfl
@[go_sem] theorem rs_145 : Tryz.f145.results.toList = [.tmp 4] := rfl
@[go_sem] theorem rs_146 : Tryz.f146.results.toList = [.tmp 4] := rfl
@[go_sem] theorem rs_147 : Tryz.f147.results.toList = [.tmp 4] := rfl
@[go_sem] theorem rs_148 : Tryz.f148.results.toList = [.tmp 2] := rfl
@[go_sem] theorem rs_149 : Tryz.f149.results.toList = [.tmp 4] := rfl
@[go_sem] theorem rs_150 : Tryz.f150.results.toList = [.cell 4 32] := rfl
@[go_sem] theorem rs_151 : Tryz.f151.results.toList = [.tmp 2] := rfl
@[go_sem] theorem rs_152 : Tryz.f152.results.toList = [.tmp 4] := rfl
@[go_sem] theorem rs_153 : Tryz.f153.results.toList = [.tmp 2] := rfl
@[go_sem] theorem rs_154 : Tryz.f154.results.toList = [.tmp 6] := rfl
@[go_sem] theorem rs_155 : Tryz.f155.results.toList = [.tmp 2] := rfl
@[go_sem] theorem rs_156 : Tryz.f156.results.toList = [.tmp 4] := rfl
@[go_sem] theorem rs_157 : Tryz.f157.results.toList = [.tmp 6] := rfl
@[go_sem] theorem rs_158 : Tryz.f158.results.toList = [.tmp 4] := rfl
@[go_sem] theorem rs_159 : Tryz.f159.results.toList = [.tmp 3] := rfl
@[go_sem] theorem rs_160 : Tryz.f160.results.toList = [.tmp 4] := rfl
@[go_sem] theorem rs_161 : Tryz.f161.results.toList = [.tmp 3] := rfl
@[go_sem] theorem rs_162 : Tryz.f162.results.toList = [.tmp 2] := rfl
@[go_sem] theorem rs_163 : Tryz.f163.results.toList = [.tmp 2] := rfl
@[go_sem] theorem rs_164 : Tryz.f164.results.toList = [.tmp 2] := rfl
@[go_sem] theorem rs_165 : Tryz.f165.results.toList = [.tmp 4] := rfl
@[go_sem] theorem rs_166 : Tryz.f166.results.toList = [.tmp 2] := rfl
@[go_sem] theorem rs_167 : Tryz.f167.results.toList = [.tmp 4] := rfl
@[go_sem] theorem rs_168 : Tryz.f168.results.toList = [.tmp 6] := rfl
@[go_sem] theorem rs_169 : Tryz.f169.results.toList = [.tmp 4] := rfl
@[go_sem] theorem rs_170 : Tryz.f170.results.toList = [.tmp 4] := rfl
@[go_sem] theorem rs_171 : Tryz.f171.results.toList = [.tmp 4] := rfl
@[go_sem] theorem rs_172 : Tryz.f172.results.toList = [.tmp 2] := rfl
@[go_sem] theorem rs_173 : Tryz.f173.results.toList = [.tmp 6, .tmp 7] := rfl
@[go_sem] theorem rs_174 : Tryz.f174.results.toList = [.tmp 6] := rfl
@[go_sem] theorem rs_175 : Tryz.f175.results.toList = [] := rfl
@[go_sem] theorem rs_176 : Tryz.f176.results.toList = [] := rfl
@[go_sem] theorem rs_177 : Tryz.f177.results.toList = [] := rfl
@[go_sem] theorem rs_178 : Tryz.f178.results.toList = [.tmp 3] := rfl
@[go_sem] theorem rs_179 : Tryz.f179.results.toList = [.tmp 2] := rfl
@[go_sem] theorem rs_180 : Tryz.f180.results.toList = [.tmp 4] := rfl
@[go_sem] theorem rs_181 : Tryz.f181.results.toList = [] := rfl
@[go_sem] theorem rs_182 : Tryz.f182.results.toList = [] := rfl
@[go_sem] theorem rs_183 : Tryz.f183.results.toList = [] := rfl
@[go_sem] theorem rs_184 : Tryz.f184.results.toList = [] := rfl
@[go_sem] theorem rs_185 : Tryz.f185.results.toList = [.tmp 3] := rfl
@[go_sem] theorem rs_186 : Tryz.f186.results.toList = [] := rfl
@[go_sem] theorem rs_187 : Tryz.f187.results.toList = [] := rfl
@[go_sem] theorem rs_188 : Tryz.f188.results.toList = [] := rfl
@[go_sem] theorem rs_204 : Tryz.f204.results.toList = [] := rfl
open Go.RowKit
open Go.PA
abbrev sp (p : Nat) : AV := .sc (.pointer (some ⟨p, 0, none⟩))
set_option maxHeartbeats 400000 in
theorem N_out (p : Nat) (A : Option Addr) (len c : Nat) (at_ : Int) (n : Int) (w : World)
  (h0 : w.cell? ⟨p, 0, none⟩ = some (.slice A len c)) (h1 : w.cell? ⟨p, 1, none⟩ = some (.int .i64 at_))
  (hge : (len : Int) ≤ at_) :
  Calls Tryz.prog 18 #[.pointer (some ⟨p, 0, none⟩), .int .i64 n] w fun e w' => e = .returned (.int .i64 0) ∧ ∃ k, w' = w.drewN k := by
 have hge' : decide ((len : Int) ≤ at_) = true := by simpa using hge
 go_enter Tryz.func18, Tryz.ntmps18
 go_wp2
 go_quiet (fail)
 go_wp2
 go_ret
 exact ⟨rfl, _, rfl⟩
set_option maxHeartbeats 400000 in
theorem N_low (p : Nat) (A : Option Addr) (len c : Nat) (at_ : Int) (n : Int) (w : World)
  (h0 : w.cell? ⟨p, 0, none⟩ = some (.slice A len c)) (h1 : w.cell? ⟨p, 1, none⟩ = some (.int .i64 at_))
  (hlt : at_ < len) (hn : n < 1) :
  Calls Tryz.prog 18 #[.pointer (some ⟨p, 0, none⟩), .int .i64 n] w fun e w' => e = .returned (.int .i64 0) ∧ ∃ k, w' = w.drewN k := by
 have hge' : decide ((len : Int) ≤ at_) = false := by simpa using hlt
 have hn' : decide (n < 1) = true := by simpa using hn
 go_enter Tryz.func18, Tryz.ntmps18
 go_wp2
 go_quiet (fail)
 go_wp2
 go_ret
 exact ⟨rfl, _, rfl⟩
set_option maxHeartbeats 400000 in
theorem N_in (p : Nat) (ad : Addr) (len c : Nat) (at_ : Nat) (n x : Int) (w : World)
  (h0 : w.cell? ⟨p, 0, none⟩ = some (.slice (some ad) len c)) (h1 : w.cell? ⟨p, 1, none⟩ = some (.int .i64 at_))
  (hf : w.frozen? ⟨p, 1, none⟩ = false)
  (hx : w.cell? (ad.add at_) = some (.int .i64 x)) (hp : ad.block ≠ p)
  (hlen : len ≤ 900)
  (hlt : (at_ : Int) < len) (hn : 1 ≤ n) (hn2 : n ≤ 4000000000000000000) :
  Calls Tryz.prog 18 #[.pointer (some ⟨p, 0, none⟩), .int .i64 n] w fun e w' => e = .returned (.int .i64 ((x.tmod n + n) % n)) ∧ ∃ j k, w' = ((w.drewN j).setCell ⟨p, 1, none⟩ (.int .i64 (at_ + 1))).drewN k := by
 have hge' : decide (len ≤ at_) = false := by simp; omega
 have hn' : decide (n < 1) = false := by simpa using hn
 have hw1 : IntKind.i64.wrap (at_ : Int) = at_ := by rw [IntKind.wrap_i64]; omega
 have hx' : ∀ nq : Nat, ((w.drewN nq).setCell ⟨p, 1, none⟩ (.int .i64 (at_ + 1))).cell? (ad.add at_) = some (.int .i64 x) := fun nq => by
  have h : (⟨p, 1, none⟩ : Addr) ≠ ad.add at_ := fun e => hp (by rw [← block_add ad at_, ← e])
  exact (World.cell?_setCell_other _ _ _ _ h).trans hx
 have hn0 : ¬ n = 0 := by omega
 have hb : -n < x.tmod n ∧ x.tmod n < n := by
  exact ⟨Int.lt_tmod_of_pos x (by omega), Int.tmod_lt_of_pos x (by omega)⟩
 have hw2 : IntKind.i64.wrap (x.tmod n + n) = x.tmod n + n := by rw [IntKind.wrap_i64]; omega
 go_enter Tryz.func18, Tryz.ntmps18
 go_wp2
 go_quiet (fail)
 go_wp2
 go_quiet (fail)
 go_wp2
 go_ret
 exact ⟨rfl, _, _, rfl⟩
def NQ (n : Int) (x : AV) : Prop := ∃ m : Int, x = iv m ∧ (n < 1 → m = 0) ∧ (1 ≤ n → 0 ≤ m ∧ m < n)
theorem N_pf (p : Nat) (src : Option Nat) (n : Int) (hn2 : n ≤ 4000000000000000000) : PFun Tryz.prog (some p) src 18 [sp p, iv n] (NQ n) := by
 intro w ok vs hok hinv hsz hrep
 have hv0 := hrep 0 (vs[0]'(by simp at hsz; omega)) (sp p) (Array.getElem?_eq_getElem _) rfl
 have hv1 := hrep 1 (vs[1]'(by simp at hsz; omega)) (iv n) (Array.getElem?_eq_getElem _) rfl
 have e0 := rep_sc hv0
 have e1 := rep_sc hv1
 have hvs : vs = #[.pointer (some ⟨p, 0, none⟩), .int .i64 n] := by
  apply Array.ext
  ·simpa using hsz
  ·intro i h1 h2
   match i with
   | 0 => simpa using e0
   | 1 => simpa using e1
   | i + 2 => simp at h2; omega
 subst hvs
 obtain ⟨cur, A, len, c, at_, ty, ⟨hb, hc0, hc1⟩, ha, hl, hsrc⟩ := hinv.2 p rfl
 have h0 : w.cell? ⟨p, 0, none⟩ = some (.slice A len c) := by rw [cell_of_row w p _ _ ty (0, 0) hb]; exact hc0
 have h1 : w.cell? ⟨p, 1, none⟩ = some (.int .i64 at_) := by rw [cell_of_row w p _ _ ty (0, 0) hb]; exact hc1
 have hf : w.frozen? ⟨p, 1, none⟩ = false := by simp [World.frozen?, hb]
 have quiet : ∀ {e : Ending} {w' : World}, (e = .returned (.int .i64 0) ∧ ∃ k, w' = w.drewN k) → (NQ n (iv 0)) → ∃ (v : Value) (x : AV), e = .returned v ∧ NQ n x ∧ Imm x ∧ RepI w' (fun b => ok b ∨ (w.heap.size ≤ b ∧ b < w'.heap.size)) v x ∧ w.grownBy w' (some p) ∧ Inv (some p) src ok w' := by
  rintro e w' ⟨rfl, k, rfl⟩ hq
  exact ⟨_, iv 0, rfl, hq, .sc, .sc, ⟨rfl, rfl, rfl, Nat.le_refl _, fun _ _ _ => rfl⟩, hinv⟩
 by_cases hge : (len : Int) ≤ at_
 ·refine (N_out p A len c at_ n w h0 h1 hge).mono fun e w' h => quiet h ⟨0, rfl, fun _ => rfl, fun h => ⟨Int.le_refl _, by omega⟩⟩
 by_cases hn : n < 1
 ·refine (N_low p A len c at_ n w h0 h1 (by omega) hn).mono fun e w' h => quiet h ⟨0, rfl, fun _ => rfl, fun h => ⟨Int.le_refl _, by omega⟩⟩
 obtain ⟨ad, x, rfl, hs, hp, hx, hxb⟩ := hsrc at_ (by omega)
 refine (N_in p ad len c at_ n x w h0 h1 hf hx hp hl (by omega) (by omega) hn2).mono ?_
 rintro e w' ⟨rfl, j, k, rfl⟩
 refine ⟨_, iv ((x.tmod n + n) % n), rfl, ⟨_, rfl, fun h => by omega, fun h => ⟨Int.emod_nonneg _ (by omega), Int.emod_lt_of_pos _ (by omega)⟩⟩, .sc, .sc, ⟨rfl, rfl, rfl, by simp [World.setCell, World.drewN], fun q hq hne => ?_⟩, hinv.1, fun q hq => ?_⟩
 ·have : p ≠ q := fun e => hne (by rw [e])
  simp [World.setCell, World.drewN, Array.getElem?_modify, this]
 ·cases hq
  have hlt : 1 < cur.size := (Array.getElem?_eq_some_iff.1 hc1).1
  refine ⟨cur.setIfInBounds 1 (.int .i64 (at_ + 1)), some ad, len, c, at_ + 1, ty, ⟨?_, ?_, ?_⟩, by omega, hl, fun i hi => ?_⟩
  ·simp [World.setCell, World.drewN, Array.getElem?_modify, hb]
  ·rw [Array.getElem?_setIfInBounds_ne (by omega)]; exact hc0
  ·rw [Array.getElem?_setIfInBounds]; simp [hlt]
  ·obtain ⟨ad', x', h1', h2', h3', h4', h5'⟩ := hsrc i hi
   cases h1'
   refine ⟨ad, x', rfl, hs, hp, ?_, h5'⟩
   have h : (⟨p, 1, none⟩ : Addr) ≠ ad.add i := fun e => hp (by rw [← block_add ad i, ← e])
   exact (World.cell?_setCell_other _ _ _ _ h).trans h4'
open Go.PA
open Go.RowKit
def intsL (xs : List Int) : AV := .list 1 (xs.map fun x => [iv x])
def Small (xs : List Int) : Prop := ∀ x, x ∈ xs → -9223372036854775808 ≤ x ∧ x ≤ 9223372036854775807
theorem new_pf (xs : List Int) (hl : xs.length ≤ 9223372036854775807) : POwn Tryz.prog none none 9 [intsL xs] 81 2 (· = [[intsL (xs.take 900), iv 0]]) := by
 refine pown_intro Tryz.func9 rfl (by simp [Tryz.f9]) (by kernel_rfl) ?_
 intro E hP hr hs hW hN
 simp [go_sem, hP, intsL, amin, aminFrom, asliceOp, bound, aslice]
 have c : 0 ≤ min (xs.length : Int) 900 ∧ min (xs.length : Int) 900 ≤ xs.length := ⟨by omega, by omega⟩
 have m : (min (xs.length : Int) 900).toNat = min 900 xs.length := by omega
 rw [if_pos c, m]
 simp [go_sem, hP, AOwn, Tryz.f9]
 intro e he a ha
 have := List.mem_of_mem_take he
 simp at this
 obtain ⟨x, _, rfl⟩ := this
 simp at ha
 subst ha
 exact .sc
theorem range_pf (p : Nat) (src : Option Nat) (lo hi : Int) (h1 : -1000000000000000000 ≤ lo ∧ lo ≤ 1000000000000000000) (h2 : -1000000000000000000 ≤ hi ∧ hi ≤ 1000000000000000000) :
  PFun Tryz.prog (some p) src 26 [sp p, iv lo, iv hi] (fun x => ∃ m : Int, x = iv m ∧ (lo ≤ hi → lo ≤ m ∧ m ≤ hi) ∧ (hi < lo → m = lo)) := by
 refine pfun_intro Tryz.func26 rfl (by simp [Tryz.f26]) (by kernel_rfl) ?_
 intro E hP hr hs hW hN
 have w1 := wrap_in (hi - lo) (by omega)
 have w2 := wrap_in (hi - lo + 1) (by omega)
 simp [go_sem, *]
 refine callB_flat (hr ▸ hs ▸ N_pf p src (hi - lo + 1) (by omega)) hP en_18 (by simp [go_sem]) ?_ ?_ ?_
 ·by_cases h : hi - lo + 1 < 1
  ·exact ⟨iv 0, 0, rfl, fun _ => rfl, fun h' => by omega⟩
  ·exact ⟨iv 0, 0, rfl, fun _ => rfl, fun h' => by omega⟩
 ·rintro r ⟨m, rfl, _⟩; exact .sc
 ·rintro r ⟨m, rfl, a1, a2⟩
  have w3 := wrap_in (lo + m) (by omega)
  simp [go_sem, *, Tryz.f26]
  omega
theorem pick_pf (p : Nat) (src : Option Nat) (xs : List Int) (h : 1 ≤ xs.length ∧ xs.length ≤ 1000) :
  PFun Tryz.prog (some p) src 49 [sp p, intsL xs] (fun x => ∃ m : Int, x = iv m ∧ m ∈ xs) := by
 refine pfun_intro Tryz.func49 rfl (by simp [Tryz.f49]) (by kernel_rfl) ?_
 intro E hP hr hs hW hN
 simp [go_sem, hP, intsL]
 refine callB_flat (hr ▸ hs ▸ N_pf p src xs.length (by omega)) hP en_18 (by simp [go_sem]) ?_ ?_ ?_
 ·exact ⟨iv 0, 0, rfl, fun _ => rfl, fun h' => by omega⟩
 ·rintro r ⟨m, rfl, _⟩; exact .sc
 ·rintro r ⟨m, rfl, a1, a2⟩
  obtain ⟨b1, b2⟩ := a2 (by omega)
  have b3 : m.toNat < xs.length := by omega
  simp [go_sem, *, Tryz.f49]
theorem NQ_ex (n : Int) : ∃ r, NQ n r := ⟨iv 0, 0, rfl, fun _ => rfl, fun h => by omega⟩
theorem NQ_flat (n : Int) : ∀ r, NQ n r → Flat r := by
 rintro r ⟨m, rfl, _⟩; exact .sc
end Go.Proofs.YtmpncdlhmknkoaaGreat
set_option maxRecDepth 100000
namespace Go.Proofs.YtmpncdlhmknkoaaGreat
open Go.RowKit Go.WideShapes Go.ChangeShapes
open Go.PA (RepI PFun AV Rep)
section
variable {H : Type} {enc : TypeId × Value → H} {P : Program}
theorem post_of_below {f : Func} {s : ChangeSpec} {apart fresh handsOn again : Bool} {W W' : World} {args : Array Value} {v : Value} {ds gs : List (DataW H)} {before pa pv : List MemPlace}
  (hW : DataW.Whole enc P f.params.toList s.vars apart W args.toList ds gs before)
  (hres : ∀ (b : Nat) (sp : Nat → Bool) (hd : Bool), DataW.TrodAll enc P W' b sp hd f.resultTypes.toList (v.resultList f.resultTypes.size) (s.fn H (ds ++ gs)).results [])
  (hargs : ∀ sp : Nat → Bool, (∀ p ∈ before, sp p.block = true) → DataW.TrodAll enc P W' 0 sp true f.params.toList args.toList (s.fn H (ds ++ gs)).args pa)
  (hvars : ∀ sp : Nat → Bool, (∀ p ∈ before, sp p.block = true) → DataW.TrodVars enc P W' sp s.vars (s.fn H (ds ++ gs)).vars pv)
  (hps : before = pa ++ pv) (hb : Below W.heap.size W W')
  (hok : ∀ (j : Nat) (t : TypeId) (r : Value), f.resultTypes[j]? = some t → (v.resultList f.resultTypes.size)[j]? = some r → Value.okWide P W' .any 0 t r) :
  s.post enc P f apart fresh handsOn again W args v W' := by
 have hlt : ∀ p ∈ before, p.block < W.heap.size := fun p hp => hW.lt p hp
 have hold : ∀ p ∈ before, (fun b => decide (b < W.heap.size)) p.block = true := fun p hp => by simpa using hlt p hp
 refine ⟨ds, gs, before, [], pa, pv, hW, hres _ _ _, hargs _ hold, hvars _ hold, World.keptBut_mono (fun p hp => ⟨hp, ?_⟩) (hb.frame (· ∈ before)), fun _ => ?_⟩
 ·rw [hps, List.mem_append] at hp
  exact Or.inr hp
 ·obtain ⟨_, _, _, _, _, hz, hn⟩ := hW
  refine ⟨hok, _, _, ([] ++ pa) ++ pv, ⟨[] ++ pa, pv, trodAll_append (hargs _ (fun _ _ => rfl)) (hres _ _ _), hvars _ (fun _ _ => rfl), rfl, ?_, ?_⟩, ?_⟩
  ·intro b off hp
   have hin : MemPlace.cell b off ∈ before := by rw [hps]; simpa using hp
   rw [hb.frozen (hlt _ hin)]
   exact hz b off hin
  ·intro ha
   have := hn ha
   rw [hps] at this
   simpa using this
  ·intro p hp _
   rw [hps]
   simpa using hp
end
theorem Tryz.own : ownKnob Tryz.prog.godebug = none := by kernel_rfl
theorem Tryz.laidOut : laidOutB Tryz.prog = true := by kernel_rfl
end Go.Proofs.YtmpncdlhmknkoaaGreat
namespace Go.PA
open Go.RowKit Go.WideShapes Go.ChangeShapes
mutual
inductive Sh where
 | int (k : IntKind)
 | bool
 | str
 | slice (e : Sh)
 | strct (fs : Fs)
inductive Fs where
 | nil
 | cons (s : Sh) (fs : Fs)
end
mutual
def Sh.size : Sh → Nat
 | .int _ => 1
 | .bool => 1
 | .str => 1
 | .slice _ => 1
 | .strct fs => fs.size
def Fs.size : Fs → Nat
 | .nil => 0
 | .cons s fs => s.size + fs.size
end
mutual
def Sh.ok (P : Program) : Sh → TypeId → Bool
 | .int k, t => decide (P.cellsOf t = 1) && (match P.underlying t with | some (.int k') => decide (k' = k) | _ => false)
 | .bool, t => decide (P.cellsOf t = 1) && (match P.underlying t with | some .bool => true | _ => false)
 | .str, t => decide (P.cellsOf t = 1) && (match P.underlying t with | some .string => true | _ => false)
 | .slice e, t => decide (P.cellsOf t = 1) && decide (0 < e.size) && (match P.underlying t with | some (.slice te) => e.ok P te | _ => false)
 | .strct fs, t => decide (P.cellsOf t = fs.size) && (match P.underlying t with | some (.struct fields) => fs.ok P fields.toList 0 | _ => false)
def Fs.ok (P : Program) : Fs → List Field → Nat → Bool
 | .nil, [], _ => true
 | .cons s fs, f :: l, off => s.ok P f.type && decide (f.offset = off) && fs.ok P l (off + s.size)
 | _, _, _ => false
end
mutual
def Sh.V : Sh → List AV → Prop
 | .int k, as0 => ∃ n, as0 = [.sc (.int k n)] ∧ (Lit.int k n).wf = true
 | .bool, as0 => ∃ b, as0 = [.sc (.bool b)]
 | .str, as0 => ∃ s : ByteArray, as0 = [.sc (.string s)] ∧ s.size ≤ maxLen
 | .slice e, as0 => ∃ es : List (List AV), as0 = [.list e.size es] ∧ es.length ≤ maxLen ∧ ∀ x, x ∈ es → e.V x
 | .strct fs, as0 => fs.V as0
def Fs.V : Fs → List AV → Prop
 | .nil, as0 => as0 = []
 | .cons s fs, as0 => ∃ x y, as0 = x ++ y ∧ s.V x ∧ fs.V y
end
theorem Sh.ok_size (P : Program) (s : Sh) (t : TypeId) (h : s.ok P t = true) : P.cellsOf t = s.size := by
 cases s <;> simp only [Sh.ok, Bool.and_eq_true, decide_eq_true_eq] at h <;> simp only [Sh.size] <;> first | exact h.1 | exact h.1.1
def Reps (w : World) (cs : List Value) (as0 : List AV) : Prop := ∀ (i : Nat) (c : Value) (a : AV), cs[i]? = some c → as0[i]? = some a → RepI w (fun b => b < w.heap.size) c a ∧ c.oneCell' = true
theorem reps_one {w : World} {c : Value} {a : AV} (h : RepI w (fun b => b < w.heap.size) c a) (h1 : c.oneCell' = true) : Reps w [c] [a] := fun i c' a' hc ha => by
 rcases i with _ | i
 ·simp at hc ha
  subst hc; subst ha
  exact ⟨h, h1⟩
 ·simp at hc
theorem cell_in {w : World} {a : Addr} {v : Value} (h : w.cell? a = some v) : a.block < w.heap.size := by
 simp only [World.cell?] at h
 split at h
 ·rename_i hb
  exact (Array.getElem?_eq_some_iff.1 hb).1
 ·cases h
theorem list_choice {α : Type} (n : Nat) (p : Nat → α → Prop) (h : ∀ i, i < n → ∃ a, p i a) : ∃ l : List α, l.length = n ∧ ∀ i a, l[i]? = some a → p i a := by
 induction n with
 | zero => exact ⟨[], rfl, by simp⟩
 | succ n ih =>
  obtain ⟨l, h1, h2⟩ := ih fun i hi => h i (by omega)
  obtain ⟨a, ha⟩ := h n (by omega)
  refine ⟨l ++ [a], by simp [h1], fun i b hb => ?_⟩
  by_cases hi : i < n
  ·rw [List.getElem?_append_left (by omega)] at hb
   exact h2 i b hb
  ·have : i = n := by
    have := (gsI hb)
    simp at this
    omega
   subst this
   rw [List.getElem?_append_right (by omega)] at hb
   simp [h1] at hb
   subst hb
   exact ha
section
variable {H : Type} {enc : TypeId × Value → H} {P : Program} {w : World} {base : Nat} {spare : Nat → Bool} {held : Bool}
mutual
theorem Sh.rep : ∀ (s : Sh) (t : TypeId) (fuel : Nat) (cs : List Value) (x : DataW H × List MemPlace), s.ok P t = true → DataW.trod enc P w base spare held fuel t cs = some x →
  ∃ as0, s.V as0 ∧ as0.length = s.size ∧ cs.length = s.size ∧ Reps w cs as0
 | .int k, t, fuel, cs, x, hs, h => by
  simp only [Sh.ok, Bool.and_eq_true, decide_eq_true_eq] at hs
  obtain ⟨_, hs⟩ := hs
  split at hs
  ·rename_i k' hu
   have := of_decide_eq_true hs
   subst this
   obtain ⟨n, rfl, _, hw⟩ := DataW.trod_int hu h
   exact ⟨[.sc (.int k' n)], ⟨n, rfl, hw⟩, rfl, rfl, reps_one .sc rfl⟩
  ·cases hs
 | .bool, t, fuel, cs, x, hs, h => by
  simp only [Sh.ok, Bool.and_eq_true, decide_eq_true_eq] at hs
  obtain ⟨_, hs⟩ := hs
  split at hs
  ·rename_i hu
   obtain ⟨b, rfl, _⟩ := DataW.trod_bool hu h
   exact ⟨[.sc (.bool b)], ⟨b, rfl⟩, rfl, rfl, reps_one .sc rfl⟩
  ·cases hs
 | .str, t, fuel, cs, x, hs, h => by
  simp only [Sh.ok, Bool.and_eq_true, decide_eq_true_eq] at hs
  obtain ⟨_, hs⟩ := hs
  split at hs
  ·rename_i hu
   obtain ⟨b, rfl, _, hl⟩ := DataW.trod_string hu h
   exact ⟨[.sc (.string b)], ⟨b, rfl, hl⟩, rfl, rfl, reps_one .sc rfl⟩
  ·cases hs
 | .slice e, t, fuel, cs, x, hs, h => by
  simp only [Sh.ok, Bool.and_eq_true, decide_eq_true_eq] at hs
  obtain ⟨⟨_, hpos⟩, hs⟩ := hs
  split at hs
  ·rename_i te hu
   have hsz := Sh.ok_size P e te hs
   rcases DataW.trod_slice hu h with ⟨rfl, _⟩ | ⟨a, len, cap, elems, rest, n, _, rfl, _, hb, hl, hm, hlen, hel, _, _⟩
   ·exact ⟨[.list e.size []], ⟨[], rfl, by simp, by simp⟩, rfl, rfl, reps_one .listNil rfl⟩
   rcases Nat.eq_zero_or_pos len with h0 | h0
   ·subst h0
    exact ⟨[.list e.size []], ⟨[], rfl, by simp, by simp⟩, rfl, rfl, reps_one .listNil rfl⟩
   obtain ⟨es, hes, hp⟩ := list_choice len (fun i (as0 : List AV) => ∃ cs', w.cells? base (a.add (i * e.size)) e.size = some cs' ∧ e.V as0 ∧ as0.length = e.size ∧ Reps w cs' as0) fun i hi => by
    have hi' : i < elems.length := by omega
    have := hel i hi
    rw [List.getElem?_eq_getElem hi', Option.bind_eq_some_iff, hsz] at this
    obtain ⟨cs', h1, h2⟩ := this
    obtain ⟨as0, h3, h4, h5, h6⟩ := Sh.rep e te n cs' _ hs h2
    exact ⟨as0, cs', h1, h3, h4, h6⟩
   have cells : ∀ (i : Nat) (x : List AV) (j : Nat) (b : AV), es[i]? = some x → x[j]? = some b → ∃ c, w.cell? (a.add (i * e.size + j)) = some c ∧ RepI w (fun b => b < w.heap.size) c b ∧ c.oneCell' = true := fun i x j b hx hj => by
    obtain ⟨cs', h1, h3, h4, h6⟩ := hp i x hx
    obtain ⟨_, hl', hc⟩ := World.cells?_some h1
    have hj' := (gsI hj)
    have hcj : cs'[j]? = some (cs'[j]'(by omega)) := List.getElem?_eq_getElem (by omega)
    obtain ⟨r1, r2⟩ := h6 j _ b hcj hj
    refine ⟨_, ?_, r1, r2⟩
    have := hc j (by omega)
    rw [add_add, hcj] at this
    exact this
   have hblk : a.block < w.heap.size := by
    obtain ⟨cs', h1, h3, h4, h6⟩ := hp 0 (es[0]'(by omega)) (List.getElem?_eq_getElem (by omega))
    obtain ⟨_, hl', hc⟩ := World.cells?_some h1
    have := hc 0 hpos
    rw [List.getElem?_eq_getElem (by omega)] at this
    have := cell_in this
    rw [block_add, block_add] at this
    exact this
   refine ⟨[.list e.size es], ⟨es, rfl, by omega, fun x hx => ?_⟩, rfl, rfl, reps_one ?_ rfl⟩
   ·obtain ⟨i, hi⟩ := List.getElem?_of_mem hx
    obtain ⟨_, _, h3, _⟩ := hp i x hi
    exact h3
   ·refine .list (fun i j => (w.cell? (a.add (i * e.size + j))).getD undef) hes hl hblk (fun x hx => ?_) ?_ ?_ ?_
    ·obtain ⟨i, hi⟩ := List.getElem?_of_mem hx
     obtain ⟨_, _, _, h4, _⟩ := hp i x hi
     exact h4
    ·intro i x j b hx hj
     obtain ⟨c, h1, _⟩ := cells i x j b hx hj
     rw [h1]; rfl
    ·intro i x j b hx hj
     obtain ⟨c, h1, _, h3⟩ := cells i x j b hx hj
     rw [h1]; exact h3
    ·intro i x j b hx hj
     obtain ⟨c, h1, h2, _⟩ := cells i x j b hx hj
     rw [h1]; exact h2
  ·cases hs
 | .strct fs, t, fuel, cs, x, hs, h => by
  simp only [Sh.ok, Bool.and_eq_true, decide_eq_true_eq] at hs
  obtain ⟨hc, hs⟩ := hs
  split at hs
  ·rename_i fields hu
   obtain ⟨xs, n, _, _, hl, hxl, hf⟩ := DataW.trod_struct hu h
   obtain ⟨as0, h1, h2, h3⟩ := Fs.rep fs fields.toList 0 n cs xs hs (by simp [hxl]) (by rw [hl, hc]; simp) fun i f hi => hf i f (by simpa using hi)
   refine ⟨as0, h1, h2, by rw [hl, hc]; rfl, fun i c a hci ha => h3 i c a (by simpa using hci) ha⟩
  ·cases hs
theorem Fs.rep : ∀ (fs : Fs) (fields : List Field) (off n : Nat) (cs : List Value) (xs : List (DataW H × List MemPlace)), fs.ok P fields off = true → xs.length = fields.length → cs.length = off + fs.size →
  (∀ (i : Nat) (f : Field), fields[i]? = some f → DataW.trod enc P w base spare held n f.type ((cs.drop f.offset).take (P.cellsOf f.type)) = xs[i]?) →
  ∃ as0, fs.V as0 ∧ as0.length = fs.size ∧ ∀ (i : Nat) (c : Value) (a : AV), cs[off + i]? = some c → as0[i]? = some a → RepI w (fun b => b < w.heap.size) c a ∧ c.oneCell' = true
 | .nil, fields, off, n, cs, xs, hs, hxl, hcl, hf => ⟨[], rfl, rfl, fun i c a hc ha => by simp at ha⟩
 | .cons s fs, [], off, n, cs, xs, hs, hxl, hcl, hf => by simp [Fs.ok] at hs
 | .cons s fs, f :: l, off, n, cs, [], hs, hxl, hcl, hf => by simp at hxl
 | .cons s fs, f :: l, off, n, cs, y :: xs, hs, hxl, hcl, hf => by
  simp only [Fs.ok, Bool.and_eq_true, decide_eq_true_eq] at hs
  obtain ⟨⟨h1, h2⟩, h3⟩ := hs
  have hsz := Sh.ok_size P s f.type h1
  have h0 := hf 0 f rfl
  rw [h2, hsz] at h0
  simp only [List.getElem?_cons_zero] at h0
  obtain ⟨as0, a1, a2, a3, a4⟩ := Sh.rep s f.type n _ _ h1 h0
  simp only [Fs.size] at hcl
  obtain ⟨bs, b1, b2, b3⟩ := Fs.rep fs l (off + s.size) n cs xs h3 (by simpa using hxl) (by omega) fun i g hi => by
   have := hf (i + 1) g (by simpa using hi)
   simpa using this
  refine ⟨as0 ++ bs, ⟨as0, bs, rfl, a1, b1⟩, by simp [a2, b2, Fs.size], fun i c a hc ha => ?_⟩
  by_cases hi : i < s.size
  ·rw [List.getElem?_append_left (by omega)] at ha
   refine a4 i c a ?_ ha
   rw [List.getElem?_take, if_pos hi, List.getElem?_drop]
   exact hc
  ·rw [List.getElem?_append_right (by omega)] at ha
   refine b3 (i - s.size) c a ?_ (by rw [← a2]; exact ha)
   rw [← hc]
   congr 1
   omega
end
def Sh.A (s : Sh) (a : AV) : Prop := match s with
 | .strct fs => ∃ cs, a = .agg cs ∧ fs.V cs
 | s => s.V [a]
theorem arg_rep {s : Sh} {t : TypeId} {r : Reach} {b0 : Nat} {v : Value} {d : DataW H} {ps : List MemPlace} (hs : s.ok P t = true) (hval : Value.okWide P w r b0 t v) (h : DataW.Trod enc P w base spare held t v d ps) :
  ∃ a, s.A a ∧ RepI w (fun b => b < w.heap.size) v a := by
 have h' := h
 obtain ⟨fuel, hf⟩ := h
 obtain ⟨as0, h1, h2, h3, h4⟩ := Sh.rep s t fuel _ _ hs hf
 have scal : s.size = 1 → v.cells.toList = [v] → ∃ a, s.V [a] ∧ RepI w (fun b => b < w.heap.size) v a := fun e hv => by
  rw [e] at h2
  match as0, h2 with
  | [a], _ =>
   rw [hv] at h4
   exact ⟨a, h1, (h4 0 _ _ rfl rfl).1⟩
 cases s with
 | strct fs =>
  unfold Value.okWide at hval
  simp only [Sh.ok, Bool.and_eq_true, decide_eq_true_eq] at hs
  obtain ⟨_, hs⟩ := hs
  split at hs
  ·rename_i fields hu
   rw [hu] at hval
   obtain ⟨cs, rfl, _⟩ := hval
   refine ⟨.agg as0, ⟨as0, rfl, h1⟩, .agg ?_ fun i c a hc ha => (h4 i c a ?_ ha).1⟩
   ·simp only [Value.cells, Array.length_toList] at h3
    omega
   ·simpa [Value.cells] using hc
  ·cases hs
 | int k =>
  simp only [Sh.ok, Bool.and_eq_true, decide_eq_true_eq] at hs
  obtain ⟨_, hs⟩ := hs
  split at hs
  ·rename_i hu
   obtain ⟨m, rfl, _⟩ := open_int hu hval h'
   exact scal rfl rfl
  ·cases hs
 | bool =>
  simp only [Sh.ok, Bool.and_eq_true, decide_eq_true_eq] at hs
  obtain ⟨_, hs⟩ := hs
  split at hs
  ·rename_i hu
   obtain ⟨m, rfl, _⟩ := open_bool hu hval h'
   exact scal rfl rfl
  ·cases hs
 | str =>
  simp only [Sh.ok, Bool.and_eq_true, decide_eq_true_eq] at hs
  obtain ⟨_, hs⟩ := hs
  split at hs
  ·rename_i hu
   obtain ⟨s, hv, _⟩ := DataW.trod_string hu hf
   refine scal rfl ?_
   obtain ⟨s', rfl⟩ := okWide_string hu hval
   rfl
  ·cases hs
 | slice e =>
  simp only [Sh.ok, Bool.and_eq_true, decide_eq_true_eq] at hs
  obtain ⟨_, hs⟩ := hs
  split at hs
  ·rename_i te hu
   obtain ⟨A, n, c, rfl⟩ := okWide_slice hu hval
   exact scal rfl rfl
  ·cases hs
def ShsA : List Sh → List AV → Prop
 | [], [] => True
 | s :: ss, a :: as0 => s.A a ∧ ShsA ss as0
 | _, _ => False
theorem shsA_cons {s : Sh} {ss : List Sh} {l : List AV} (h : ShsA (s :: ss) l) : ∃ a l', l = a :: l' ∧ s.A a ∧ ShsA ss l' := by
 cases l with
 | nil => exact h.elim
 | cons a l => exact ⟨a, l, rfl, h.1, h.2⟩
theorem shsA_nil {l : List AV} (h : ShsA [] l) : l = [] := by
 cases l with
 | nil => rfl
 | cons a l => exact h.elim
def ShsOk (P : Program) : List Sh → List TypeId → Bool
 | [], [] => true
 | s :: ss, t :: ts => s.ok P t && (P.readableRec t && decide (t < P.types.size)) && ShsOk P ss ts
 | _, _ => false
theorem args_rep {r : Reach} {b0 : Nat} : ∀ (ss : List Sh) (ts : List TypeId) (vs : List Value) (ds : List (DataW H)) (ps : List MemPlace), ShsOk P ss ts = true → (∀ (j : Nat) (t : TypeId) (v : Value), ts[j]? = some t → vs[j]? = some v → Value.okWide P w r b0 t v) →
  DataW.TrodAll enc P w base spare held ts vs ds ps → ∃ as0, ShsA ss as0 ∧ as0.length = vs.length ∧ ∀ (i : Nat) (v : Value) (a : AV), vs[i]? = some v → as0[i]? = some a → RepI w (fun b => b < w.heap.size) v a
 | [], [], vs, ds, ps, _, _, h => by
  obtain ⟨rfl, _, _⟩ := trodAll_nil h
  exact ⟨[], trivial, rfl, fun i v a hv => by simp at hv⟩
 | [], t :: ts, vs, ds, ps, hs, _, h => by simp [ShsOk] at hs
 | s :: ss, [], vs, ds, ps, hs, _, h => by simp [ShsOk] at hs
 | s :: ss, t :: ts, vs, ds, ps, hs, hval, h => by
  simp only [ShsOk, Bool.and_eq_true, decide_eq_true_eq] at hs
  match vs, ds, h with
  | v :: vs, d :: ds, ⟨p, q, h1, h2, _⟩ =>
   obtain ⟨a, a1, a2⟩ := arg_rep hs.1.1 (hval 0 t v rfl rfl) h1
   obtain ⟨as0, b1, b2, b3⟩ := args_rep ss ts vs ds q hs.2 (fun j t v ht hv => hval (j + 1) t v (by simpa using ht) (by simpa using hv)) h2
   refine ⟨a :: as0, ⟨a1, b1⟩, by simp [b2], fun i v' a' hv ha => ?_⟩
   rcases i with _ | i
   ·simp at hv ha
    subst hv; subst ha
    exact a2
   ·exact b3 i v' a' (by simpa using hv) (by simpa using ha)
theorem trodAll_stays (hl : laidOutB P = true) {W W' : World} {sp : Nat → Bool} : ∀ (ss : List Sh) (ts : List TypeId) (vs : List Value) (ds : List (DataW H)) (ps : List MemPlace), ShsOk P ss ts = true → DataW.TrodAll enc P W 0 (fun _ => true) true ts vs ds ps →
  (∀ p ∈ ps, W.sameAt W' p) → (∀ p ∈ ps, sp p.block = true) → DataW.TrodAll enc P W' 0 sp true ts vs ds ps
 | [], [], vs, ds, ps, _, h, _, _ => by
  obtain ⟨rfl, rfl, rfl⟩ := trodAll_nil h
  exact rfl
 | [], t :: ts, vs, ds, ps, hs, h, _, _ => by simp [ShsOk] at hs
 | s :: ss, [], vs, ds, ps, hs, h, _, _ => by simp [ShsOk] at hs
 | s :: ss, t :: ts, vs, ds, ps, hs, h, hsame, hsp => by
  simp only [ShsOk, Bool.and_eq_true, decide_eq_true_eq] at hs
  match vs, ds, h with
  | v :: vs, d :: ds, ⟨p, q, h1, h2, hp⟩ =>
   subst hp
   exact ⟨p, q, WideElems.Trod_stays hl hs.1.2.1 hs.1.2.2 h1 (fun x hx => hsame x (by simp [hx])) (fun x hx => hsp x (by simp [hx])),
    trodAll_stays hl ss ts vs ds q hs.2 h2 (fun x hx => hsame x (by simp [hx])) (fun x hx => hsp x (by simp [hx])), rfl⟩
theorem trodAll_dlen : ∀ (ts : List TypeId) (vs : List Value) (ds : List (DataW H)) (ps : List MemPlace), DataW.TrodAll enc P w base spare held ts vs ds ps → ds.length = ts.length
 | [], vs, ds, ps, h => by
  obtain ⟨_, rfl, _⟩ := trodAll_nil h
  rfl
 | t :: ts, vs, ds, ps, h => by
  match vs, ds, h with
  | v :: vs, d :: ds, ⟨p, q, _, h2, _⟩ => simp [trodAll_dlen ts vs ds q h2]
theorem list_len5 {α : Type} {l : List α} (h : l.length = 5) : ∃ a0 a1 a2 a3 a4, l = [a0, a1, a2, a3, a4] := by
 match l, h with
 | [a0, a1, a2, a3, a4], _ => exact ⟨a0, a1, a2, a3, a4, rfl⟩
end
end Go.PA
namespace Go.Proofs.YtmpncdlhmknkoaaGreat
open Go.PA
open Go.RowKit
def fits (n : Int) : Prop := -9223372036854775808 ≤ n ∧ n ≤ 9223372036854775807
theorem fits_wf {n : Int} (h : (Lit.int .i64 n).wf = true) : fits n := by
 simp only [Lit.wf, Bool.and_eq_true, decide_eq_true_eq] at h
 exact h
theorem of_int (as0 : List AV) (h : (Sh.int .i64).V as0) : ∃ x : Int, as0 = encI x ∧ fits x := by
 obtain ⟨n, rfl, h⟩ := h
 exact ⟨n, rfl, fits_wf h⟩
theorem of_list {α : Type} {enc : α → List AV} {wf : α → Prop} {s : Sh} (h : ∀ as0, s.V as0 → ∃ x : α, as0 = enc x ∧ wf x) : ∀ es : List (List AV), (∀ x, x ∈ es → s.V x) → ∃ l : List α, es = encL enc l ∧ ∀ z, z ∈ l → wf z
 | [], _ => ⟨[], rfl, by simp⟩
 | e :: es, he => by
  obtain ⟨a, rfl, ha⟩ := h e (he e (by simp))
  obtain ⟨l, rfl, hl⟩ := of_list h es fun x hx => he x (List.mem_cons_of_mem _ hx)
  refine ⟨a :: l, rfl, fun z hz => ?_⟩
  rcases List.mem_cons.1 hz with rfl | hz
  ·exact ha
  ·exact hl z hz
theorem of_slice {α : Type} {enc : α → List AV} {wf : α → Prop} (s : Sh) (h : ∀ as0, s.V as0 → ∃ x : α, as0 = enc x ∧ wf x) (as0 : List AV) (hs : (Sh.slice s).V as0) : ∃ l : List α, as0 = [.list s.size (encL enc l)] ∧ (l.length ≤ maxLen ∧ ∀ z, z ∈ l → wf z) := by
 obtain ⟨es, rfl, hl, he⟩ := hs
 obtain ⟨l, rfl, hw⟩ := of_list h es he
 exact ⟨l, rfl, by simpa [encL] using hl, hw⟩
def TSub.shF : Fs := .cons (.int .i64) <| .cons (.int .i64) <|  .nil
def TSub.wf (x : TSub) : Prop := fits x.ID ∧ fits x.Balance
theorem TSub.of (as0 : List AV) (h : (Sh.strct TSub.shF).V as0) : ∃ x : TSub, as0 = x.cells ∧ x.wf := by
 obtain ⟨_, _, rfl, h0, _, _, rfl, h1, rfl⟩ := h
 obtain ⟨x0, rfl, w0⟩ := of_int _ h0
 obtain ⟨x1, rfl, w1⟩ := of_int _ h1
 exact ⟨⟨x0, x1⟩, rfl, w0, w1⟩
def TEntry.shF : Fs := .cons (.int .i64) <| .cons (.int .i64) <| .cons (.int .i64) <| .cons (.int .i64) <| .cons (.int .i64) <| .cons (.int .i64) <|  .nil
def TEntry.wf (x : TEntry) : Prop := fits x.Number ∧ fits x.Day ∧ fits x.From ∧ fits x.To ∧ fits x.Amount ∧ fits x.Ref
theorem TEntry.of (as0 : List AV) (h : (Sh.strct TEntry.shF).V as0) : ∃ x : TEntry, as0 = x.cells ∧ x.wf := by
 obtain ⟨_, _, rfl, h0, _, _, rfl, h1, _, _, rfl, h2, _, _, rfl, h3, _, _, rfl, h4, _, _, rfl, h5, rfl⟩ := h
 obtain ⟨x0, rfl, w0⟩ := of_int _ h0
 obtain ⟨x1, rfl, w1⟩ := of_int _ h1
 obtain ⟨x2, rfl, w2⟩ := of_int _ h2
 obtain ⟨x3, rfl, w3⟩ := of_int _ h3
 obtain ⟨x4, rfl, w4⟩ := of_int _ h4
 obtain ⟨x5, rfl, w5⟩ := of_int _ h5
 exact ⟨⟨x0, x1, x2, x3, x4, x5⟩, rfl, w0, w1, w2, w3, w4, w5⟩
def TAccount.shF : Fs := .cons (.int .i64) <| .cons (.slice (.strct TSub.shF)) <| .cons (.slice (.strct TEntry.shF)) <|  .nil
def TAccount.wf (x : TAccount) : Prop := fits x.Credit ∧ (x.Subs.length ≤ maxLen ∧ ∀ z, z ∈ x.Subs → z.wf) ∧ (x.Entries.length ≤ maxLen ∧ ∀ z, z ∈ x.Entries → z.wf)
theorem TAccount.of (as0 : List AV) (h : (Sh.strct TAccount.shF).V as0) : ∃ x : TAccount, as0 = x.cells ∧ x.wf := by
 obtain ⟨_, _, rfl, h0, _, _, rfl, h1, _, _, rfl, h2, rfl⟩ := h
 obtain ⟨x0, rfl, w0⟩ := of_int _ h0
 obtain ⟨x1, rfl, w1⟩ := (of_slice (.strct TSub.shF) TSub.of) _ h1
 obtain ⟨x2, rfl, w2⟩ := (of_slice (.strct TEntry.shF) TEntry.of) _ h2
 exact ⟨⟨x0, x1, x2⟩, rfl, w0, w1, w2⟩
def TPayment.shF : Fs := .cons (.int .i64) <| .cons (.int .i64) <| .cons (.int .i64) <| .cons (.int .i64) <| .cons (.int .i64) <|  .nil
def TPayment.wf (x : TPayment) : Prop := fits x.Warrant ∧ fits x.Payee ∧ fits x.Amount ∧ fits x.Due ∧ fits x.Sub
theorem TPayment.of (as0 : List AV) (h : (Sh.strct TPayment.shF).V as0) : ∃ x : TPayment, as0 = x.cells ∧ x.wf := by
 obtain ⟨_, _, rfl, h0, _, _, rfl, h1, _, _, rfl, h2, _, _, rfl, h3, _, _, rfl, h4, rfl⟩ := h
 obtain ⟨x0, rfl, w0⟩ := of_int _ h0
 obtain ⟨x1, rfl, w1⟩ := of_int _ h1
 obtain ⟨x2, rfl, w2⟩ := of_int _ h2
 obtain ⟨x3, rfl, w3⟩ := of_int _ h3
 obtain ⟨x4, rfl, w4⟩ := of_int _ h4
 exact ⟨⟨x0, x1, x2, x3, x4⟩, rfl, w0, w1, w2, w3, w4⟩
def TBatch.shF : Fs := .cons (.int .i64) <| .cons (.int .i64) <| .cons (.slice (.strct TPayment.shF)) <|  .nil
def TBatch.wf (x : TBatch) : Prop := fits x.Number ∧ fits x.Day ∧ (x.Payments.length ≤ maxLen ∧ ∀ z, z ∈ x.Payments → z.wf)
theorem TBatch.of (as0 : List AV) (h : (Sh.strct TBatch.shF).V as0) : ∃ x : TBatch, as0 = x.cells ∧ x.wf := by
 obtain ⟨_, _, rfl, h0, _, _, rfl, h1, _, _, rfl, h2, rfl⟩ := h
 obtain ⟨x0, rfl, w0⟩ := of_int _ h0
 obtain ⟨x1, rfl, w1⟩ := of_int _ h1
 obtain ⟨x2, rfl, w2⟩ := (of_slice (.strct TPayment.shF) TPayment.of) _ h2
 exact ⟨⟨x0, x1, x2⟩, rfl, w0, w1, w2⟩
def TQueue.shF : Fs := .cons (.slice (.strct TPayment.shF)) <| .cons (.slice (.int .i64)) <| .cons (.slice (.strct TBatch.shF)) <|  .nil
def TQueue.wf (x : TQueue) : Prop := (x.Waiting.length ≤ maxLen ∧ ∀ z, z ∈ x.Waiting → z.wf) ∧ (x.Known.length ≤ maxLen ∧ ∀ z, z ∈ x.Known → fits z) ∧ (x.Batches.length ≤ maxLen ∧ ∀ z, z ∈ x.Batches → z.wf)
theorem TQueue.of (as0 : List AV) (h : (Sh.strct TQueue.shF).V as0) : ∃ x : TQueue, as0 = x.cells ∧ x.wf := by
 obtain ⟨_, _, rfl, h0, _, _, rfl, h1, _, _, rfl, h2, rfl⟩ := h
 obtain ⟨x0, rfl, w0⟩ := (of_slice (.strct TPayment.shF) TPayment.of) _ h0
 obtain ⟨x1, rfl, w1⟩ := (of_slice (.int .i64) of_int) _ h1
 obtain ⟨x2, rfl, w2⟩ := (of_slice (.strct TBatch.shF) TBatch.of) _ h2
 exact ⟨⟨x0, x1, x2⟩, rfl, w0, w1, w2⟩
def TItem.shF : Fs := .cons (.strct TPayment.shF) <| .cons (.int .i64) <| .cons (.int .i64) <|  .nil
def TItem.wf (x : TItem) : Prop := x.Payment.wf ∧ fits x.State ∧ fits x.Attempts
theorem TItem.of (as0 : List AV) (h : (Sh.strct TItem.shF).V as0) : ∃ x : TItem, as0 = x.cells ∧ x.wf := by
 obtain ⟨_, _, rfl, h0, _, _, rfl, h1, _, _, rfl, h2, rfl⟩ := h
 obtain ⟨x0, rfl, w0⟩ := TPayment.of _ h0
 obtain ⟨x1, rfl, w1⟩ := of_int _ h1
 obtain ⟨x2, rfl, w2⟩ := of_int _ h2
 exact ⟨⟨x0, x1, x2⟩, rfl, w0, w1, w2⟩
def TDesk.shF : Fs := .cons (.strct TAccount.shF) <| .cons (.strct TQueue.shF) <| .cons (.slice (.strct TItem.shF)) <|  .nil
def TDesk.wf (x : TDesk) : Prop := x.Account.wf ∧ x.Queue.wf ∧ (x.Items.length ≤ maxLen ∧ ∀ z, z ∈ x.Items → z.wf)
theorem TDesk.of (as0 : List AV) (h : (Sh.strct TDesk.shF).V as0) : ∃ x : TDesk, as0 = x.cells ∧ x.wf := by
 obtain ⟨_, _, rfl, h0, _, _, rfl, h1, _, _, rfl, h2, rfl⟩ := h
 obtain ⟨x0, rfl, w0⟩ := TAccount.of _ h0
 obtain ⟨x1, rfl, w1⟩ := TQueue.of _ h1
 obtain ⟨x2, rfl, w2⟩ := (of_slice (.strct TItem.shF) TItem.of) _ h2
 exact ⟨⟨x0, x1, x2⟩, rfl, w0, w1, w2⟩
open Go.ChangeShapes Go.WideShapes Go.ChangeAt Go.RowKit
open Go.PA (RepI PFun AV Rep Sh ShsA Fs)
theorem arg_ints {a : AV} (h : (Sh.slice (.int .i64)).A a) : ∃ l : List Int, a = intsL l ∧ Small l ∧ l.length ≤ 9223372036854775807 := by
 obtain ⟨l, e, hl, hw⟩ := of_slice (.int .i64) of_int [a] h
 have hml : maxLen ≤ 9223372036854775807 := by decide
 simp only [List.cons.injEq, and_true] at e
 exact ⟨l, e, hw, by omega⟩
theorem arg_int {a : AV} (h : (Sh.int .i64).A a) : ∃ n : Int, a = iv n ∧ fits n := by
 obtain ⟨n, e, hw⟩ := of_int [a] h
 simp only [encI, List.cons.injEq, and_true] at e
 exact ⟨n, e, hw⟩
open Go.PA
def amongB (n lo hi : Int) : Bool := decide (lo ≤ n) && decide (n ≤ hi)
theorem amongB_iff {n lo hi : Int} : amongB n lo hi = true ↔ lo ≤ n ∧ n ≤ hi := by simp [amongB]
def vB (n : Int) : Bool := amongB n 0 1000000000000
def ascA : Int → List Int → Bool
 | _, [] => true
 | p, i :: l => amongB i 1 1000 && (decide (p < i) && ascA i l)
def numB (ids : List Int) : Bool := ascA 0 ids && decide (ids.head? = some 1)
def ids (l : List TSub) : List Int := l.map (·.ID)
theorem ids_len (l : List TSub) : (ids l).length = l.length := by simp [ids]
theorem ids_get (l : List TSub) (i : Nat) : (ids l)[i]? = (l[i]?).map (·.ID) := by simp [ids]
theorem ascA_gt : ∀ (l : List Int) (p : Int), ascA p l = true → ∀ i, i ∈ l → p < i ∧ 1 ≤ i ∧ i ≤ 1000
 | [], p, _, i, hi => by simp at hi
 | a :: l, p, h, i, hi => by
  simp only [ascA, Bool.and_eq_true, amongB_iff, decide_eq_true_eq] at h
  rcases List.mem_cons.1 hi with rfl | hi
  ·exact ⟨h.2.1, h.1⟩
  ·have := ascA_gt l a h.2.2 i hi
   omega
theorem ascA_nodup : ∀ (l : List Int) (p : Int), ascA p l = true → l.Nodup
 | [], p, _ => List.nodup_nil
 | a :: l, p, h => by
  simp only [ascA, Bool.and_eq_true, amongB_iff, decide_eq_true_eq] at h
  refine List.nodup_cons.2 ⟨fun hm => ?_, ascA_nodup l a h.2.2⟩
  have := ascA_gt l a h.2.2 a hm
  omega
def adj (l : List TSub) (id amt : Int) : List TSub := l.map fun s => if s.ID = id then ⟨s.ID, s.Balance + amt⟩ else s
theorem adj_len (l : List TSub) (id amt : Int) : (adj l id amt).length = l.length := by simp [adj]
theorem adj_ids (l : List TSub) (id amt : Int) : ids (adj l id amt) = ids l := by
 simp only [ids, adj, List.map_map]
 apply List.map_congr_left
 intro s _
 simp only [Function.comp]
 split <;> rfl
theorem adj_none {l : List TSub} {id amt : Int} (h : id ∉ ids l) : adj l id amt = l := by
 have : ∀ s, s ∈ l → (if s.ID = id then (⟨s.ID, s.Balance + amt⟩ : TSub) else s) = s := fun s hs => by
  rw [if_neg]
  intro e
  exact h (List.mem_map.2 ⟨s, hs, e⟩)
 unfold adj
 rw [List.map_congr_left this]
 simp
theorem adj_get (l : List TSub) (id amt : Int) (i : Nat) : (adj l id amt)[i]? = (l[i]?).map fun s => if s.ID = id then ⟨s.ID, s.Balance + amt⟩ else s := by simp [adj]
theorem nodup_get {l : List TSub} (h : (ids l).Nodup) {i j : Nat} {a b : TSub} (hi : l[i]? = some a) (hj : l[j]? = some b) (e : a.ID = b.ID) : i = j := by
 have h1 : (ids l)[i]? = some a.ID := by rw [ids_get, hi]; rfl
 have h2 : (ids l)[j]? = some a.ID := by rw [ids_get, hj, e]; rfl
 exact (List.getElem?_inj (gsI h1) h).1 (h1.trans h2.symm)
theorem set_adj {l : List TSub} (hn : (ids l).Nodup) {i : Nat} {a : TSub} (hi : l[i]? = some a) (amt : Int) : l.set i ⟨a.ID, a.Balance + amt⟩ = adj l a.ID amt := by
 apply List.ext_getElem?
 intro j
 rw [adj_get, List.getElem?_set]
 by_cases hij : i = j
 ·subst hij
  have := (gsI hi)
  simp [-getElem?_pos, this, hi]
 ·rw [if_neg hij]
  cases hj : l[j]? with
  | none => rfl
  | some b =>
   have : ¬ b.ID = a.ID := fun e => hij (nodup_get hn hi hj e.symm)
   simp [this]
def placeI (l : List TSub) (id : Int) : Int := idxI (fun s => decide (s.ID = id)) l
theorem placeI_spec (l : List TSub) (id : Int) : (placeI l id = -1 ∧ id ∉ ids l) ∨ ∃ (i : Nat) (a : TSub), l[i]? = some a ∧ a.ID = id ∧ placeI l id = (i : Int) ∧ id ∈ ids l := by
 rcases idxI_spec (fun s : TSub => decide (s.ID = id)) l with ⟨h1, h2⟩ | ⟨i, a, h1, h2, h3, _⟩
 ·refine .inl ⟨h1, fun hm => ?_⟩
  obtain ⟨s, hs, e⟩ := List.mem_map.1 hm
  have := h2 s hs
  simp [e] at this
 ·exact .inr ⟨i, a, h1, by simpa using h2, h3, List.mem_map.2 ⟨a, List.mem_of_getElem? h1, by simpa using h2⟩⟩
def okSub (credit : Int) (s : TSub) : Bool := decide ((if s.ID = 1 then -credit else 0) ≤ s.Balance) && decide (s.Balance ≤ 1000000000000000)
def okAt (credit : Int) (l : List TSub) (id : Int) : Bool := l.all fun s => !decide (s.ID = id) || okSub credit s
def okAll (credit : Int) (l : List TSub) : Bool := l.all (okSub credit)
theorem okAt_none {credit : Int} {l : List TSub} {id : Int} (h : id ∉ ids l) : okAt credit l id = true := by
 refine List.all_eq_true.2 fun s hs => ?_
 have : ¬ s.ID = id := fun e => h (List.mem_map.2 ⟨s, hs, e⟩)
 simp [this]
theorem okAt_get {credit : Int} {l : List TSub} (hn : (ids l).Nodup) {i : Nat} {a : TSub} (hi : l[i]? = some a) : okAt credit l a.ID = okSub credit a := by
 rw [Bool.eq_iff_iff, okAt, List.all_eq_true]
 constructor
 ·intro h
  have := h a (List.mem_of_getElem? hi)
  simpa using this
 ·intro h s hs
  obtain ⟨j, hj⟩ := List.getElem?_of_mem hs
  by_cases e : s.ID = a.ID
  ·have := nodup_get hn hi hj e.symm
   subst this
   rw [hi] at hj
   simp only [Option.some.injEq] at hj
   subst hj
   simp [h]
  ·simp [e]
def badNum (n : Int) (e : TEntry) : Bool := !decide (e.Number = n + 1)
def badDay (d : Int) (e : TEntry) : Bool := !amongB e.Day d 36000
def badAmt (e : TEntry) : Bool := !(decide (0 < e.Amount) && vB e.Amount) || !amongB e.Ref 0 1000000
def knownB (l : List TSub) (id : Int) : Bool := decide (id = 0) || decide (0 ≤ placeI l id)
theorem knownB_iff (l : List TSub) (id : Int) : knownB l id = true ↔ id = 0 ∨ id ∈ ids l := by
 unfold knownB
 rcases placeI_spec l id with ⟨h1, h2⟩ | ⟨i, a, _, _, h3, h4⟩
 ·simp [h1, h2]
 ·simp [h3, h4]
def badSub (l : List TSub) (e : TEntry) : Bool := decide (e.From = e.To) || (!knownB l e.From || !knownB l e.To)
def postS (credit n d : Int) (l : List TSub) (e : TEntry) : Int × List TSub :=
 if badNum n e = true then (65, l) else if badDay d e = true then (8, l) else if badAmt e = true then (2, l) else if badSub l e = true then (60, l) else
 if okAt credit (adj l e.From (-e.Amount)) e.From = false then (61, adj l e.From (-e.Amount)) else
 if okAt credit (adj (adj l e.From (-e.Amount)) e.To e.Amount) e.To = false then (61, adj (adj l e.From (-e.Amount)) e.To e.Amount) else (0, adj (adj l e.From (-e.Amount)) e.To e.Amount)
def replayS (credit : Int) : Int → Int → List TSub → List TEntry → Option (Int × Int × List TSub)
 | n, d, l, [] => some (n, d, l)
 | n, d, l, e :: es => if (postS credit n d l e).1 = 0 then replayS credit e.Number e.Day (postS credit n d l e).2 es else none
def zeroS (l : List TSub) : List TSub := l.map fun s => ⟨s.ID, 0⟩
theorem zeroS_ids (l : List TSub) : ids (zeroS l) = ids l := by simp [ids, zeroS]
theorem zeroS_len (l : List TSub) : (zeroS l).length = l.length := by simp [zeroS]
def checkA (a : TAccount) : Int :=
 if 20 < a.Subs.length ∨ 400 < a.Entries.length then 3 else if (!vB a.Credit || !numB (ids a.Subs)) = true then 62 else
 match replayS a.Credit 0 0 (zeroS a.Subs) a.Entries with
 | none => 62
 | some r => if r.2.2 = a.Subs then 0 else 62
theorem postS_ids (credit n d : Int) (l : List TSub) (e : TEntry) : ids (postS credit n d l e).2 = ids l := by
 unfold postS
 repeat' split
 all_goals simp [adj_ids]
theorem okAll_adj {credit : Int} {l : List TSub} {id amt : Int} (h : okAll credit l = true) (ha : okAt credit (adj l id amt) id = true) : okAll credit (adj l id amt) = true := by
 refine List.all_eq_true.2 fun s hs => ?_
 by_cases e : s.ID = id
 ·have := List.all_eq_true.1 ha s hs
  simpa [e] using this
 ·obtain ⟨t, ht, hst⟩ := List.mem_map.1 hs
  split at hst
  ·rename_i h'
   subst hst
   exact absurd h' e
  ·subst hst
   exact List.all_eq_true.1 h t ht
theorem postS_ok {credit n d : Int} {l : List TSub} {e : TEntry} (h : (postS credit n d l e).1 = 0) :
  e.Number = n + 1 ∧ d ≤ e.Day ∧ e.Day ≤ 36000 ∧ 0 < e.Amount ∧ e.Amount ≤ 1000000000000 ∧ 0 ≤ e.Ref ∧ e.Ref ≤ 1000000 ∧ e.From ≠ e.To ∧ (e.From = 0 ∨ e.From ∈ ids l) ∧ (e.To = 0 ∨ e.To ∈ ids l) ∧
   okAt credit (adj l e.From (-e.Amount)) e.From = true ∧ okAt credit (adj (adj l e.From (-e.Amount)) e.To e.Amount) e.To = true ∧ (postS credit n d l e).2 = adj (adj l e.From (-e.Amount)) e.To e.Amount := by
 unfold postS at h ⊢
 split at h
 ·simp at h
 rename_i h1
 rw [if_neg h1]
 split at h
 ·simp at h
 rename_i h2
 rw [if_neg h2]
 split at h
 ·simp at h
 rename_i h3
 rw [if_neg h3]
 split at h
 ·simp at h
 rename_i h4
 rw [if_neg h4]
 split at h
 ·simp at h
 rename_i h5
 rw [if_neg h5]
 split at h
 ·simp at h
 rename_i h6
 rw [if_neg h6]
 have h1 : e.Number = n + 1 := by simpa [badNum] using h1
 have h2 : d ≤ e.Day ∧ e.Day ≤ 36000 := by simpa [badDay, amongB] using h2
 have h3 : (0 < e.Amount ∧ (0 ≤ e.Amount ∧ e.Amount ≤ 1000000000000)) ∧ (0 ≤ e.Ref ∧ e.Ref ≤ 1000000) := by simpa [badAmt, vB, amongB] using h3
 have h4 : ¬ e.From = e.To ∧ (knownB l e.From = true ∧ knownB l e.To = true) := by simpa [badSub] using h4
 rw [knownB_iff, knownB_iff] at h4
 exact ⟨h1, h2.1, h2.2, h3.1.1, h3.1.2.2, h3.2.1, h3.2.2, h4.1, h4.2.1, h4.2.2, by simpa using h5, by simpa using h6, rfl⟩
theorem postS_all {credit n d : Int} {l : List TSub} {e : TEntry} (h : (postS credit n d l e).1 = 0) (hl : okAll credit l = true) : okAll credit (postS credit n d l e).2 = true := by
 obtain ⟨_, _, _, _, _, _, _, _, _, _, h1, h2, h3⟩ := postS_ok h
 rw [h3]
 exact okAll_adj (okAll_adj hl h1) h2
theorem zeroS_all {credit : Int} (hc : 0 ≤ credit) (l : List TSub) : okAll credit (zeroS l) = true := by
 refine List.all_eq_true.2 fun s hs => ?_
 obtain ⟨t, _, rfl⟩ := List.mem_map.1 hs
 simp [okSub]
 split <;> omega
theorem replayS_app (credit : Int) : ∀ (es es' : List TEntry) (n d : Int) (l : List TSub), replayS credit n d l (es ++ es') = (replayS credit n d l es).bind fun r => replayS credit r.1 r.2.1 r.2.2 es'
 | [], es', n, d, l => rfl
 | e :: es, es', n, d, l => by
  rw [List.cons_append, replayS, replayS]
  split
  ·exact replayS_app credit es es' _ _ _
  ·rfl
theorem replayS_keeps (credit : Int) : ∀ (es : List TEntry) (n d : Int) (l : List TSub) (r : Int × Int × List TSub), okAll credit l = true → replayS credit n d l es = some r →
  okAll credit r.2.2 = true ∧ ids r.2.2 = ids l ∧ r.1 = n + es.length ∧ d ≤ r.2.1 ∧ (d ≤ 36000 → r.2.1 ≤ 36000)
 | [], n, d, l, r, hl, h => by
  simp only [replayS, Option.some.injEq] at h
  subst h
  exact ⟨hl, rfl, by simp, Int.le_refl _, fun h => h⟩
 | e :: es, n, d, l, r, hl, h => by
  rw [replayS] at h
  split at h
  ·rename_i hp
   obtain ⟨h1, h2, h3, _⟩ := postS_ok hp
   obtain ⟨a1, a2, a3, a4, a5⟩ := replayS_keeps credit es _ _ _ r (postS_all hp hl) h
   refine ⟨a1, a2.trans (postS_ids _ _ _ _ _), by rw [a3, h1, List.length_cons]; omega, by omega, fun _ => a5 h3⟩
  ·cases h
open Go.PA
open Go.RowKit
theorem clone_m_entry {row src : Option Nat} (l : List TEntry) (H : Heap) (hl : l.length ≤ 1000000) : MFun Tryz.prog row src 129 [.list 6 (encL TEntry.cells l)] H (fun r H' => ∃ id, r = .sref id 0 l.length ∧ H.length ≤ id ∧ H'[id]? = some (some ⟨48, 6, encL TEntry.cells l⟩) ∧ Kept [] H H') := by
 have own : MFun Tryz.prog row src 129 [.list 6 (encL TEntry.cells l)] H (fun r H' => (r = .nil ∧ l = [] ∧ H' = H) ∨ ∃ id, r = .sref id 0 l.length ∧ H.length ≤ id ∧ H'[id]? = some (some ⟨48, 6, encL TEntry.cells l⟩) ∧ Kept [] H H') := by
  cases l with
  | nil =>
   refine mfun_list_nil fun A c => ?_
   refine mfun_intro Tryz.func129 rfl (by simp [Tryz.f129]) (by kernel_rfl) ⟨.nil, H, .inl ⟨rfl, rfl, rfl⟩⟩ ?_
   intro E hP hr hs hN
   cases A with
   | none => simp -dsimp -implicitDefEqProofs [-getElem?_pos, go_sem, hP]
   | some a =>
    simp -dsimp -implicitDefEqProofs [-getElem?_pos, go_sem, hP]
    exact kept_app _ _ _
  | cons a l =>
   refine mfun_intro Tryz.func129 rfl (by simp [Tryz.f129]) (by kernel_rfl) ⟨_, H ++ [some ⟨48, 6, encL TEntry.cells (a :: l)⟩], .inr ⟨H.length, rfl, Nat.le_refl _, by simp, kept_push _ (kept_refl _ _)⟩⟩ ?_
   intro E hP hr hs hN
   simp only [List.length_cons] at hl
   have e : encL TEntry.cells (a :: l) = TEntry.cells a :: encL TEntry.cells l := rfl
   simp -dsimp -implicitDefEqProofs [-getElem?_pos, go_sem, hP, e]
   refine ⟨by omega, by omega, ?_⟩
   exact kept_app _ _ _
 refine (own.ownNil 48 6).mono ?_
 rintro r H' (⟨H0, h0, rfl, rfl⟩ | ⟨hne, h⟩)
 ·rcases h0 with ⟨_, rfl, rfl⟩ | ⟨id, h, _⟩
  ·exact ⟨_, rfl, Nat.le_refl _, by simp [encL], kept_push _ (kept_refl _ _)⟩
  ·cases h
 ·rcases h with ⟨h, _⟩ | h
  ·exact absurd h hne
  ·exact h
theorem index_m_sub {row src : Option Nat} (l : List TSub) (x : AV) (H : Heap) (g : FuncId) (caps : List AV) (p : TSub → Bool) (hx : SlIs H x 2 (encL TSub.cells l)) (hl : l.length ≤ 1000000) (hen : enterable Tryz.prog g = true)
  (hg : ∀ a, a ∈ l → ∀ H', Kept [] H H' → MFun Tryz.prog row src g (.agg (TSub.cells a) :: caps) H' (fun r H'' => r = bv (p a) ∧ Kept [] H' H'')) :
  MFun Tryz.prog row src 139 [x, .fn g caps] H (fun r H' => r = iv (idxI p l) ∧ Kept [] H H') := by
 refine mfun_intro Tryz.func139 rfl (by simp [Tryz.f139]) (by kernel_rfl) ⟨_, H, rfl, kept_refl _ _⟩ ?_
 intro E hP hr hs hN
 have hlen := hx.len
 rw [encL_len] at hlen
 simp -dsimp -implicitDefEqProofs [-getElem?_pos, go_sem, hP, hlen]
 obtain ⟨I, hI⟩ : ∃ I : Nat → St → Prop, I = fun m s => ∃ k : Nat, k ≤ l.length ∧ m = l.length - k ∧ idxI p l = idxFrom p k (l.drop k) ∧ s.t 0 = x ∧ s.t 1 = .fn g caps ∧ s.t 7 = iv l.length ∧ s.t 8 = iv k ∧ Kept [] H s.H := ⟨_, rfl⟩
 refine aloop0 I l.length (by rw [hN]; rfl) ?_ ?_
 ·rw [hI]
  exact ⟨0, by omega, by omega, by simp [idxI], by simp -dsimp [-getElem?_pos, go_sem], by simp -dsimp [-getElem?_pos, go_sem], by simp -dsimp [-getElem?_pos, go_sem], by simp -dsimp [-getElem?_pos, go_sem], by simp -dsimp [-getElem?_pos, go_sem]; exact kept_refl _ _⟩
 intro m s hs'
 rw [hI] at hs'
 obtain ⟨k, hk, hm, hi, t0, t1, t7, t8, hKp⟩ := hs'
 simp -dsimp -implicitDefEqProofs [-getElem?_pos, go_sem, hP, t7, t8]
 refine condP (fun h => ?_) (fun h => ?_)
 ·have hk : k < l.length := by simpa using h
  obtain ⟨a, ha⟩ : ∃ a, l[k]? = some a := ⟨_, List.getElem?_eq_getElem hk⟩
  have wk := wrap_in ((k : Int) + 1) (by omega)
  obtain ⟨ad, h1, h2⟩ := (hx.kept hKp).idx (P := Tryz.prog) (t := 25) (e := 98) el_25 (by rw [sz_98]) kn_98 k (by rw [encL_len]; exact hk)
  have h2' : addrCells s.H ad = some (TSub.cells a) := by
   rw [h2]
   have := encL_get TSub.cells l k
   rw [ha, List.getElem?_eq_getElem (by rw [encL_len]; exact hk)] at this
   exact this
  have hz : (TSub.cells a).take 2 = TSub.cells a := List.take_of_length_le (by rw [TSub.len]; omega)
  simp -dsimp -implicitDefEqProofs [-getElem?_pos, go_sem, hP, t8, t1, t0, h1, h2', TSub.len, hz]
  have hd : l.drop k = a :: l.drop (k + 1) := by
   rw [List.getElem?_eq_getElem hk] at ha
   rw [List.drop_eq_getElem_cons hk, Option.some.inj ha]
  refine callB_m (by rw [hr, hs]; exact hg a (List.mem_of_getElem? ha) s.H hKp) hP hen ?_
  rintro r H' ⟨rfl, hK2⟩
  rw [hd] at hi
  simp only [idxFrom] at hi
  simp -dsimp -implicitDefEqProofs [-getElem?_pos, go_sem, hP]
  refine condP (fun hp => ?_) (fun hp => ?_)
  ·rw [if_pos hp] at hi
   simp -dsimp -implicitDefEqProofs [-getElem?_pos, go_sem, hP]
   exact ⟨hi.symm, hKp.trans hK2⟩
  ·rw [hp, if_neg (by simp)] at hi
   simp -dsimp -implicitDefEqProofs [-getElem?_pos, go_sem, hP, t8, wk]
   refine ⟨l.length - (k + 1), by omega, ?_⟩
   rw [hI]
   exact ⟨k + 1, by omega, rfl, hi, by simp -dsimp [-getElem?_pos, go_sem, t0], by simp -dsimp [-getElem?_pos, go_sem, t1], by simp -dsimp [-getElem?_pos, go_sem, t7], by simp -dsimp [-getElem?_pos, go_sem], by simp -dsimp [-getElem?_pos, go_sem]; exact hKp.trans hK2⟩
 ·have hk : k = l.length := by simp at h; omega
  subst hk
  rw [List.drop_length] at hi
  simp -dsimp -implicitDefEqProofs [-getElem?_pos, go_sem, hP]
  exact ⟨hi.symm, hKp⟩
end Go.Proofs.YtmpncdlhmknkoaaGreat
