/- PA, part 9: what an operation does, calls among them. -/
import Derived.Test.YtellcfkpfccgaaaPaMap
namespace Go.PA
open Go.RowKit

def aread (P : Program) (op : Op) (ev : Operand → AV) (H : Heap) : Option AV :=
  match op with
  | .build t parts => abuild P t (parts.toList.map fun p => (p.1, ev p.2))
  | .buildSlice t n parts => abuildSlice P t n (parts.toList.map fun p => (p.1, ev p.2))
  | op => aval P op ev H

/-- A call, whatever is behind it: what it gives and what it makes of the objects. -/
def ACall (E : Env) (f : FuncId) (args : List AV) (H : Heap) (C : AV → Heap → Prop) : Prop :=
  (∃ x H', C x H') ∧ ∀ (w : World) (ρ : Places) (ok : Nat → Prop) (vs : Array Value), Good E w ρ H ok → vs.size = args.length → (∀ (i : Nat) (v : Value) (a : AV), vs[i]? = some v → args[i]? = some a → Rep w ρ H ok v a) →
    Calls E.P f vs w fun e w' => ∃ (v : Value) (x : AV) (H' : Heap) (ρ' : Places) (ok' : Nat → Prop), e = .returned v ∧ C x H' ∧ Good E w' ρ' H' ok' ∧ Ext w ρ H ok w' ρ' H' ok' ∧ Rep w' ρ' H' ok' v x

theorem ACall.mono {E : Env} {f : FuncId} {args : List AV} {H : Heap} {C D : AV → Heap → Prop} (h : ACall E f args H C) (hd : ∀ x H', C x H' → D x H') : ACall E f args H D :=
  ⟨h.1.imp fun _ h1 => h1.imp fun _ h2 => hd _ _ h2, fun w ρ ok vs g hs hr => (h.2 w ρ ok vs g hs hr).mono fun _ _ ⟨v, x, H', ρ', ok', e, hc, rest⟩ => ⟨v, x, H', ρ', ok', e, hd _ _ hc, rest⟩⟩

def enterable (P : Program) (f : FuncId) : Bool := match P.funcs[f]? with
  | some fn => fn.body.isSome && !(fn.name == "runtime.NumGoroutine")
  | none => false

def AEff (E : Env) (op : Op) (ev : Operand → AV) (H : Heap) (C : AV → Heap → Prop) : Prop :=
  match op with
  | .store t a x => match astore E.P t H (ev a) (ev x) with
    | some H' => C (.sc undef) H'
    | none => False
  | .alloc t => match zeros E.P t with
    | some zs => C (.ref H.length 0 0) (H ++ [some ⟨t, szOf E.P t, [zs]⟩])
    | none => False
  | .box t x => match (ev x).cells? with
    | some xs => C (.ref H.length 0 0) (H ++ [some ⟨t, xs.length, [xs]⟩])
    | none => False
  | .makeSlice t l c => match amake E.P t H (ev l) (ev c) with
    | some (r, H', m, B) => (B : Int) * m ≤ 281474976710656 ∧ m ≤ 9223372036854775807 ∧ C r H'
    | none => False
  | .buildSlice t 0 parts => match elemOf E.P t with
    | some e => if knownT E.P e = true ∧ parts.size = 0 then C (.sref H.length 0 0) (H ++ [some ⟨e, szOf E.P e, []⟩]) else False
    | none => False
  | .makeMap _ none => C (.mref H.length) (H ++ [some ⟨0, 2, []⟩])
  | .mapUpdate t x k v => match aupdate E.P t H (ev x) (ev k) (ev v) with
    | some H' => C (.sc undef) H'
    | none => False
  | .range t x => match ev x with
    | .imap es => if isMapT E.P t then C (.miter H.length) (H ++ [some ⟨0, 3, [[.junk, .junk, .imap es]]⟩]) else False
    | _ => False
  | .next x s => match ev x with
    | .miter id => match H[id]? with
      | some (some o) => match o.es with
        | [[_, _, .imap left]] => s = false ∧ (left = [] → C (.tup [.sc (.bool false)]) H) ∧ ∀ (i : Nat) (e : Value × Value), left[i]? = some e → C (.tup [.sc (.bool true), .sc e.1, .sc e.2]) (H.set id (some { o with es := [[.sc e.1, .sc e.2, .imap (left.eraseIdx i)]] }))
        | _ => False
      | _ => False
    | _ => False
  | .call c => match c.callee with
    | .builtin .append => match c.args.toList, c.argTypes.toList with
      | [s, x], [t, t'] => t = t' ∧ match aappend E.P t H (ev s) (ev x) with
        | some (r, H', N, B) => N ≤ 9223372036854775807 ∧ N * B ≤ 140737488355328 ∧ C r H'
        | none => False
      | _, _ => False
    | .value f => match ev f with
      | .fn g caps => enterable E.P g = true ∧ ACall E g (c.args.toList.map ev ++ caps) H C
      | _ => False
    | _ => match aread E.P op ev H with
      | some v => C v H
      | none => False
  | _ => match aread E.P op ev H with
    | some v => C v H
    | none => False

theorem AEff.has {E : Env} {op : Op} {ev : Operand → AV} {H : Heap} {C : AV → Heap → Prop} (h : AEff E op ev H C) : ∃ x H', C x H' := by
  have rd : ∀ {r : Option AV}, (match r with | some v => C v H | none => False) → ∃ x H', C x H' := fun {r} h => by
    cases r with
    | none => exact h.elim
    | some v => exact ⟨_, _, h⟩
  unfold AEff at h
  split at h
  · split at h
    · exact ⟨_, _, h⟩
    · exact h.elim
  · split at h
    · exact ⟨_, _, h⟩
    · exact h.elim
  · split at h
    · exact ⟨_, _, h⟩
    · exact h.elim
  · split at h
    · exact ⟨_, _, h.2.2⟩
    · exact h.elim
  · split at h
    · split at h
      · exact ⟨_, _, h⟩
      · exact h.elim
    · exact h.elim
  · exact ⟨_, _, h⟩
  · split at h
    · exact ⟨_, _, h⟩
    · exact h.elim
  · split at h
    · split at h
      · exact ⟨_, _, h⟩
      · exact h.elim
    · exact h.elim
  · split at h
    · split at h
      · split at h
        · rename_i left _
          obtain ⟨_, h1, h2⟩ := h
          cases left with
          | nil => exact ⟨_, _, h1 rfl⟩
          | cons e l => exact ⟨_, _, h2 0 e rfl⟩
        · exact h.elim
      · exact h.elim
    · exact h.elim
  · split at h
    · split at h
      · have h := h.2
        split at h
        · exact ⟨_, _, h.2.2⟩
        · exact h.elim
      · exact h.elim
    · split at h
      · exact h.2.1
      · exact h.elim
    · exact rd h
  · exact rd h

theorem AEff.mono {E : Env} {op : Op} {ev : Operand → AV} {H : Heap} {C D : AV → Heap → Prop} (h : AEff E op ev H C) (hd : ∀ x H', C x H' → D x H') : AEff E op ev H D := by
  have rd : ∀ {r : Option AV}, (match r with | some v => C v H | none => False) → (match r with | some v => D v H | none => False) := fun {r} h => by
    cases r with
    | none => exact h
    | some v => exact hd _ _ h
  unfold AEff at h ⊢
  split at h
  · split at h
    · exact hd _ _ h
    · exact h
  · split at h
    · exact hd _ _ h
    · exact h
  · split at h
    · exact hd _ _ h
    · exact h
  · split at h
    · exact ⟨h.1, h.2.1, hd _ _ h.2.2⟩
    · exact h
  · split at h
    · split at h
      · rename_i hc
        rw [if_pos hc]
        exact hd _ _ h
      · exact h.elim
    · exact h
  · exact hd _ _ h
  · split at h
    · exact hd _ _ h
    · exact h
  · split at h
    · split at h
      · rename_i hc
        rw [if_pos hc]
        exact hd _ _ h
      · exact h.elim
    · exact h
  · split at h
    · split at h
      · split at h
        · exact ⟨h.1, fun e => hd _ _ (h.2.1 e), fun i e he => hd _ _ (h.2.2 i e he)⟩
        · exact h.elim
      · exact h.elim
    · exact h
  · split at h
    · split at h
      · refine ⟨h.1, ?_⟩
        have h := h.2
        split at h
        · exact ⟨h.1, h.2.1, hd _ _ h.2.2⟩
        · exact h
      · exact h
    · split at h
      · exact ⟨h.1, h.2.mono hd⟩
      · exact h
    · exact rd h
  · exact rd h

section
variable {E : Env} {w : World} {ρ : Places} {H : Heap} {ok : Nat → Prop}

theorem parts_rep {rho : Operand → Value} {ev : Operand → AV} (hev : ∀ x, Rep w ρ H ok (rho x) (ev x)) (parts : Array (Nat × Operand)) :
    (parts.map fun (i, x) => (i, rho x)).size = (parts.toList.map fun p => (p.1, ev p.2)).length ∧
    ∀ (i : Nat) (p : Nat × AV) (q : Nat × Value), (parts.toList.map fun p => (p.1, ev p.2))[i]? = some p → (parts.map fun (i, x) => (i, rho x))[i]? = some q → q.1 = p.1 ∧ Rep w ρ H ok q.2 p.2 := by
  refine ⟨by simp, fun i p q hp hq => ?_⟩
  rw [List.getElem?_map, Option.map_eq_some_iff] at hp
  rw [Array.getElem?_map, Option.map_eq_some_iff] at hq
  obtain ⟨a, ha, rfl⟩ := hp
  obtain ⟨b, hb, rfl⟩ := hq
  rw [Array.getElem?_toList, hb] at ha
  simp only [Option.some.injEq] at ha
  subst ha
  exact ⟨rfl, hev _⟩

theorem aread_sound (g : Good E w ρ H ok) {rho : Operand → Value} {ev : Operand → AV} (hev : ∀ x, Rep w ρ H ok (rho x) (ev x)) {o : Oper} {x : AV} (h : aread E.P o.op ev H = some x) :
    ∃ v w' ok', (execOp rho o).run E.P w = .ok (.value v) w' ∧ Good E w' ρ H ok' ∧ Ext w ρ H ok w' ρ H ok' ∧ Rep w' ρ H ok' v x := by
  unfold aread at h
  split at h
  · rename_i t parts hop
    obtain ⟨hl, hr⟩ := parts_rep hev parts
    obtain ⟨v, h1, h2⟩ := build_sound (P := E.P) (w := w) hl hr h
    refine ⟨v, w, ok, ?_, g, Ext.refl _ _ _ _, h2⟩
    unfold execOp
    simp only [hop, Sem.run_bind, h1, Result.andThen_ok, Sem.run_pure]
  · rename_i t n parts hop
    obtain ⟨hl, hr⟩ := parts_rep hev parts
    obtain ⟨v, w', ok', h1, g', x', h2⟩ := buildSlice_sound g hl hr h
    refine ⟨v, w', ok', ?_, g', x', h2⟩
    unfold execOp
    simp only [hop, Sem.run_bind, h1, Result.andThen_ok, Sem.run_pure]
  · obtain ⟨v, h1, h2⟩ := aval_sound g hev h
    exact ⟨v, w, ok, h1, g, Ext.refl _ _ _ _, h2⟩

theorem run_callFunc {P : Program} {f : FuncId} (h : enterable P f = true) (args : Array Value) (w : World) : (callFunc f args).run P w = .ok (.enter f args) w := by
  unfold enterable at h
  split at h
  · rename_i fn hf
    simp only [Bool.and_eq_true, Bool.not_eq_true'] at h
    obtain ⟨h1, h2⟩ := h
    obtain ⟨c, hc⟩ := Option.isSome_iff_exists.1 h1
    have h3 : ¬ fn.name = "runtime.NumGoroutine" := by simpa using h2
    simp [callFunc, hf, hc, h3]
  · cases h

theorem eff_sound (g : Good E w ρ H ok) {a : Act} {ev : Operand → AV} (hev : ∀ x, Rep w ρ H ok (a.eval x) (ev x)) {o : Oper} {C : AV → Heap → Prop} (h : AEff E o.op ev H C) {K : Act → World → Prop} {Q : Exit → Act → World → Prop}
    (hK : ∀ v w' x H' ρ' ok', C x H' → Good E w' ρ' H' ok' → Ext w ρ H ok w' ρ' H' ok' → Rep w' ρ' H' ok' v x → K (a.put o.dst v) w') : o.wp E.P a w K Q := by
  have rd : (match aread E.P o.op ev H with | some v => C v H | none => False) → o.wp E.P a w K Q := fun h => by
    split at h
    · rename_i x hx
      obtain ⟨v, w', ok', h1, g', x', r'⟩ := aread_sound g hev hx
      unfold Oper.wp
      rw [h1]
      exact hK v w' x H ρ ok' h g' x' r'
    · exact h.elim
  obtain ⟨dst, op, ty, pos, after, gd⟩ := o
  simp only at h rd hK ⊢
  unfold AEff at h
  split at h
  · split at h
    · rename_i t pa px _ H' hH'
      obtain ⟨w', h1, g', x'⟩ := store_sound g (hev pa) (hev px) hH'
      unfold Oper.wp execOp
      simp only [Sem.run_bind, h1, Result.andThen_ok, Sem.run_pure]
      exact hK undef w' _ H' ρ ok h g' x' .sc
    · exact h.elim
  · split at h
    · rename_i t _ zs hz
      obtain ⟨v, w', ρ', h1, g', x', r'⟩ := alloc_sound g hz
      unfold Oper.wp execOp
      simp only [Sem.run_bind, h1, Result.andThen_ok, Sem.run_pure]
      exact hK v w' _ _ ρ' ok h g' x' r'
    · exact h.elim
  · split at h
    · rename_i t px _ xs hx
      obtain ⟨v, w', ρ', h1, g', x', r'⟩ := box_sound (t := t) g (hev px) hx
      unfold Oper.wp execOp
      simp only [Sem.run_bind, h1, Result.andThen_ok, Sem.run_pure]
      exact hK v w' _ _ ρ' ok h g' x' r'
    · exact h.elim
  · split at h
    · rename_i t pl pc _ r H' m B hm
      obtain ⟨v, w', ρ', h1, g', x', r'⟩ := make_sound g (hev pl) (hev pc) hm h.1 h.2.1
      unfold Oper.wp execOp
      simp only [Sem.run_bind, h1, Result.andThen_ok, Sem.run_pure]
      exact hK v w' _ _ ρ' ok h.2.2 g' x' r'
    · exact h.elim
  · split at h
    · rename_i t parts _ e he
      split at h
      · rename_i hc
        obtain ⟨hkn, hp⟩ := hc
        have hp' : parts = #[] := Array.eq_empty_of_size_eq_zero hp
        subst hp'
        obtain ⟨g', x'⟩ := g.newObj ⟨e, szOf E.P e, []⟩ 0 #[] (by simp) (by simp) (by unfold maxLen; omega) (by simp) (by simp)
        have h0 : Array.map (fun _ => (default : Value)) (Array.range 0) = #[] := Array.eq_empty_of_size_eq_zero (by simp)
        have hrun : (Instr.buildSlice t 0 #[]).run E.P w = .ok (.slice (some ⟨w.heap.size, 0, none⟩) 0 0) (w.alloc (.cells #[] e)) := by
          simp only [Instr.buildSlice, Sem.run_bind, run_underlying (elemOf_sound he), Result.andThen_ok, run_sizeOf' hkn]
          rw [Sem.run_ite, if_neg (by simp), Sem.run_ite, if_pos (by simp)]
          simp [Instr.fill, newRow, h0]
        unfold Oper.wp execOp
        simp only [Sem.run_bind, List.map_toArray, List.map_nil, hrun, Result.andThen_ok, Sem.run_pure]
        refine hK _ _ _ _ _ _ h g' x' ?_
        have := Rep.sref (w := w.alloc (.cells #[] e)) (ρ := updP ρ H.length (some (w.heap.size, 0))) (H := H ++ [some ⟨e, szOf E.P e, []⟩]) (ok := ok) (id := H.length) (lo := 0) (n := 0) (c := 0) push_new (b := w.heap.size) (cap := 0) (by simp [updP]) (by simp) (fun _ => rfl) (Nat.le_refl _) (by simp [maxLen])
        simpa using this
      · exact h.elim
    · exact h.elim
  · rename_i t
    obtain ⟨v, w', ρ', h1, g', x', r'⟩ := makeMap_sound g t
    unfold Oper.wp execOp
    simp only [Option.map_none, Sem.run_bind, h1, Result.andThen_ok, Sem.run_pure]
    exact hK v w' _ _ ρ' ok h g' x' r'
  · split at h
    · rename_i t px pk pv _ H' hH'
      obtain ⟨w', h1, g', x'⟩ := update_sound g (hev px) (hev pk) (hev pv) hH'
      unfold Oper.wp execOp
      simp only [Sem.run_bind, h1, Result.andThen_ok, Sem.run_pure]
      exact hK undef w' _ H' ρ ok h g' x' .sc
    · exact h.elim
  · split at h
    · rename_i t px _ es hes
      split at h
      · rename_i hm
        have hr := hev px
        rw [hes] at hr
        obtain ⟨v, w', ρ', h1, g', x', r'⟩ := range_sound g hr hm
        unfold Oper.wp execOp
        simp only [Sem.run_bind, h1, Result.andThen_ok, Sem.run_pure]
        exact hK v w' _ _ ρ' ok h g' x' r'
      · exact h.elim
    · exact h.elim
  · split at h
    · rename_i px s _ id hid
      split at h
      · rename_i o ho
        split at h
        · rename_i a1 a2 left hes
          obtain ⟨rfl, hn, hs⟩ := h
          have hr := hev px
          rw [hid] at hr
          unfold Oper.wp execOp
          rcases next_sound (ty := ty) g hr ho hes with ⟨h0, hrun⟩ | ⟨i, e, w', hi, hrun, g', x'⟩
          · simp only [Sem.run_bind, hrun, Result.andThen_ok, Sem.run_pure]
            exact hK _ w _ H ρ ok (hn h0) g (Ext.refl _ _ _ _) (.tup rfl fun i u q hu hq => by
              match i, hu, hq with
              | 0, hu, hq => simp at hu hq; subst hu; subst hq; exact .sc
              | i + 1, hu, hq => simp at hu)
          · simp only [Sem.run_bind, hrun, Result.andThen_ok, Sem.run_pure]
            exact hK _ w' _ _ ρ ok (hs i e hi) g' x' (.tup rfl fun i u q hu hq => by
              match i, hu, hq with
              | 0, hu, hq => simp at hu hq; subst hu; subst hq; exact .sc
              | 1, hu, hq => simp at hu hq; subst hu; subst hq; exact .sc
              | 2, hu, hq => simp at hu hq; subst hu; subst hq; exact .sc
              | i + 3, hu, hq => simp at hu)
        · exact h.elim
      · exact h.elim
    · exact h.elim
  · rename_i c
    obtain ⟨callee, args, argTypes⟩ := c
    simp only at h rd
    split at h
    · split at h
      · rename_i s x t t' ha hT
        obtain ⟨rfl, h⟩ := h
        have ha' : args = #[s, x] := by rw [← Array.toList_inj, ha]
        have hT' : argTypes = #[t, t] := by rw [← Array.toList_inj, hT]
        subst ha'; subst hT'
        split at h
        · rename_i r H' N B hr
          obtain ⟨v, w', ρ', h1, g', x', r'⟩ := append_sound (ty := ty) g (hev s) (hev x) hr (by unfold maxLen; exact h.1) h.2.1
          unfold Oper.wp execOp
          simp only [resolve, invoke, builtin, Sem.run_bind, Sem.run_pure, Result.andThen_ok, List.map_toArray, List.map_cons, List.map_nil, h1]
          exact hK v w' _ _ ρ' ok h.2.2 g' x' r'
        · exact h.elim
      · exact h.elim
    · rename_i f
      split at h
      · rename_i fid caps hf
        obtain ⟨hen, hc⟩ := h
        have hr := hev f
        rw [hf] at hr
        unfold Oper.wp execOp
        simp only [resolve]
        generalize hvf : a.eval f = vf at hr
        cases hr with
        | @fn _ cs _ hn hcs =>
          simp only [Deferred.ofValue, Sem.run_bind, Sem.run_pure, Result.andThen_ok, invoke, run_callFunc hen]
          refine (hc.2 w ρ ok (#[] ++ args.map a.eval ++ cs) g (by simp [hn]) (fun i v b hv hb => ?_)).mono ?_
          · simp only [Array.empty_append] at hv
            rcases Nat.lt_or_ge i args.size with hlt | hge
            · rw [Array.getElem?_append_left (by simpa using hlt), Array.getElem?_map, Option.map_eq_some_iff] at hv
              rw [List.getElem?_append_left (by simpa using hlt), List.getElem?_map, Option.map_eq_some_iff] at hb
              obtain ⟨p, hp, rfl⟩ := hv
              obtain ⟨q, hq, rfl⟩ := hb
              rw [Array.getElem?_toList, hp] at hq
              simp only [Option.some.injEq] at hq
              subst hq
              exact hev _
            · rw [Array.getElem?_append_right (by simpa using hge)] at hv
              rw [List.getElem?_append_right (by simpa using hge)] at hb
              exact hcs _ v b (by simpa using hv) (by simpa using hb)
          · rintro e w' ⟨v, x, H', ρ', ok', rfl, h1, g', x', r'⟩
            exact hK v w' x H' ρ' ok' h1 g' x' r'
      · exact h.elim
    · exact rd h
  · exact rd h


end
end Go.PA
