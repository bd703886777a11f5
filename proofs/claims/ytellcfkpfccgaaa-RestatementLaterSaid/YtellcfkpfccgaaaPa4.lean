/- PA, part 4: soundness of 'aval'. -/
import Derived.Test.YtellcfkpfccgaaaPa3
set_option linter.unusedSimpArgs false
set_option linter.unusedVariables false
namespace Go.PA
open Go.RowKit

section
variable {E : Env} {w : World} {ρ : Places} {H : Heap} {ok : Nat → Prop}

theorem rep_scE {v u : Value} {a : AV} (e : a = .sc u) (h : Rep w ρ H ok v a) : v = u := rep_sc (e ▸ h)

theorem bound_sound {ev : Operand → AV} {rho : Operand → Value} (hev : ∀ x, Rep w ρ H ok (rho x) (ev x)) {o : Option Operand} {d l : Int} (h : bound ev d o = some l) :
    (o.map rho = none ∧ (if o.isSome then some l else none) = none) ∨ ∃ k l', o.map rho = some (.int k l') ∧ (if o.isSome then some l else none) = some l' := by
  cases o with
  | none => exact .inl ⟨rfl, rfl⟩
  | some x =>
    refine .inr ?_
    simp only [bound] at h
    split at h
    · rename_i k n hx
      simp only [Option.some.injEq] at h
      subst h
      exact ⟨k, n, by rw [Option.map_some, rep_scE hx (hev x)], rfl⟩
    · cases h

theorem isKeyB_sound {d : TypeDesc} {k : Value} (h : isKeyB d k = true) : MapKept.IsKey d k := by
  cases d <;> cases k <;> simp_all [isKeyB, MapKept.IsKey]

theorem entsOf_get : ∀ {es : List (List AV)} {l : List (Value × AV)}, entsOf es = some l → es = l.map fun e => [.sc e.1, e.2]
  | [], l, h => by simp only [entsOf, Option.some.injEq] at h; subst h; rfl
  | e :: es, l, h => by
    unfold entsOf at h
    split at h
    · rename_i heq; cases heq
    · rename_i k a r heq
      simp only [List.cons.injEq] at heq
      obtain ⟨rfl, rfl⟩ := heq
      rw [Option.map_eq_some_iff] at h
      obtain ⟨l', h1, rfl⟩ := h
      rw [entsOf_get h1]
      rfl
    · cases h

/-- What a map's value is, and what lies there. -/
theorem ents_sound (g : Good E w ρ H ok) {v : Value} {x : AV} {l : List (Value × AV)} (r : Rep w ρ H ok v x) (h : ents H x = some l) :
    (v = .map none ∧ l = []) ∨ ∃ (b clk : Nat) (es : Array MapEntry), v = .map (some b) ∧ w.heap[b]? = some (.map es clk) ∧ MapKept.Stamped es clk ∧ es.size = l.length ∧ ∀ (i : Nat) (e : MapEntry) (p : Value × AV), es[i]? = some e → l[i]? = some p → e.key = p.1 ∧ Rep w ρ H ok e.val p.2 := by
  cases r <;> simp only [ents, reduceCtorEq, Option.some.injEq] at h
  case imap b clk es es' hok hb he hw =>
    subst h
    refine .inr ⟨b, clk, es, rfl, hb, hw, by rw [← he]; simp, fun i e p h1 h2 => ?_⟩
    rw [← he, List.getElem?_map, List.getElem?_map, Array.getElem?_toList, h1] at h2
    simp only [Option.map_some, Option.some.injEq] at h2
    subst h2
    exact ⟨rfl, .sc⟩
  case imapNil => subst h; exact .inl ⟨rfl, rfl⟩
  case mref id b o ho hρ =>
    simp only [ho] at h
    have hobj := g.obj id o ho
    rw [hρ] at hobj
    obtain ⟨_, es, clk, h1, h2, h3, h4⟩ := hobj.map
    have hes := entsOf_get h
    refine .inr ⟨b, clk, es, rfl, h1, h2, by rw [h3, hes]; simp, fun i e p hi hp => ?_⟩
    obtain ⟨a, ha, hr⟩ := h4 i e [.sc p.1, p.2] hi (by rw [hes, List.getElem?_map, hp]; rfl)
    simp only [List.cons.injEq, AV.sc.injEq, and_true] at ha
    obtain ⟨ha1, rfl⟩ := ha
    exact ⟨ha1.symm, hr⟩
  case mrefDead id hd h1 => simp [hd] at h

theorem find_sound {d : TypeDesc} {k : Value} : ∀ {es : List MapEntry} {l : List (Value × AV)} {r : Option AV}, es.length = l.length → (∀ (i : Nat) (e : MapEntry) (p : Value × AV), es[i]? = some e → l[i]? = some p → e.key = p.1 ∧ Rep w ρ H ok e.val p.2) → afind d k l = some r →
    (r = none ∧ ∀ i, Instr.findNow d k es i = some none) ∨ ∃ (a : AV) (j : Nat) (e : MapEntry), r = some a ∧ (∀ i, Instr.findNow d k es i = some (some (i + j, e.val))) ∧ es[j]? = some e ∧ Rep w ρ H ok e.val a ∧ Instr.sameNow d k e.key = some true
  | [], [], r, _, _, h => by simp only [afind, Option.some.injEq] at h; exact .inl ⟨h.symm, fun i => rfl⟩
  | [], _ :: _, _, hl, _, _ => by simp at hl
  | _ :: _, [], _, hl, _, _ => by simp at hl
  | e :: es, p :: l, r, hl, hr, h => by
    obtain ⟨h1, h2⟩ := hr 0 e p rfl rfl
    simp only [afind] at h
    split at h
    · rename_i hs
      simp only [Option.some.injEq] at h
      exact .inr ⟨p.2, 0, e, h.symm, fun i => by simp only [Instr.findNow]; rw [h1, hs]; rfl, rfl, h2, by rw [h1]; exact hs⟩
    · rename_i hs
      rcases find_sound (by simpa using hl) (fun i e p hi hp => hr (i + 1) e p hi hp) h with ⟨q1, q2⟩ | ⟨a, j, e', q1, q2, q3, q4, q5⟩
      · exact .inl ⟨q1, fun i => by simp only [Instr.findNow]; rw [h1, hs]; exact q2 _⟩
      · exact .inr ⟨a, j + 1, e', q1, fun i => by simp only [Instr.findNow]; rw [h1, hs]; exact (q2 _).trans (by rw [Nat.add_assoc, Nat.add_comm 1 j]), q3, q4, q5⟩
    · cases h

theorem mapOf_sound {P : Program} {t kt et : TypeId} {d : TypeDesc} (h : mapOf P t = some (kt, d, et)) : P.underlying t = some (.map kt et) ∧ P.underlying kt = some d := by
  unfold mapOf at h
  split at h
  · rename_i kt' et' ht
    rw [Option.map_eq_some_iff] at h
    obtain ⟨d', hd, h⟩ := h
    simp only [Prod.mk.injEq] at h
    obtain ⟨rfl, rfl, rfl⟩ := h
    exact ⟨ht, hd⟩
  · cases h

theorem azero1_sound {P : Program} {t : TypeId} {x : AV} (h : azero1 P t = some x) : ∃ z, (zeroValue t).run P w = .ok z w ∧ Rep w ρ H ok z x := by
  unfold azero1 at h
  split at h
  · rename_i z hz
    simp only [Option.some.injEq] at h
    subst h
    rw [Option.bind_eq_some_iff] at hz
    obtain ⟨i, hi, hz⟩ := hz
    refine ⟨z, by simp [zeroValue, run_typeInfo hi, hz], ?_⟩
    unfold ofCell
    split
    · exact .nil
    · exact .sc
  · cases h

def lkTail (kt et : TypeId) (kv : Value) (c : Bool) (es : Array MapEntry) : Sem Value := do
  Instr.checkKey es.isEmpty 10000 kt kv
  let (v, ok) ← match ← Instr.findKey kt kv es.toList with
    | some (_, v) => pure (v, true)
    | none => pure (← zeroValue et, false)
  pure (if c then .tuple #[v, .bool ok] else v)

theorem run_lookup_nil {P : Program} {t kt et : TypeId} (ht : P.underlying t = some (.map kt et)) (kv : Value) (c : Bool) : (Instr.lookup t (.map none) kv c).run P w = (lkTail kt et kv c #[]).run P w := by
  simp only [Instr.lookup, lkTail, Sem.run_bind, run_underlying ht, Result.andThen_ok, Sem.run_pure]
  rfl

theorem run_lookup_some {P : Program} {t kt et : TypeId} {b clk : Nat} {es : Array MapEntry} (ht : P.underlying t = some (.map kt et)) (hb : w.heap[b]? = some (.map es clk)) (kv : Value) (c : Bool) : (Instr.lookup t (.map (some b)) kv c).run P w = (lkTail kt et kv c es).run P w := by
  simp only [Instr.lookup, lkTail, Sem.run_bind, run_underlying ht, Result.andThen_ok, Sem.run_pure, MapKept.run_getObj_map hb]
  rfl

theorem run_getObj_iter {P : Program} {b since last : Nat} {m : Option Nat} {seen : Array Nat} (hb : w.heap[b]? = some (.mapIter m since seen last)) : (getObj b).run P w = .ok (.mapIter m since seen last) w := by
  simp [getObj, Sem.run, hb]

theorem born_find {clk : Nat} {es : Array MapEntry} (hw : MapKept.Stamped es clk) {e : MapEntry} (he : e ∈ es.toList) : es.find? (fun x => x.born == e.born) = some e := by
  obtain ⟨_, h2, _⟩ := hw
  rw [← Array.find?_toList]
  generalize es.toList = l at he h2
  induction l with
  | nil => cases he
  | cons a l ih =>
    simp only [List.map_cons, List.nodup_cons] at h2
    rw [List.find?_cons]
    rcases List.mem_cons.1 he with rfl | he
    · simp
    · have hne : ¬ a.born = e.born := fun q => h2.1 (q ▸ List.mem_map_of_mem he)
      simp only [hne, beq_iff_eq, beq_eq_false_iff_ne.2 hne, ih he h2.2]

theorem lookup_sound (g : Good E w ρ H ok) {t : TypeId} {vx vk : Value} {x k y : AV} {c : Bool} (rx : Rep w ρ H ok vx x) (rk : Rep w ρ H ok vk k) (h : alookup E.P t H x k c = some y) :
    ∃ v, (Instr.lookup t vx vk c).run E.P w = .ok v w ∧ Rep w ρ H ok v y := by
  unfold alookup at h
  split at h
  · rename_i kt d et kv es hm hes
    obtain ⟨ht, hd⟩ := mapOf_sound hm
    rw [rep_sc rk]
    split at h
    · rename_i hk
      have hk := isKeyB_sound hk
      have hpair : ∀ (v : Value) (a : AV) (b : Bool), Rep w ρ H ok v a → Rep w ρ H ok (if c then .tuple #[v, .bool b] else v) (if c then .tup [a, .sc (.bool b)] else a) := fun v a b r => by
        cases c
        · exact r
        · refine .tup rfl fun i u q hu hq => ?_
          match i, hu, hq with
          | 0, hu, hq => simp at hu hq; subst hu; subst hq; exact r
          | 1, hu, hq => simp at hu hq; subst hu; subst hq; exact .sc
          | i + 2, hu, hq => simp at hu
      have main : ∀ (ents : Array MapEntry), ents.size = es.length → (∀ (i : Nat) (e : MapEntry) (p : Value × AV), ents[i]? = some e → es[i]? = some p → e.key = p.1 ∧ Rep w ρ H ok e.val p.2) →
          ∃ v, (lkTail kt et kv c ents).run E.P w = .ok v w ∧ Rep w ρ H ok v y := by
        intro ents hsz hcs
        unfold lkTail
        simp only [Sem.run_bind, MapKept.run_checkKey hd hk, Result.andThen_ok]
        split at h
        · rename_i a ha
          simp only [Option.some.injEq] at h
          subst h
          rcases find_sound (es := ents.toList) (by simpa using hsz) (fun i e p hi hp => hcs i e p (by simpa using hi) hp) ha with ⟨q, _⟩ | ⟨a', j, e, q1, q2, _, q4, _⟩
          · cases q
          · cases q1
            simp only [MapKept.run_findKey hd (q2 0), Result.andThen_ok, Sem.run_pure]
            exact ⟨_, rfl, hpair _ _ _ q4⟩
        · rename_i ha
          rw [Option.map_eq_some_iff] at h
          obtain ⟨z, hz, rfl⟩ := h
          obtain ⟨zv, hz1, hz2⟩ := azero1_sound (w := w) (ρ := ρ) (H := H) (ok := ok) hz
          rcases find_sound (es := ents.toList) (by simpa using hsz) (fun i e p hi hp => hcs i e p (by simpa using hi) hp) ha with ⟨_, q⟩ | ⟨a', j, e, q1, _⟩
          · simp only [MapKept.run_findKey hd (q 0), Result.andThen_ok, Sem.run_bind, hz1, Sem.run_pure]
            exact ⟨_, rfl, hpair _ _ _ hz2⟩
          · cases q1
        · cases h
      rcases ents_sound g rx hes with ⟨rfl, rfl⟩ | ⟨b, clk, ents, rfl, h1, _, h3, h4⟩
      · rw [run_lookup_nil ht]
        exact main #[] rfl (by simp)
      · rw [run_lookup_some ht h1]
        exact main ents h3 h4
    · cases h
  · cases h

theorem entry_sound (g : Good E w ρ H ok) {vx : Value} {x y : AV} (rx : Rep w ρ H ok vx x) (h : aentry H x = some y) :
    ∃ v, (Instr.entry vx).run E.P w = .ok v w ∧ Rep w ρ H ok v y := by
  unfold aentry at h
  split at h
  · rename_i id
    split at h
    · rename_i o ho
      split at h
      · rename_i k v q hes
        simp only [Option.some.injEq] at h
        subst h
        cases rx with
        | miterDead hd _ => rw [ho] at hd; cases hd
        | @miter _ b o' ho' hρ =>
          rw [ho] at ho'
          simp only [Option.some.injEq] at ho'
          subst ho'
          have hobj := g.obj id o ho
          rw [hρ] at hobj
          obtain ⟨_, ⟨h1, h2⟩ | ⟨m, clk, seen, es, c1, c2, h1, h2, h3, h4, h5, h6⟩⟩ := hobj.iter
          · rw [hes] at h1
            simp at h1
          · rw [hes] at h5
            simp only [List.cons.injEq, and_true] at h5
            obtain ⟨rfl, rfl, _⟩ := h5
            rcases h6 with ⟨h6, _⟩ | ⟨e, he, h7, h8, h9⟩
            · cases h6
            · simp only [AV.sc.injEq] at h8 h9
              subst h8; subst h9
              refine ⟨.tuple #[e.key, e.val], ?_, .tup rfl fun i u q hu hq => ?_⟩
              · simp only [Instr.entry, Sem.run_bind, run_getObj_iter h1, Result.andThen_ok, h7, MapKept.run_getObj_map h3, born_find h4 he]
                simp
              · match i, hu, hq with
                | 0, hu, hq => simp at hu hq; subst hu; subst hq; exact .sc
                | 1, hu, hq => simp at hu hq; subst hu; subst hq; exact .sc
                | i + 2, hu, hq => simp at hu
      · cases h
    · cases h
  · cases h

set_option maxHeartbeats 1000000 in
theorem aval_sound (g : Good E w ρ H ok) {rho : Operand → Value} {ev : Operand → AV} (hev : ∀ x, Rep w ρ H ok (rho x) (ev x)) {o : Oper} {x : AV} (h : aval E.P o.op ev H = some x) :
    ∃ v, (execOp rho o).run E.P w = .ok (.value v) w ∧ Rep w ρ H ok v x := by
  obtain ⟨dst, op, ty, pos, after, gd⟩ := o
  simp only at h
  unfold execOp
  cases op <;> simp only [aval, apick, anil, aun, aconv, afield, afieldV, aindex, aextract, asliceOp, alenOp, reduceCtorEq] at h ⊢
  case move y => simp only [Option.some.injEq] at h; subst h; exact ⟨_, rfl, hev y⟩
  case assign y => simp only [Option.some.injEq] at h; subst h; exact ⟨_, rfl, hev y⟩
  case pick c a b =>
    split at h
    · rename_i t ht
      have hc := rep_scE ht (hev c)
      simp only [Option.some.injEq] at h
      subst h
      cases t
      · exact ⟨rho b, by simp [hc, asBool], hev b⟩
      · exact ⟨rho a, by simp [hc, asBool], hev a⟩
    · cases h
  case load t a =>
    rw [Option.bind_eq_some_iff] at h
    obtain ⟨as, has, hl⟩ := h
    obtain ⟨ad, hv, hc⟩ := addr_sound g (hev a) has
    obtain ⟨v, hrun, hr⟩ := aload_sound hc hl
    exact ⟨v, by rw [hv]; exact run_value (by simpa [Instr.loadAt, Instr.sureAddr] using hrun), hr⟩
  case nilCheck y =>
    split at h
    · rename_i f cs hy
      have hr := hev y
      rw [hy] at hr
      simp only [Option.some.injEq] at h
      subst h
      refine ⟨rho y, ?_, hr⟩
      generalize rho y = u at hr ⊢
      cases hr
      rfl
    · rename_i a hy
      simp only [Option.some.injEq] at h
      subst h
      refine ⟨_, ?_, .sc⟩
      rw [rep_scE hy (hev y)]
      rfl
    · split at h
      · rename_i hs
        obtain ⟨as, has⟩ := Option.isSome_iff_exists.1 hs
        simp only [Option.some.injEq] at h
        subst h
        obtain ⟨ad, hv, _⟩ := addr_sound g (hev y) has
        exact ⟨_, by rw [hv]; rfl, hv ▸ hev y⟩
      · cases h
  case binOp op t y z yt =>
    obtain ⟨r, h1, h2, h3⟩ := abin_sound y z (hev y) (hev z) h
    exact ⟨r, run_value (by simp only [Sem.run_bind, h1, Result.andThen_ok, h2]), h3⟩
  case unOp op t y =>
    split at h
    · rename_i b hy
      simp only [Option.some.injEq] at h
      subst h
      refine ⟨_, ?_, .sc⟩
      rw [rep_scE hy (hev y)]
      rfl
    · rename_i k n hy
      simp only [Option.some.injEq] at h
      subst h
      refine ⟨_, ?_, .sc⟩
      rw [rep_scE hy (hev y)]
      rfl
    · cases h
  case convert src dst y =>
    split at h
    · rename_i d k kk n hs hd hy
      simp only [Option.some.injEq] at h
      subst h
      refine ⟨_, run_value ?_, .sc⟩
      rw [rep_scE hy (hev y)]
      simp [convert, run_underlying hs, run_underlying hd, Conv.intToInt]
    · rename_i s hs hd hy
      simp only [Option.some.injEq] at h
      subst h
      refine ⟨_, run_value ?_, .sc⟩
      rw [rep_scE hy (hev y)]
      simp [convert, run_underlying hs, run_underlying hd]
    · cases h
  case fieldAddr s y f =>
    split at h
    · cases h
    · rename_i off ft hf
      split at h
      · rename_i id i j hy
        split at h
        · rename_i hs
          obtain ⟨as, has⟩ := Option.isSome_iff_exists.1 hs
          simp only [Option.some.injEq] at h
          subst h
          obtain ⟨ad, hv, hr⟩ := rep_ref_add (off := off) (hy ▸ hev y) has
          exact ⟨_, by rw [hv]; exact run_value (run_fieldAt hf ad w), hr⟩
        · cases h
      · rename_i cs hy
        simp only [Option.some.injEq] at h
        subst h
        obtain ⟨ad, hv, hr⟩ := rep_iref_drop (hy ▸ hev y) off
        exact ⟨_, by rw [hv]; exact run_value (run_fieldAt hf ad w), hr⟩
      · cases h
  case field s y f =>
    split at h
    · rename_i off ft cs hf hy
      obtain ⟨fs, fx, hs, hx, rfl, rfl, hz, hk⟩ := fieldOf_sound hf
      have hr := hev y
      rw [hy] at hr
      generalize rho y = u at hr ⊢
      cases hr with
      | agg hn hc =>
        obtain ⟨v, h1, h2⟩ := apart_sound hn hc h
        exact ⟨v, run_value (by simp [Instr.field, run_underlying hs, hx, asAgg, h1]), h2⟩
    · cases h
  case indexAddr t y ix =>
    split at h
    · rename_i k n hi
      obtain ⟨u, h1, h2⟩ := aindexAddr_sound (k := k) (hev y) h
      exact ⟨u, by rw [rep_scE hi (hev ix)]; exact run_value h1, h2⟩
    · cases h
  case lookup t y k c =>
    obtain ⟨v, hrun, hr⟩ := lookup_sound g (hev y) (hev k) h
    exact ⟨v, run_value hrun, hr⟩
  case entry y =>
    obtain ⟨v, hrun, hr⟩ := entry_sound g (hev y) h
    exact ⟨v, run_value hrun, hr⟩
  case index t y ix =>
    unfold aixV at h
    split at h
    · rename_i k n hi
      have hix := rep_scE hi (hev ix)
      split at h
      · rename_i cs hy
        split at h
        · rename_i len e harr
          split at h
          · rename_i hc
            obtain ⟨hk, h0, h1⟩ := hc
            have hu : E.P.underlying t = some (.array len e) := by
              unfold arrOf at harr
              split at harr
              · rename_i hu
                simp only [Option.some.injEq, Prod.mk.injEq] at harr
                obtain ⟨rfl, rfl⟩ := harr
                exact hu
              · cases harr
            have hr := hev y
            rw [hy] at hr
            generalize rho y = u at hr ⊢
            cases hr with
            | agg hn hc =>
              obtain ⟨v, h2, h3⟩ := apart_sound hn hc h
              exact ⟨v, run_value (by simp [Instr.index, hix, asIntOf, run_underlying hu, h0, h1, run_sizeOf' hk, h2]), h3⟩
          · cases h
        · cases h
      · rename_i s hy
        split at h
        · rename_i hu
          split at h
          · rename_i h0
            rw [Option.map_eq_some_iff] at h
            obtain ⟨b, hb, rfl⟩ := h
            have hs := rep_scE hy (hev y)
            exact ⟨_, run_value (by simp [Instr.index, hix, hs, asIntOf, run_underlying hu, h0, hb]), .sc⟩
          · cases h
        · cases h
      · cases h
    · cases h
  case extract y i =>
    split at h
    · rename_i vs hy
      have hr := hev y
      rw [hy] at hr
      generalize rho y = u at hr ⊢
      cases hr with
      | @tup cs _ hn hc =>
        have hlt : i < cs.size := by rw [hn]; exact (List.getElem?_eq_some_iff.1 h).1
        have hv : cs[i]? = some cs[i] := Array.getElem?_eq_getElem hlt
        refine ⟨cs[i], run_value ?_, hc _ _ _ hv h⟩
        simp only [Instr.extract, hv, Sem.run_pure]
    · cases h
  case makeFunc fn first caps =>
    cases fn <;> simp only [reduceCtorEq] at h
    split at h
    · rename_i hz
      simp only [Option.some.injEq] at h
      subst h
      have hf : first = #[] := Array.eq_empty_of_size_eq_zero hz
      subst hf
      rename_i f
      refine ⟨.func (.func f) #[] (caps.map rho), run_value (by simp [Instr.makeFunc]), .fn (by simp) (fun i c a hc ha => ?_)⟩
      rw [List.getElem?_map, Option.map_eq_some_iff] at ha
      obtain ⟨q, hq, rfl⟩ := ha
      rw [Array.getElem?_map, Option.map_eq_some_iff] at hc
      obtain ⟨q', hq', rfl⟩ := hc
      rw [Array.getElem?_toList] at hq
      rw [hq] at hq'
      simp only [Option.some.injEq] at hq'
      subst hq'
      exact hev _
    · cases h
  case slice t y lo hi mx =>
    cases mx <;> simp only [reduceCtorEq] at h
    split at h
    · rename_i s hy
      split at h
      · rename_i l hh ht hl hh'
        split at h
        · rename_i hc
          simp only [Option.some.injEq] at h
          subst h
          refine ⟨_, run_value ?_, .sc⟩
          rw [rep_scE hy (hev y)]
          have b1 := bound_sound hev hl
          have b2 := bound_sound hev hh'
          have c1 : (0 : Int) ≤ hh := by omega
          cases lo <;> cases hi <;> simp only [Option.map_none, Option.map_some, Option.isSome_none, Option.isSome_some, if_true, reduceCtorEq, false_and, exists_const, or_false, false_or, Option.some.injEq, bound, Bool.false_eq_true, if_false] at b1 b2 hl hh' ⊢
          · subst hl; subst hh'
            simp [Instr.sliceAt, Instr.slice, run_underlying ht, Instr.sliceBounds]
          · obtain ⟨k2, l2, e2, rfl⟩ := b2
            subst hl
            simp [Instr.sliceAt, Instr.slice, run_underlying ht, Instr.sliceBounds, e2, Instr.sliceBound, asIntOf, hc.2.2, c1]
          · obtain ⟨k1, l1, e1, rfl⟩ := b1
            subst hh'
            have c2 : l ≤ (s.size : Int) := by omega
            simp [Instr.sliceAt, Instr.slice, run_underlying ht, Instr.sliceBounds, e1, Instr.sliceBound, asIntOf, hc.1, c2]
          · obtain ⟨k1, l1, e1, rfl⟩ := b1
            obtain ⟨k2, l2, e2, rfl⟩ := b2
            have c3 : l ≤ max hh 0 := by omega
            simp [Instr.sliceAt, Instr.slice, run_underlying ht, Instr.sliceBounds, e1, e2, Instr.sliceBound, asIntOf, hc.1, hc.2.2, c1, c3]
        · cases h
      · cases h
    · split at h
      · rename_i hl hh'
        obtain ⟨u, h1, h2⟩ := aslice_sound (hev y) (bound_sound hev hl) (bound_sound hev hh') h
        exact ⟨u, run_value h1, h2⟩
      · cases h
  case call c =>
    obtain ⟨callee, args, argTypes⟩ := c
    simp only at h ⊢
    split at h
    · split at h
      · rename_i y t ha hT
        have ha' : args = #[y] := by rw [← Array.toList_inj, ha]
        have hT' : argTypes = #[t] := by rw [← Array.toList_inj, hT]
        subst ha'; subst hT'
        split at h
        · rename_i e ht
          rw [Option.map_eq_some_iff] at h
          obtain ⟨n, hn, rfl⟩ := h
          refine ⟨.int .i64 n, ?_, .sc⟩
          have := alen_sound (P := E.P) ht (hev y) hn ty
          simp [resolve, invoke, builtin, this]
        · rename_i s ht hy
          simp only [Option.some.injEq] at h
          subst h
          refine ⟨_, ?_, .sc⟩
          rw [show (Value.int IntKind.i64 (s.size : Int)) = goInt s.size from rfl]
          simp [resolve, invoke, builtin, Builtin.len_, run_underlying ht, rep_scE hy (hev y)]
        · cases h
      · cases h
    · have hmax : ∃ r, (Builtin.max_ argTypes ty (args.map rho)).run E.P w = .ok r w ∧ x = .sc r := by
        unfold amax at h
        split at h
        · rename_i k a r hr
          cases hl : args.toList with
          | nil => rw [hl] at hr; simp at hr
          | cons q qs =>
            rw [hl] at hr
            simp only [List.map_cons, List.cons.injEq] at hr
            obtain ⟨hq, rfl⟩ := hr
            obtain ⟨r, h1, h2⟩ := amaxFrom_sound (w := w) (ρ := ρ) (H := H) (ok := ok) (E := E) (vs := qs.map rho) (by simp) (fun i c a hi ha => by
              rw [List.getElem?_map, Option.map_eq_some_iff] at hi ha
              obtain ⟨p, hp, rfl⟩ := hi
              obtain ⟨p', hp', rfl⟩ := ha
              rw [hp] at hp'
              simp only [Option.some.injEq] at hp'
              subst hp'
              exact hev _) h
            refine ⟨r, ?_, h2⟩
            simp only [Builtin.max_, Array.toList_map, hl, List.map_cons, rep_scE hq (hev q)]
            exact h1
        · cases h
      obtain ⟨r, h1, rfl⟩ := hmax
      exact ⟨r, by simp [resolve, invoke, builtin, h1], .sc⟩
    · have hmin : ∃ r, (Builtin.min_ argTypes ty (args.map rho)).run E.P w = .ok r w ∧ x = .sc r := by
        unfold amin at h
        split at h
        · rename_i k a r hr
          cases hl : args.toList with
          | nil => rw [hl] at hr; simp at hr
          | cons q qs =>
            rw [hl] at hr
            simp only [List.map_cons, List.cons.injEq] at hr
            obtain ⟨hq, rfl⟩ := hr
            obtain ⟨r, h1, h2⟩ := aminFrom_sound (w := w) (ρ := ρ) (H := H) (ok := ok) (E := E) (vs := qs.map rho) (by simp) (fun i c a hi ha => by
              rw [List.getElem?_map, Option.map_eq_some_iff] at hi ha
              obtain ⟨p, hp, rfl⟩ := hi
              obtain ⟨p', hp', rfl⟩ := ha
              rw [hp] at hp'
              simp only [Option.some.injEq] at hp'
              subst hp'
              exact hev _) h
            refine ⟨r, ?_, h2⟩
            simp only [Builtin.min_, Array.toList_map, hl, List.map_cons, rep_scE hq (hev q)]
            exact h1
        · cases h
      obtain ⟨r, h1, rfl⟩ := hmin
      exact ⟨r, by simp [resolve, invoke, builtin, h1], .sc⟩
    · cases h

end
end Go.PA
