/- PA: maps of the walk's own, and iterators over those that nobody writes. -/
import Derived.Test.YtellcfkpfccgaaaPa8
set_option linter.unusedSimpArgs false
set_option linter.unusedVariables false
namespace Go.PA
open Go.RowKit

def aput (d : TypeDesc) (k : Value) (v : AV) : List (List AV) → Option (List (List AV))
  | [] => some [[.sc k, v]]
  | [.sc k', a] :: r => match Instr.sameNow d k k' with
    | some true => some ([.sc k, v] :: r)
    | some false => (aput d k v r).map ([.sc k', a] :: ·)
    | none => none
  | _ => none

def aupdate (P : Program) (t : TypeId) (H : Heap) (x k v : AV) : Option Heap := match mapOf P t, k, x with
  | some (_, d, _), .sc kv, .mref id => if isKeyB d kv then match H[id]? with
    | some (some o) => (aput d kv v o.es).map fun es => H.set id (some { o with es := es })
    | _ => none
    else none
  | _, _, _ => none

/-- A map by numbers, with the value of what is not there. -/
def IMap (P : Program) (t : TypeId) (z : AV) : Prop := ∃ kt et, mapOf P t = some (kt, .int .i64, et) ∧ azero1 P et = some z

section
variable {E : Env} {w w' : World} {ρ : Places} {H : Heap} {ok : Nat → Prop}

/-- An object's block changes, and the object with it. -/
theorem Good.change (g : Good E w ρ H ok) {id b cap : Nat} {o : AObj} (ho : H[id]? = some (some o)) (hρ : ρ id = some (b, cap)) (o' : AObj) (hk : o'.k = o.k) (hl : o.es.length ≤ o'.es.length) (hlen : ∀ e ∈ o'.es, e.length = o'.k)
    (hos : w'.os = w.os) (htape : w'.tape = w.tape) (hout : w'.output = w.output) (hsize : w'.heap.size = w.heap.size) (hother : ∀ b', b' ≠ b → w'.heap[b']? = w.heap[b']?)
    (hobj : Ext w ρ H ok w' ρ (H.set id (some o')) ok → ObjOk w' ρ (H.set id (some o')) ok o' (some (b, cap))) : Good E w' ρ (H.set id (some o')) ok ∧ Ext w ρ H ok w' ρ (H.set id (some o')) ok := by
  have hidl := get_lt ho
  have hx : Ext w ρ H ok w' ρ (H.set id (some o')) ok := by
    refine ⟨fun id' o1 h' => ?_, fun id' h' => ?_, fun _ h => h, fun b' hb' => hother b' (fun e => (g.own id o b cap ho hρ).1 (e ▸ hb'))⟩
    · right
      by_cases hi : id = id'
      · subst hi
        rw [ho] at h'
        simp only [Option.some.injEq] at h'
        subst h'
        exact ⟨o', by rw [List.getElem?_set, if_pos rfl, if_pos hidl], rfl, hk, hl⟩
      · exact ⟨o1, by rw [List.getElem?_set, if_neg hi]; exact h', rfl, rfl, Nat.le_refl _⟩
    · by_cases hi : id = id'
      · subst hi; rw [ho] at h'; cases h'
      · rw [List.getElem?_set, if_neg hi]; exact h'
  have hne : ∀ (id' : Nat) (o' : AObj) (b' c' : Nat), id' ≠ id → H[id']? = some (some o') → ρ id' = some (b', c') → b' ≠ b := fun id' o' b' c' hne h' hρ' e => by
    subst e; exact hne (g.inj id' o' b' c' id o cap h' hρ' ho hρ)
  refine ⟨⟨hos.trans g.os, htape.trans g.tape, hout.trans g.output, by rw [hsize]; exact g.size, fun b' hb' hW hr => ?_, g.inv.keep (fun p hp => hother p (fun e => (g.own id o b cap ho hρ).2.1 (by rw [← e]; exact hp.symm))) (fun _ h => h) hx.blk, fun b' hb' => by rw [hsize]; exact g.oks b' hb', fun id' o1 b' c' h' hρ' => ?_,
    fun id1 o1 b1 c1 id2 o2 c2 h1 r1 h2 r2 => ?_, fun id' o1 h' => ?_, fun id' o1 h' => ?_⟩, hx⟩
  · rw [hother b' (fun e => ?_)]
    · exact g.blk b' hb' hW hr
    · rcases (g.own id o b cap ho hρ).2.2 with h | h
      · exact hW (e ▸ h)
      · omega
  · rcases get_set hidl h' with ⟨rfl, rfl⟩ | ⟨hne', h'⟩
    · exact g.own _ o b' c' ho hρ'
    · exact g.own _ _ _ _ h' hρ'
  · rcases get_set hidl h1 with ⟨rfl, rfl⟩ | ⟨hne1, h1'⟩ <;> rcases get_set hidl h2 with ⟨rfl, rfl⟩ | ⟨hne2, h2'⟩
    · rfl
    · exact g.inj _ _ _ _ _ _ _ ho r1 h2' r2
    · exact g.inj _ _ _ _ _ _ _ h1' r1 ho r2
    · exact g.inj _ _ _ _ _ _ _ h1' r1 h2' r2
  · rcases get_set hidl h' with ⟨rfl, rfl⟩ | ⟨hne', h'⟩
    · exact hlen
    · exact g.len _ _ h'
  · rcases get_set hidl h' with ⟨rfl, rfl⟩ | ⟨hne', h'⟩
    · rw [hρ]; exact hobj hx
    · exact (g.obj _ _ h').ext hx (fun b' c' hρ' => hother _ (hne _ _ _ _ hne' h' hρ'))

theorem sameNow_true {d : TypeDesc} {k k' : Value} (h : Instr.sameNow d k k' = some true) : k' = k := by
  cases d <;> cases k <;> cases k' <;> simp_all [Instr.sameNow, MapKept.bytes_beq]
theorem sameNow_false {d : TypeDesc} {k k' : Value} (h : Instr.sameNow d k k' = some false) : k' ≠ k := by
  rintro rfl
  cases d <;> cases k' <;> simp_all [Instr.sameNow]
  · rename_i a
    have := (MapKept.bytes_beq a a).2 rfl
    rw [h] at this
    cases this

/-- What an update finds, and what comes of it. -/
theorem put_sound {d : TypeDesc} {k : Value} {v : AV} {R : Value → AV → Prop} : ∀ {ents : List MapEntry} {es es' : List (List AV)}, ents.length = es.length → (∀ (i : Nat) (x : MapEntry) (e : List AV), ents[i]? = some x → es[i]? = some e → ∃ a, e = [.sc x.key, a] ∧ R x.val a) → aput d k v es = some es' →
    (es' = es ++ [[.sc k, v]] ∧ (∀ i, Instr.findNow d k ents i = some none) ∧ ∀ x ∈ ents, x.key ≠ k) ∨
    ∃ (j : Nat) (x : MapEntry), es' = es.set j [.sc k, v] ∧ ents[j]? = some x ∧ x.key = k ∧ ∀ i, Instr.findNow d k ents i = some (some (i + j, x.val))
  | [], [], es', _, _, h => by simp only [aput, Option.some.injEq] at h; subst h; exact .inl ⟨rfl, fun i => rfl, by simp⟩
  | [], _ :: _, _, hl, _, _ => by simp at hl
  | _ :: _, [], _, hl, _, _ => by simp at hl
  | x :: ents, e :: es, es', hl, hr, h => by
    obtain ⟨a, rfl, _⟩ := hr 0 x e rfl rfl
    simp only [aput] at h
    split at h
    · rename_i hs
      simp only [Option.some.injEq] at h
      subst h
      exact .inr ⟨0, x, rfl, rfl, sameNow_true hs, fun i => by simp only [Instr.findNow, hs]; rfl⟩
    · rename_i hs
      rw [Option.map_eq_some_iff] at h
      obtain ⟨es1, h1, rfl⟩ := h
      rcases put_sound (by simpa using hl) (fun i x e hi hp => hr (i + 1) x e hi hp) h1 with ⟨rfl, q2, q3⟩ | ⟨j, x', rfl, q2, q3, q4⟩
      · refine .inl ⟨rfl, fun i => by simp only [Instr.findNow, hs]; exact q2 _, fun y hy => ?_⟩
        rcases List.mem_cons.1 hy with rfl | hy
        · exact sameNow_false hs
        · exact q3 y hy
      · exact .inr ⟨j + 1, x', rfl, q2, q3, fun i => by simp only [Instr.findNow, hs]; exact (q4 _).trans (by rw [Nat.add_assoc, Nat.add_comm 1 j])⟩
    · cases h

theorem update_sound (g : Good E w ρ H ok) {t : TypeId} {vx vk vv : Value} {x k v : AV} {H' : Heap} (rx : Rep w ρ H ok vx x) (rk : Rep w ρ H ok vk k) (rv : Rep w ρ H ok vv v) (h : aupdate E.P t H x k v = some H') :
    ∃ w', (Instr.mapUpdate t vx vk vv).run E.P w = .ok () w' ∧ Good E w' ρ H' ok ∧ Ext w ρ H ok w' ρ H' ok := by
  unfold aupdate at h
  split at h
  · rename_i kt d et kv id hm
    obtain ⟨ht, hd⟩ := mapOf_sound hm
    rw [rep_sc rk]
    split at h
    · rename_i hk
      have hk := isKeyB_sound hk
      split at h
      · rename_i o ho
        rw [Option.map_eq_some_iff] at h
        obtain ⟨es', hput, rfl⟩ := h
        cases rx with
        | mrefDead hd _ => rw [ho] at hd; cases hd
        | @mref _ b o' ho' hρ =>
          rw [ho] at ho'
          simp only [Option.some.injEq] at ho'
          subst ho'
          have hobj := g.obj id o ho
          rw [hρ] at hobj
          obtain ⟨hk2, ents, clk, h1, h2, h3, h4⟩ := hobj.map
          have hlt : b < w.heap.size := hobj.lt
          have main : ∀ (ents' : Array MapEntry) (clk' : Nat), (Instr.mapUpdate t (.map (some b)) kv vv).run E.P w = .ok () { w with heap := w.heap.setIfInBounds b (.map ents' clk') } → MapKept.Stamped ents' clk' → o.es.length ≤ es'.length → (∀ e ∈ es', e.length = o.k) → ents'.size = es'.length →
              (∀ (i : Nat) (x : MapEntry) (e : List AV), ents'[i]? = some x → es'[i]? = some e → ∃ a, e = [.sc x.key, a] ∧ Rep w ρ H ok x.val a) →
              ∃ w', (Instr.mapUpdate t (.map (some b)) kv vv).run E.P w = .ok () w' ∧ Good E w' ρ (H.set id (some { o with es := es' })) ok ∧ Ext w ρ H ok w' ρ (H.set id (some { o with es := es' })) ok := by
            intro ents' clk' hrun hst hl hlen hsz hget
            refine ⟨_, hrun, g.change ho hρ { o with es := es' } rfl hl hlen rfl rfl rfl (by simp) (fun b' hb' => (MapKept.heap_set h1).2 b' hb') fun hx => ?_⟩
            refine .inr (.inl ⟨rfl, hk2, ents', clk', (MapKept.heap_set h1).1, hst, hsz, fun i y e hy he => ?_⟩)
            obtain ⟨a, ha, hr⟩ := hget i y e hy he
            exact ⟨a, ha, hr.ext hx⟩
          rcases put_sound (ents := ents.toList) (by simpa using h3) (fun i x e hi he => h4 i x e (by simpa using hi) he) hput with ⟨rfl, q2, q3⟩ | ⟨j, y, rfl, q2, q3, q4⟩
          · refine main (ents.push { key := kv, val := vv, born := clk }) (clk + 1) ?_ (MapKept.stamped_push h2 q3) (by simp) (fun e he => ?_) (by simp [h3]) (fun i y e hy he => ?_)
            · simp [Instr.mapUpdate, run_underlying ht, MapKept.run_getObj_map h1, MapKept.run_checkKey hd hk, MapKept.run_findKey hd (q2 0), MapKept.run_setObj_map _ h1, Result.andThen]
            · rcases List.mem_append.1 he with he | he
              · exact g.len id o ho e he
              · simp at he; subst he; simp [hk2]
            · rcases Nat.lt_or_ge i ents.size with hi | hi
              · rw [Array.getElem?_push, if_neg (by omega)] at hy
                rw [List.getElem?_append_left (by omega)] at he
                exact h4 i y e hy he
              · have hi' : i = ents.size := by
                  have := (List.getElem?_eq_some_iff.1 he).1
                  simp at this
                  omega
                subst hi'
                simp at hy
                rw [h3] at he
                simp at he
                subst hy; subst he
                exact ⟨v, rfl, rv⟩
          · have hj : ents[j]? = some y := by simpa using q2
            have hjl : j < ents.size := (Array.getElem?_eq_some_iff.1 hj).1
            refine main (ents.modify j fun e => { e with key := kv, val := vv }) clk ?_ (MapKept.stamped_modify h2 _ _ (fun _ _ => rfl) (fun e' _ he' => ?_)) (by simp) (fun e he => ?_) (by simp [h3]) (fun i z e hz he => ?_)
            · have hf := q4 0
              rw [Nat.zero_add] at hf
              simp [Instr.mapUpdate, run_underlying ht, MapKept.run_getObj_map h1, MapKept.run_checkKey hd hk, MapKept.run_findKey hd hf, hj, q3, MapKept.run_keyThatStays hk, MapKept.run_setObj_map _ h1, Result.andThen]
            · rw [hj] at he'
              simp only [Option.some.injEq] at he'
              subst he'
              exact q3.symm
            · rcases List.mem_or_eq_of_mem_set he with he | rfl
              · exact g.len id o ho e he
              · simp [hk2]
            · rw [Array.getElem?_modify] at hz
              rw [List.getElem?_set] at he
              split at hz
              · rename_i hji
                subst hji
                rw [if_pos rfl, if_pos (by omega)] at he
                rw [hj] at hz
                simp at hz he
                subst hz; subst he
                exact ⟨v, rfl, rv⟩
              · rename_i hji
                rw [if_neg hji] at he
                exact h4 i z e hz he
      · cases h
    · cases h
  · cases h

theorem alloc_get (w : World) (o : Obj) : (w.alloc o).heap[w.heap.size]? = some o := (MapKept.heap_alloc w o).1

/-- A new object that is no row of cells. -/
theorem Good.newOther (g : Good E w ρ H ok) (ob : Obj) (o : AObj) (cap : Nat) (hlen : ∀ (e : List AV), e ∈ o.es → e.length = o.k) (hobj : Ext w ρ H ok (w.alloc ob) ρ H ok → ObjOk (w.alloc ob) ρ H ok o (some (w.heap.size, cap))) :
    Good E (w.alloc ob) (updP ρ H.length (some (w.heap.size, cap))) (H ++ [some o]) ok ∧ Ext w ρ H ok (w.alloc ob) (updP ρ H.length (some (w.heap.size, cap))) (H ++ [some o]) ok := by
  obtain ⟨g1, x1⟩ := g.alloc ob (ok' := ok) (fun _ h => h) (fun _ h => .inl h)
  obtain ⟨g2, x2⟩ := g1.add o (some (w.heap.size, cap)) (hobj x1) hlen (fun b c hb => by
      simp only [Option.some.injEq, Prod.mk.injEq] at hb
      obtain ⟨rfl, rfl⟩ := hb
      refine ⟨fun h => by have := (g.oks _ h).1; omega, fun id o' c' h hρ => ?_, fun hr => by have := g.row_lt hr.symm; omega, .inr g.size⟩
      have hobj := g.obj id o' h
      rw [hρ] at hobj
      have := hobj.lt
      omega)
  exact ⟨g2, x1.trans x2⟩

theorem makeMap_sound (g : Good E w ρ H ok) (t : TypeId) :
    ∃ v w' ρ', (Instr.makeMap t none).run E.P w = .ok v w' ∧ Good E w' ρ' (H ++ [some ⟨0, 2, []⟩]) ok ∧ Ext w ρ H ok w' ρ' (H ++ [some ⟨0, 2, []⟩]) ok ∧ Rep w' ρ' (H ++ [some ⟨0, 2, []⟩]) ok v (.mref H.length) := by
  obtain ⟨g', x'⟩ := g.newOther (.map #[] 0) ⟨0, 2, []⟩ (maxLen + 1) (by simp) fun _ => .inr (.inl ⟨rfl, rfl, #[], 0, alloc_get w _, MapKept.stamped_empty 0, rfl, by simp⟩)
  refine ⟨.map (some w.heap.size), _, _, ?_, g', x', .mref push_new (by simp [updP])⟩
  simp [Instr.makeMap, Result.andThen]

def isMapT (P : Program) (t : TypeId) : Bool := match P.underlying t with
  | some (.map _ _) => true
  | _ => false

theorem range_sound (g : Good E w ρ H ok) {t : TypeId} {vx : Value} {es : List (Value × Value)} (rx : Rep w ρ H ok vx (.imap es)) (ht : isMapT E.P t = true) :
    ∃ v w' ρ', (Instr.range t vx).run E.P w = .ok v w' ∧ Good E w' ρ' (H ++ [some ⟨0, 3, [[.junk, .junk, .imap es]]⟩]) ok ∧ Ext w ρ H ok w' ρ' (H ++ [some ⟨0, 3, [[.junk, .junk, .imap es]]⟩]) ok ∧ Rep w' ρ' (H ++ [some ⟨0, 3, [[.junk, .junk, .imap es]]⟩]) ok v (.miter H.length) := by
  obtain ⟨kt, et, hu⟩ : ∃ kt et, E.P.underlying t = some (.map kt et) := by
    unfold isMapT at ht
    split at ht
    · exact ⟨_, _, by assumption⟩
    · cases ht
  cases rx with
  | @imap b clk ents _ hok hb he hw =>
    obtain ⟨g', x'⟩ := g.newOther (.mapIter (some b) clk #[] clk) ⟨0, 3, [[.junk, .junk, .imap es]]⟩ (maxLen + 2) (by simp) fun x1 => .inr (.inr ⟨rfl, rfl, .inr ⟨b, clk, #[], ents, .junk, .junk, alloc_get w _, hok, (x1.blk b hok).trans hb, hw, by rw [List.filter_eq_self.2 (by simp), he], .inl ⟨rfl, rfl⟩⟩⟩)
    refine ⟨.pointer (some ⟨w.heap.size, 0, none⟩), _, _, ?_, g', x', .miter push_new (by simp [updP])⟩
    simp only [Instr.range, Sem.run_bind, run_underlying hu, Result.andThen_ok, MapKept.run_getObj_map hb, Sem.run_pure]
    simp
  | imapNil =>
    obtain ⟨g', x'⟩ := g.newOther (.mapIter none 0 #[] 0) ⟨0, 3, [[.junk, .junk, .imap []]]⟩ (maxLen + 2) (by simp) fun x1 => .inr (.inr ⟨rfl, rfl, .inl ⟨rfl, alloc_get w _⟩⟩)
    refine ⟨.pointer (some ⟨w.heap.size, 0, none⟩), _, _, ?_, g', x', .miter push_new (by simp [updP])⟩
    simp only [Instr.range, Sem.run_bind, run_underlying hu, Result.andThen_ok, Sem.run_pure]
    simp

theorem filter_erase {β : Type} [BEq β] [LawfulBEq β] {f : MapEntry → β} : ∀ {l : List MapEntry} {i : Nat} {e : MapEntry}, (l.map f).Nodup → l[i]? = some e → l.filter (fun x => !(f x == f e)) = l.eraseIdx i
  | [], i, e, _, h => by simp at h
  | a :: l, 0, e, hn, h => by
    simp only [List.getElem?_cons_zero, Option.some.injEq] at h
    subst h
    simp only [List.map_cons, List.nodup_cons] at hn
    simp only [List.filter_cons, beq_self_eq_true, Bool.not_true, Bool.false_eq_true, if_false, List.eraseIdx_cons_zero]
    refine List.filter_eq_self.2 fun x hx => ?_
    have : ¬ f x = f a := fun q => hn.1 (q ▸ List.mem_map_of_mem hx)
    simp [this]
  | a :: l, i + 1, e, hn, h => by
    simp only [List.map_cons, List.nodup_cons] at hn
    have h' : l[i]? = some e := by simpa using h
    have : ¬ f a = f e := fun q => hn.1 (q ▸ List.mem_map_of_mem (List.mem_of_getElem? h'))
    simp only [List.filter_cons, List.eraseIdx_cons_succ]
    rw [if_pos (by simp [this]), filter_erase hn.2 h']

theorem eraseIdx_map' {α β : Type} (f : α → β) : ∀ (l : List α) (i : Nat), (l.map f).eraseIdx i = (l.eraseIdx i).map f
  | [], i => by simp
  | a :: l, 0 => rfl
  | a :: l, i + 1 => by simp [eraseIdx_map' f l i]

theorem run_setObj_iter {P : Program} {b since last : Nat} {m : Option Nat} {seen : Array Nat} (o : Obj) (hb : w.heap[b]? = some (.mapIter m since seen last)) : (setObj b o).run P w = .ok () { w with heap := w.heap.setIfInBounds b o } := by
  simp [setObj, Sem.run, hb]

theorem run_choose_next {P : Program} (n : Nat) (hn : 0 < n) : ∃ (i : Nat) (w1 : World), (choose (.mapNext n)).run P w = .ok i w1 ∧ i < n ∧ w1.os = w.os ∧ w1.tape = w.tape ∧ w1.output = w.output ∧ w1.heap = w.heap := by
  simp only [choose, Sem.run, Question.forced, Question.cut]
  by_cases h : n ≤ 1
  · exact ⟨0, w, by simp [h], hn, rfl, rfl, rfl, rfl⟩
  · exact ⟨w.tape w.drawn (.mapNext n) % n, { w with drawn := w.drawn + 1 }, by simp [h], Nat.mod_lt _ hn, rfl, rfl, rfl, rfl⟩

/-- The next entry, whichever it is. -/
theorem next_sound (g : Good E w ρ H ok) {ty : TypeId} {vx : Value} {id : Nat} {o : AObj} {a1 a2 : AV} {left : List (Value × Value)} (rx : Rep w ρ H ok vx (.miter id)) (ho : H[id]? = some (some o)) (hes : o.es = [[a1, a2, .imap left]]) :
    (left = [] ∧ (Instr.next vx false ty).run E.P w = .ok (.tuple #[.bool false]) w) ∨
    ∃ (i : Nat) (e : Value × Value) (w' : World), left[i]? = some e ∧ (Instr.next vx false ty).run E.P w = .ok (.tuple #[.bool true, e.1, e.2]) w' ∧
      Good E w' ρ (H.set id (some { o with es := [[.sc e.1, .sc e.2, .imap (left.eraseIdx i)]] })) ok ∧ Ext w ρ H ok w' ρ (H.set id (some { o with es := [[.sc e.1, .sc e.2, .imap (left.eraseIdx i)]] })) ok := by
  cases rx with
  | miterDead hd _ => rw [ho] at hd; cases hd
  | @miter _ b o' ho' hρ =>
    rw [ho] at ho'
    simp only [Option.some.injEq] at ho'
    subst ho'
    have hobj := g.obj id o ho
    rw [hρ] at hobj
    obtain ⟨hk3, ⟨h1, h2⟩ | ⟨m, clk, seen, ents, c1, c2, h1, h2, h3, h4, h5, h6⟩⟩ := hobj.iter
    · left
      rw [hes] at h1
      simp only [List.cons.injEq, AV.imap.injEq, and_true] at h1
      refine ⟨h1.2.2, ?_⟩
      simp only [Instr.next, Sem.run_bind, run_getObj_iter h2, Result.andThen_ok, Sem.run_pure]
    · rw [hes] at h5
      simp only [List.cons.injEq, AV.imap.injEq, and_true] at h5
      obtain ⟨_, _, hleft⟩ := h5
      obtain ⟨s1, s2, s3⟩ := h4
      have hold : ((ents.filter fun e => !seen.contains e.born).filter (·.born < clk)) = ents.filter fun e => !seen.contains e.born := by
        apply Array.ext'
        simp only [Array.toList_filter]
        exact List.filter_eq_self.2 fun x hx => by simpa using s1 x (List.mem_filter.1 hx).1
      have hnew : ((ents.filter fun e => !seen.contains e.born).filter (·.born ≥ clk)) = #[] := by
        apply Array.ext'
        simp only [Array.toList_filter]
        exact List.filter_eq_nil_iff.2 fun x hx => by have := s1 x (List.mem_filter.1 hx).1; simp; omega
      have hchk : (!seen.isEmpty && !ents.isEmpty && ents.all (·.born ≥ clk)) = false := by
        rcases Nat.eq_zero_or_pos ents.size with h0 | h0
        · have : ents = #[] := Array.eq_empty_of_size_eq_zero h0
          subst this; simp
        · have hm : ents[0] ∈ ents.toList := by simp
          have hlt := s1 _ hm
          have : ents.all (·.born ≥ clk) = false := by
            rw [Bool.eq_false_iff]
            intro hall
            have := (Array.all_eq_true.1 hall) 0 h0
            simp at this
            omega
          rw [this]; simp
      generalize hL : (ents.filter fun e => !seen.contains e.born) = L at hold hnew
      have hLl : L.toList = ents.toList.filter fun e => !seen.contains e.born := by rw [← hL, Array.toList_filter]
      have hsz : left.length = L.size := by rw [hleft, ← hLl]; simp
      rcases Nat.eq_zero_or_pos L.size with h0 | h0
      · left
        have hLe : L = #[] := Array.eq_empty_of_size_eq_zero h0
        refine ⟨List.eq_nil_of_length_eq_zero (by omega), ?_⟩
        subst hLe
        simp only [Instr.next, Sem.run_bind, run_getObj_iter h1, Result.andThen_ok, MapKept.run_getObj_map h3, hL, hold, hnew, hchk, Bool.false_eq_true, if_false, Sem.run_pure]
        simp [choose, Sem.run, Question.forced]
      · right
        obtain ⟨i, w1, hc1, hi, e1, e2, e3, e4⟩ := run_choose_next (w := w) (P := E.P) L.size h0
        have hLi : L[i]? = some L[i] := Array.getElem?_eq_getElem hi
        have hlefti : left[i]? = some (L[i].key, L[i].val) := by
          rw [hleft, ← hLl, List.getElem?_map, Array.getElem?_toList, hLi]; rfl
        have hb1 : w1.heap[b]? = some (.mapIter (some m) clk seen clk) := by rw [e4]; exact h1
        have hne0 : ¬ L.isEmpty = true := by simp; intro h; subst h; simp at h0
        refine ⟨i, _, { w1 with heap := w1.heap.setIfInBounds b (.mapIter (some m) clk (seen.push L[i].born) clk) }, hlefti, ?_, g.change ho hρ _ rfl (by rw [hes]; simp) (by simp [hk3]) e1 e2 e3 (by simp [e4]) (fun b' hb' => ?_) fun hx => ?_⟩
        · simp only [Instr.next, Sem.run_bind, run_getObj_iter h1, Result.andThen_ok, MapKept.run_getObj_map h3, hL, hold, hnew, hchk, Bool.false_eq_true, if_false, Sem.run_pure, hne0, Array.append_empty, Array.empty_append, Array.size_map, hc1, Array.getElem?_map, hLi, Option.map_some, run_setObj_iter _ hb1]
        · have hh := (MapKept.heap_set (w := w1) (o' := .mapIter (some m) clk (seen.push L[i].born) clk) hb1).2 b' hb'
          simp only [e4] at hh ⊢
          exact hh
        · have hm : m ≠ b := fun e => (g.own id o b _ ho hρ).1 (e ▸ h2)
          have hLm : L[i] ∈ ents.toList := by
            have : L[i] ∈ L.toList := by simp
            rw [hLl] at this
            exact (List.mem_filter.1 this).1
          refine .inr (.inr ⟨rfl, hk3, .inr ⟨m, clk, seen.push L[i].born, ents, .sc L[i].key, .sc L[i].val, (MapKept.heap_set hb1).1, h2, (hx.blk m h2).trans h3, ⟨s1, s2, s3⟩, ?_, .inr ⟨L[i], hLm, by simp, rfl, rfl⟩⟩⟩)
          have hnd : (L.toList.map (·.born)).Nodup := by
            rw [hLl]
            exact (List.filter_sublist.map _).nodup s2
          have hfe := filter_erase (f := (·.born)) hnd (show L.toList[i]? = some L[i] by simp [hLi])
          have : (ents.toList.filter fun e => !(seen.push L[i].born).contains e.born) = L.toList.eraseIdx i := by
            rw [← hfe, hLl, List.filter_filter]
            apply List.filter_congr
            intro x _
            simp only [Array.contains_push]
            by_cases hq : x.born = L[i].born
            · simp [hq]
            · have hq' : ¬ L[i].born = x.born := fun e => hq e.symm
              cases seen.contains x.born <;> simp [hq, hq']
          rw [this, hleft, ← hLl, eraseIdx_map']

end
end Go.PA
