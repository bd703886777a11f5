/- PA, part 8: composite values. -/
import Derived.Test.YtellcfkpfccgaaaPa7
namespace Go.PA
open Go.RowKit

def afill (place : Nat → Option (Nat × Nat)) : List AV → List (Nat × AV) → Option (List AV)
  | cells, [] => some cells
  | cells, (i, x) :: rest => match place i, x.cells? with
    | some (off, size), some xs => if xs.length = size ∧ off + size ≤ cells.length then afill place (cells.take off ++ xs ++ cells.drop (off + xs.length)) rest else none
    | _, _ => none

def placeOf (P : Program) (t : TypeId) (i : Nat) : Option (Nat × Nat) :=
  match fieldOf P t i, arrOf P t with
  | some (off, ft), _ => some (off, szOf P ft)
  | none, some (_, e) => if knownT P e then some (i * szOf P e, szOf P e) else none
  | none, none => none

def fieldsKnown (P : Program) (t : TypeId) : Bool := match P.underlying t with
  | some (.struct fs) => fs.all fun f => knownT P f.type
  | some (.array _ e) => knownT P e
  | _ => false

def abuild (P : Program) (t : TypeId) (parts : List (Nat × AV)) : Option AV :=
  if fieldsKnown P t then (zeros P t).bind fun zs => (afill (placeOf P t) zs parts).map .agg else none

def aparts (k : Nat) : Nat → List (Nat × AV) → Option (List (List AV))
  | _, [] => some []
  | n, (i, x) :: rest => if i = n then match x.cells?, aparts k (n + 1) rest with
      | some xs, some es => if xs.length = k then some (xs :: es) else none
      | _, _ => none
    else none

def abuildSlice (P : Program) (t : TypeId) (len : Nat) (parts : List (Nat × AV)) : Option AV :=
  match elemOf P t with
  | some e => if (zeros P e).isSome ∧ parts.length = len ∧ len * szOf P e ≤ 16777216 ∧ 0 < szOf P e then (aparts (szOf P e) 0 parts).map (.list (szOf P e)) else none
  | none => none

section
variable {E : Env} {w : World} {ρ : Places} {H : Heap} {ok : Nat → Prop}

theorem fold_set (off : Nat) : ∀ (l : List Value) (n : Nat) (cells : Array Value), off + n + l.length ≤ cells.size →
    ((l.zipIdx n).foldl (fun cs (p : Value × Nat) => cs.setIfInBounds (off + p.2) p.1) cells).size = cells.size ∧
    ∀ q, ((l.zipIdx n).foldl (fun cs (p : Value × Nat) => cs.setIfInBounds (off + p.2) p.1) cells)[q]? = if off + n ≤ q ∧ q < off + n + l.length then l[q - (off + n)]? else cells[q]?
  | [], n, cells, _ => by
    refine ⟨rfl, fun q => ?_⟩
    rw [if_neg (by simp)]
    rfl
  | v :: l, n, cells, h => by
    simp only [List.length_cons] at h
    obtain ⟨h1, h2⟩ := fold_set off l (n + 1) (cells.setIfInBounds (off + n) v) (by simp; omega)
    simp only [List.zipIdx_cons, List.foldl_cons]
    refine ⟨by rw [h1]; simp, fun q => ?_⟩
    rw [h2]
    simp only [List.length_cons]
    by_cases hq : q = off + n
    · subst hq
      rw [if_neg (by omega), if_pos (by omega)]
      have hlt : off + n < cells.size := by omega
      simp [hlt]
    · by_cases hr : off + (n + 1) ≤ q ∧ q < off + (n + 1) + l.length
      · rw [if_pos hr, if_pos (by omega)]
        have : q - (off + n) = (q - (off + (n + 1))) + 1 := by omega
        rw [this, List.getElem?_cons_succ]
      · rw [if_neg hr, if_neg (by omega), Array.getElem?_setIfInBounds_ne (by omega)]

theorem fill_sound {place : Nat → Option (Nat × Nat)} : ∀ {parts : List (Nat × AV)} {vs : List (Nat × Value)} {cells : List AV} {cur : Array Value} {out : List AV},
    vs.length = parts.length → (∀ (i : Nat) (p : Nat × AV) (q : Nat × Value), parts[i]? = some p → vs[i]? = some q → q.1 = p.1 ∧ Rep w ρ H ok q.2 p.2) →
    cur.size = cells.length → (∀ (i : Nat) (c : Value) (a : AV), cur[i]? = some c → cells[i]? = some a → Rep w ρ H ok c a) → afill place cells parts = some out →
    ∃ res, Instr.fill place cur vs = some res ∧ res.size = out.length ∧ ∀ (i : Nat) (c : Value) (a : AV), res[i]? = some c → out[i]? = some a → Rep w ρ H ok c a
  | [], vs, cells, cur, out, hl, _, hs, hc, h => by
    have : vs = [] := List.eq_nil_of_length_eq_zero hl
    subst this
    simp only [afill, Option.some.injEq] at h
    subst h
    exact ⟨cur, rfl, hs, hc⟩
  | (i, x) :: rest, [], cells, cur, out, hl, _, hs, hc, h => by simp at hl
  | (i, x) :: rest, (i', v) :: vs, cells, cur, out, hl, hr, hs, hc, h => by
    obtain ⟨rfl, hv⟩ := hr 0 (i, x) (i', v) rfl rfl
    simp only [afill] at h
    split at h
    · rename_i off size xs hp hx
      split at h
      · rename_i hcond
        obtain ⟨h1, h2⟩ := hcond
        obtain ⟨c1, c2⟩ := cells_sound hv hx
        simp only at c1 c2
        obtain ⟨f1, f2⟩ := fold_set off v.cells.toList 0 cur (by simp; omega)
        have hnl : (cells.take off ++ xs ++ cells.drop (off + xs.length)).length = cells.length := by simp; omega
        have e0 : v.cells.zipIdx.foldl (fun cs (p : Value × Nat) => cs.setIfInBounds (off + p.2) p.1) cur = (v.cells.toList.zipIdx 0).foldl (fun cs (p : Value × Nat) => cs.setIfInBounds (off + p.2) p.1) cur := by
          rw [← Array.foldl_toList]; simp
        obtain ⟨res, q1, q2, q3⟩ := fill_sound (place := place) (parts := rest) (vs := vs) (cells := cells.take off ++ xs ++ cells.drop (off + xs.length)) (cur := (v.cells.toList.zipIdx 0).foldl (fun cs (p : Value × Nat) => cs.setIfInBounds (off + p.2) p.1) cur)
          (by simpa using hl) (fun i p q hp hq => hr (i + 1) p q hp hq) (by rw [f1, hnl, hs]) (fun j c a hj ha => by
            rw [f2] at hj
            rw [splice_get cells xs off j (by omega)] at ha
            simp only [Nat.add_zero, Array.length_toList, c1] at hj
            by_cases hlt : j < off
            · rw [if_pos hlt] at ha
              rw [if_neg (by omega)] at hj
              exact hc j c a hj ha
            · rw [if_neg hlt] at ha
              by_cases hlt2 : j < off + xs.length
              · rw [if_pos hlt2] at ha
                rw [if_pos (by omega)] at hj
                exact (c2 _ c a (by simpa using hj) ha).2
              · rw [if_neg hlt2] at ha
                rw [if_neg (by omega)] at hj
                exact hc j c a hj ha) h
        refine ⟨res, ?_, q2, q3⟩
        simp only [Instr.fill, hp]
        rw [if_neg (by simp; omega)]
        rw [← q1]
        congr 1
      · cases h
    · cases h

theorem run_mapM_list {α β : Type} {P : Program} (f : α → Sem β) (h : α → β) (w : World) : ∀ (l : List α), (∀ a ∈ l, (f a).run P w = .ok (h a) w) → (l.mapM f).run P w = .ok (l.map h) w
  | [], _ => rfl
  | a :: l, hl => by
    simp only [List.mapM_cons, Sem.run_bind, hl a (by simp), Result.andThen_ok, run_mapM_list f h w l (fun x hx => hl x (by simp [hx])), Sem.run_pure, List.map_cons]

theorem run_mapM_arr {α β : Type} {P : Program} (f : α → Sem β) (h : α → β) (w : World) (a : Array α) (ha : ∀ x ∈ a, (f x).run P w = .ok (h x) w) : (a.mapM f).run P w = .ok (a.map h) w := by
  rw [Array.mapM_eq_mapM_toList]
  have := run_mapM_list (P := P) f h w a.toList (fun x hx => ha x (by simpa using hx))
  simp only [Functor.map]
  show Sem.run P (Bind.bind _ _) w = _
  simp only [Sem.run_bind, this, Result.andThen_ok, Function.comp]
  show Result.ok (List.map h a.toList).toArray w = _
  congr 1
  apply Array.ext'
  simp

theorem zero_rep {z : Value} {zs : List AV} (h : zs = z.cells.toList.map ofCell) : ∀ (i : Nat) (c : Value) (a : AV), z.cells[i]? = some c → zs[i]? = some a → Rep w ρ H ok c a := by
  intro i c a hi ha
  subst h
  rw [List.getElem?_map, Option.map_eq_some_iff] at ha
  obtain ⟨c', hc', rfl⟩ := ha
  rw [Array.getElem?_toList, hi] at hc'
  simp only [Option.some.injEq] at hc'
  subst hc'
  exact ofCell_rep _

theorem build_sound {P : Program} {t : TypeId} {parts : List (Nat × AV)} {vs : Array (Nat × Value)} {x : AV} (hl : vs.size = parts.length)
    (hr : ∀ (i : Nat) (p : Nat × AV) (q : Nat × Value), parts[i]? = some p → vs[i]? = some q → q.1 = p.1 ∧ Rep w ρ H ok q.2 p.2) (h : abuild P t parts = some x) :
    ∃ v, (Instr.build t vs).run P w = .ok v w ∧ Rep w ρ H ok v x := by
  unfold abuild at h
  split at h
  · rename_i hk
    rw [Option.bind_eq_some_iff] at h
    obtain ⟨zs, hz, h⟩ := h
    rw [Option.map_eq_some_iff] at h
    obtain ⟨out, hf, rfl⟩ := h
    obtain ⟨i, z, hi, hz1, hzs, his, hzz, _⟩ := zeros_sound hz
    have hrl : ∀ (i : Nat) (p : Nat × AV) (q : Nat × Value), parts[i]? = some p → vs.toList[i]? = some q → q.1 = p.1 ∧ Rep w ρ H ok q.2 p.2 := fun i p q hp hq => hr i p q hp (by simpa using hq)
    unfold fieldsKnown at hk
    split at hk
    · rename_i fs hs
      rw [Array.all_eq_true_iff_forall_mem] at hk
      have hm : (fs.mapM fun f => (do pure (f.offset, ← sizeOf f.type) : Sem (Nat × Nat))).run P w = .ok (fs.map fun f => (f.offset, szOf P f.type)) w :=
        run_mapM_arr _ _ w fs (fun f hf => by simp [run_sizeOf' (hk f hf)])
      obtain ⟨res, q1, q2, q3⟩ := fill_sound (place := placeOf P t) (by simpa using hl) hrl (by rw [hzz]; simp) (zero_rep hzz) hf
      have q1' : Instr.fill (fun i => (fs.map fun f => (f.offset, szOf P f.type))[i]?) z.cells vs.toList = some res := by
        have mono : ∀ (l : List (Nat × Value)) (c r : Array Value), Instr.fill (placeOf P t) c l = some r → Instr.fill (fun i => (fs.map fun f => (f.offset, szOf P f.type))[i]?) c l = some r := by
          intro l
          induction l with
          | nil => intro c r h; exact h
          | cons p l ih =>
            intro c r h
            obtain ⟨i, v⟩ := p
            simp only [Instr.fill] at h ⊢
            split at h
            · cases h
            · rename_i off size hp
              have hp' : (fs.map fun f => (f.offset, szOf P f.type))[i]? = some (off, size) := by
                unfold placeOf at hp
                split at hp
                · rename_i off' ft hfo
                  simp only [Option.some.injEq, Prod.mk.injEq] at hp
                  obtain ⟨rfl, rfl⟩ := hp
                  obtain ⟨fs', x, hs', hx, rfl, rfl, _, _⟩ := fieldOf_sound hfo
                  rw [hs] at hs'
                  simp only [Option.some.injEq, TypeDesc.struct.injEq] at hs'
                  subst hs'
                  simp [hx]
                · rename_i _ e _ ha
                  have := arrOf_sound ha
                  rw [hs] at this
                  cases this
                · cases hp
              rw [hp']
              simp only at h ⊢
              split at h
              · cases h
              · rename_i hc
                rw [if_neg hc]
                exact ih _ _ h
        exact mono _ _ _ q1
      refine ⟨.agg res, ?_, .agg q2 q3⟩
      simp only [Instr.build, Sem.run_bind, run_zeroValue' hi hz1, Result.andThen_ok, run_underlying hs]
      rw [show (fs.mapM fun f => (sizeOf f.type >>= fun s => pure (f.offset, s) : Sem (Nat × Nat))).run P w = _ from hm]
      simp only [Result.andThen_ok, q1', Sem.run_pure]
    · rename_i n e hs
      obtain ⟨res, q1, q2, q3⟩ := fill_sound (place := placeOf P t) (by simpa using hl) hrl (by rw [hzz]; simp) (zero_rep hzz) hf
      have hplace : placeOf P t = fun i => some (i * szOf P e, szOf P e) := by
        funext i
        unfold placeOf
        have h1 : fieldOf P t i = none := by unfold fieldOf; rw [hs]
        have h2 : arrOf P t = some (n, e) := by unfold arrOf; rw [hs]
        rw [h1, h2]
        simp [hk]
      rw [hplace] at q1
      refine ⟨.agg res, ?_, .agg q2 q3⟩
      simp [Instr.build, run_zeroValue' hi hz1, run_underlying hs, run_sizeOf' hk, q1]
    · cases hk
  · cases h

theorem aparts_fill {k : Nat} (hk : 0 < k) : ∀ {parts : List (Nat × AV)} {n : Nat} {es : List (List AV)} {cells : List AV}, aparts k n parts = some es → cells.length = (n + parts.length) * k →
    es.length = parts.length ∧ (∀ e ∈ es, e.length = k) ∧ afill (fun i => some (i * k, k)) cells parts = some (cells.take (n * k) ++ es.flatten)
  | [], n, es, cells, h, hl => by
    simp only [aparts, Option.some.injEq] at h
    subst h
    refine ⟨rfl, by simp, ?_⟩
    simp only [afill, List.flatten_nil, List.append_nil, Option.some.injEq]
    rw [List.take_of_length_le]
    simp at hl
    omega
  | (i, x) :: rest, n, es, cells, h, hl => by
    simp only [aparts] at h
    split at h
    · rename_i hi
      subst hi
      split at h
      · rename_i xs es' hx hes
        split at h
        · rename_i hxl
          simp only [Option.some.injEq] at h
          subst h
          have hle : i * k + k ≤ cells.length := by
            rw [hl, ← Nat.succ_mul]; exact Nat.mul_le_mul_right _ (by simp)
          have hnl : (cells.take (i * k) ++ xs ++ cells.drop (i * k + xs.length)).length = (i + 1 + rest.length) * k := by
            have : (i + 1 + rest.length) * k = cells.length := by rw [hl]; congr 1; simp; omega
            rw [this]
            simp
            omega
          obtain ⟨r1, r2, r3⟩ := aparts_fill hk hes hnl
          refine ⟨by simp [r1], by
            intro e he
            rcases List.mem_cons.1 he with rfl | he
            · exact hxl
            · exact r2 e he, ?_⟩
          simp only [afill, hx]
          rw [if_pos ⟨hxl, hle⟩, r3]
          congr 1
          rw [List.flatten_cons, ← List.append_assoc]
          congr 1
          have hl1 : (cells.take (i * k)).length = i * k := by simp; omega
          rw [show (i + 1) * k = i * k + xs.length from by rw [Nat.succ_mul, hxl]]
          rw [List.take_append_of_le_length (by simp; omega)]
          rw [List.take_of_length_le (by simp; omega)]
        · cases h
      · cases h
    · cases h

theorem flatten_get {k : Nat} : ∀ {es : List (List AV)}, (∀ e ∈ es, e.length = k) → ∀ {i : Nat} {e : List AV} {j : Nat} {a : AV}, es[i]? = some e → e[j]? = some a → es.flatten[i * k + j]? = some a
  | [], _, i, e, j, a, hi, _ => by simp at hi
  | e0 :: es, h, 0, e, j, a, hi, hj => by
    simp only [List.getElem?_cons_zero, Option.some.injEq] at hi
    subst hi
    have := (List.getElem?_eq_some_iff.1 hj).1
    rw [List.flatten_cons, Nat.zero_mul, Nat.zero_add, List.getElem?_append_left this]
    exact hj
  | e0 :: es, h, i + 1, e, j, a, hi, hj => by
    have h0 : e0.length = k := h e0 (by simp)
    rw [List.flatten_cons, List.getElem?_append_right (by rw [h0, Nat.succ_mul]; omega), h0, show (i + 1) * k + j - k = i * k + j from by rw [Nat.succ_mul]; omega]
    exact flatten_get (fun e he => h e (by simp [he])) (by simpa using hi) hj

theorem flatten_len {k : Nat} : ∀ {es : List (List AV)}, (∀ e ∈ es, e.length = k) → es.flatten.length = es.length * k
  | [], _ => by simp
  | e0 :: es, h => by
    rw [List.flatten_cons, List.length_append, flatten_len (fun e he => h e (by simp [he])), h e0 (by simp), List.length_cons, Nat.succ_mul]
    omega

theorem afill_cellish {place : Nat → Option (Nat × Nat)} : ∀ {parts : List (Nat × AV)} {cells out : List AV}, (∀ a ∈ cells, a.cellish = true) → afill place cells parts = some out → ∀ a ∈ out, a.cellish = true
  | [], cells, out, hc, h => by simp only [afill, Option.some.injEq] at h; subst h; exact hc
  | (i, x) :: rest, cells, out, hc, h => by
    simp only [afill] at h
    split at h
    · rename_i off size xs hp hx
      split at h
      · refine afill_cellish (fun a ha => ?_) h
        simp only [List.mem_append] at ha
        rcases ha with (ha | ha) | ha
        · exact hc a (List.mem_of_mem_take ha)
        · unfold AV.cells? at hx
          split at hx
          · split at hx
            · rename_i hall
              simp only [Option.some.injEq] at hx
              subst hx
              exact List.all_eq_true.1 hall a ha
            · cases hx
          · cases hx
          · cases hx
          · split at hx
            · rename_i hcc
              simp only [Option.some.injEq] at hx
              subst hx
              simp only [List.mem_singleton] at ha
              subst ha
              exact hcc
            · cases hx
        · exact hc a (List.mem_of_mem_drop ha)
      · cases h
    · cases h

theorem buildSlice_sound (g : Good E w ρ H ok) {t : TypeId} {len : Nat} {parts : List (Nat × AV)} {vs : Array (Nat × Value)} {x : AV} (hl : vs.size = parts.length)
    (hr : ∀ (i : Nat) (p : Nat × AV) (q : Nat × Value), parts[i]? = some p → vs[i]? = some q → q.1 = p.1 ∧ Rep w ρ H ok q.2 p.2) (h : abuildSlice E.P t len parts = some x) :
    ∃ v w' ok', (Instr.buildSlice t len vs).run E.P w = .ok v w' ∧ Good E w' ρ H ok' ∧ Ext w ρ H ok w' ρ H ok' ∧ Rep w' ρ H ok' v x := by
  unfold abuildSlice at h
  split at h
  · rename_i e he
    have ht := elemOf_sound he
    split at h
    · rename_i hc
      obtain ⟨hz, hpl, h24, hk⟩ := hc
      obtain ⟨zs, hz⟩ := Option.isSome_iff_exists.1 hz
      obtain ⟨i, z, hi, hz1, hzs, his, hzz, hz1c⟩ := zeros_sound hz
      rw [Option.map_eq_some_iff] at h
      obtain ⟨es, hes, rfl⟩ := h
      have hkn : knownT E.P e = true := by simp [knownT, hi]
      have hzlen : zs.length = szOf E.P e := by rw [hzz]; simpa using hzs
      generalize hk' : szOf E.P e = k at *
      let Z : Array Value := (Array.range (len * k)).map (z.cells[· % z.cells.size]!)
      let ZA : List AV := (List.range (len * k)).map fun p => ofCell (z.cells[p % z.cells.size]!)
      have hZ : Z.size = ZA.length := by simp [Z, ZA]
      have hZr : ∀ (i : Nat) (c : Value) (a : AV), Z[i]? = some c → ZA[i]? = some a → Rep w ρ H ok c a := fun i c a hci hai => by
        simp only [Z, ZA, Array.getElem?_map, List.getElem?_map, Option.map_eq_some_iff] at hci hai
        obtain ⟨p, hp, rfl⟩ := hci
        obtain ⟨q, hq, rfl⟩ := hai
        have h1 := Array.getElem?_eq_some_iff.1 hp
        have h2 := List.getElem?_eq_some_iff.1 hq
        obtain ⟨_, h1⟩ := h1
        obtain ⟨_, h2⟩ := h2
        simp at h1 h2
        subst h1; subst h2
        exact ofCell_rep _
      obtain ⟨r1, r2, r3⟩ := aparts_fill (n := 0) (cells := ZA) hk hes (by simp [ZA, hpl])
      simp only [Nat.zero_mul, List.take_zero, List.nil_append] at r3
      obtain ⟨res, q1, q2, q3⟩ := fill_sound (w := w) (ρ := ρ) (H := H) (ok := ok) (place := fun i => some (i * k, k)) (vs := vs.toList) (cur := Z) (by simpa using hl) (fun i p q hp hq => hr i p q hp (by simpa using hq)) hZ hZr r3
      have hres : res.size = len * k := by rw [q2, flatten_len r2, r1, hpl]
      have hcellish : ∀ a ∈ es.flatten, a.cellish = true := afill_cellish (fun a ha => by
        simp only [ZA, List.mem_map] at ha
        obtain ⟨p, hp, rfl⟩ := ha
        have hpl : p % z.cells.size < z.cells.size := Nat.mod_lt _ (by omega)
        have h1 : (z.cells[p % z.cells.size]!).oneCell' = true := hz1c _ (by
          rw [getElem!_pos z.cells _ hpl]; exact Array.getElem_mem_toList hpl)
        unfold ofCell
        split
        · rfl
        · simpa [AV.cellish] using h1) r3
      obtain ⟨g', x'⟩ := g.alloc (.cells res e) (ok' := fun b => ok b ∨ b = w.heap.size) (fun _ h => .inl h) (fun _ h => h)
      refine ⟨.slice (some ⟨w.heap.size, 0, none⟩) len len, w.alloc (.cells res e), fun b => ok b ∨ b = w.heap.size, ?_, g', x', ?_⟩
      · have hne : ¬ len * k = 0 ∨ len = 0 := by
          rcases Nat.eq_zero_or_pos len with h | h
          · exact .inr h
          · exact .inl (Nat.mul_ne_zero (by omega) (by omega))
        simp only [Instr.buildSlice, Sem.run_bind, run_underlying ht, Result.andThen_ok, run_sizeOf' hkn, hk']
        rw [Sem.run_ite, if_neg (by omega)]
        rcases hne with hne | rfl
        · rw [Sem.run_ite, if_neg hne]
          simp only [Sem.run_bind, run_zeroValue' hi hz1, Result.andThen_ok, Sem.run_pure]
          rw [show Instr.fill (fun i => some (i * k, k)) ((Array.range (len * k)).map (z.cells[· % z.cells.size]!)) vs.toList = some res from q1]
          simp [newRow]
        · have hv0 : vs.toList = [] := List.eq_nil_of_length_eq_zero (by simp [hl, hpl])
          have hr0 : res = #[] := Array.eq_empty_of_size_eq_zero (by simpa using hres)
          rw [Sem.run_ite, if_pos (by simp)]
          simp only [Sem.run_bind, Sem.run_pure, Result.andThen_ok, hv0]
          subst hr0
          have h0 : Array.map (fun _ => (default : Value)) (Array.range 0) = #[] := Array.eq_empty_of_size_eq_zero (by simp)
          simp [Instr.fill, newRow, h0]
      · refine .list (fun i j => (res[i * k + j]?).getD undef) (by omega) (Nat.le_refl _) (.inr rfl) r2 (fun i e' j a hi' hj => ?_) (fun i e' j a hi' hj => ?_) (fun i e' j a hi' hj => ?_)
        all_goals
          have hfl := flatten_get r2 hi' hj
          have hlt : i * k + j < res.size := by rw [q2]; exact (List.getElem?_eq_some_iff.1 hfl).1
          have hv := Array.getElem?_eq_getElem hlt
        · rw [add_mk, cell_of_row _ w.heap.size _ res e (0, 0) (heap_alloc_new w _), Nat.zero_add, hv]
          rfl
        · rw [hv]
          exact rep_cellish (q3 _ _ _ hv hfl) (hcellish a (List.mem_of_getElem? hfl))
        · rw [hv]
          exact (q3 _ _ _ hv hfl).ext x'
    · cases h
  · cases h

end
end Go.PA
