/- PA, part 6: what the operations that make or write memory come to. -/
import Derived.Test.YtellcfkpfccgaaaPa5
namespace Go.PA
open Go.RowKit

theorem splice_get {α : Type} (l vs : List α) (p q : Nat) (hp : p + vs.length ≤ l.length) :
    (l.take p ++ vs ++ l.drop (p + vs.length))[q]? = if q < p then l[q]? else if q < p + vs.length then vs[q - p]? else l[q]? := by
  have h1 : (l.take p).length = p := by simp; omega
  split
  · rw [List.append_assoc, List.getElem?_append_left (by omega), List.getElem?_take, if_pos (by assumption)]
  · split
    · rw [List.append_assoc, List.getElem?_append_right (by omega), List.getElem?_append_left (by omega), h1]
    · rw [List.getElem?_append_right (by simp; omega), List.getElem?_drop]
      congr 1
      simp
      omega

section
variable {E : Env} {w : World} {ρ : Places} {H : Heap} {ok : Nat → Prop}

theorem cells_one {v : Value} (h : v.oneCell' = true) : v.cells = #[v] := by
  cases v <;> first | rfl | (simp [Value.oneCell'] at h)

theorem rep_cellish {v : Value} {x : AV} (r : Rep w ρ H ok v x) (h : x.cellish = true) : v.oneCell' = true := by
  cases r <;> first | rfl | assumption | (simp [AV.cellish] at h; done) | (simpa [AV.cellish] using h)

theorem cells_sound {v : Value} {x : AV} {xs : List AV} (r : Rep w ρ H ok v x) (h : x.cells? = some xs) :
    v.cells.size = xs.length ∧ ∀ (i : Nat) (c : Value) (a : AV), v.cells[i]? = some c → xs[i]? = some a → c.oneCell' = true ∧ Rep w ρ H ok c a := by
  have single : x.cellish = true → xs = [x] → v.cells.size = xs.length ∧ ∀ (i : Nat) (c : Value) (a : AV), v.cells[i]? = some c → xs[i]? = some a → c.oneCell' = true ∧ Rep w ρ H ok c a := by
    intro hc hxs
    subst hxs
    have h1 := rep_cellish r hc
    rw [cells_one h1]
    refine ⟨rfl, fun i c a hi ha => ?_⟩
    match i, hi, ha with
    | 0, hi, ha =>
      simp at hi ha
      subst hi; subst ha
      exact ⟨h1, r⟩
  unfold AV.cells? at h
  split at h
  · split at h
    · rename_i hall
      simp only [Option.some.injEq] at h
      subst h
      cases r with
      | agg hn hc => exact ⟨hn, fun i c a hi ha => ⟨rep_cellish (hc i c a hi ha) (List.all_eq_true.1 hall a (List.mem_of_getElem? ha)), hc i c a hi ha⟩⟩
    · cases h
  · cases h
  · cases h
  · split at h
    · rename_i hc
      simp only [Option.some.injEq] at h
      exact single hc h.symm
    · cases h

def astore (P : Program) (t : TypeId) (H : Heap) (a x : AV) : Option Heap :=
  match a, x.cells? with
  | .ref id i j, some xs => match H[id]? with
    | some (some o) => match o.es[i]? with
      | some e => if knownT P t ∧ xs.length = szOf P t ∧ j + xs.length ≤ e.length then some (H.set id (some { o with es := o.es.set i (e.take j ++ xs ++ e.drop (j + xs.length)) })) else none
      | none => none
    | _ => none
  | _, _ => none

theorem setRow_block {w : World} {b : Nat} {cur new : Array Value} {t : TypeId} (hb : w.heap[b]? = some (.cells cur t (0, 0))) : (w.setRow b new).heap[b]? = some (.cells new t (0, 0)) := setRow_heap w b cur new t (0, 0) hb
theorem setRow_other {w : World} {b b' : Nat} {new : Array Value} (h : b' ≠ b) : (w.setRow b new).heap[b']? = w.heap[b']? := by
  simp only [World.setRow, Array.getElem?_modify]
  rw [if_neg (by omega)]
theorem setRow_size {w : World} {b : Nat} {new : Array Value} : (w.setRow b new).heap.size = w.heap.size := by simp [World.setRow]

theorem get_set {H : Heap} {i id : Nat} {o o' : AObj} (hi : i < H.length) (h : (H.set i (some o))[id]? = some (some o')) : (id = i ∧ o' = o) ∨ (id ≠ i ∧ H[id]? = some (some o')) := by
  rw [List.getElem?_set] at h
  split at h
  · rename_i he
    simp only [Option.some.injEq] at h
    first | exact .inl ⟨he.symm, h.symm⟩ | (rw [if_pos (by omega)] at h; simp only [Option.some.injEq] at h; exact .inl ⟨he.symm, h.symm⟩) | exact .inl ⟨he, h.symm⟩
  · rename_i hne; exact .inr ⟨fun e => hne e.symm, h⟩

theorem store_sound (g : Good E w ρ H ok) {t : TypeId} {va vx : Value} {a x : AV} {H' : Heap} (ra : Rep w ρ H ok va a) (rx : Rep w ρ H ok vx x) (h : astore E.P t H a x = some H') :
    ∃ w', (Instr.storeAt t va vx).run E.P w = .ok () w' ∧ Good E w' ρ H' ok ∧ Ext w ρ H ok w' ρ H' ok := by
  unfold astore at h
  split at h
  · rename_i id i j xs hxs
    split at h
    · rename_i o ho
      split at h
      · rename_i e he
        split at h
        · rename_i hc
          obtain ⟨hk, hsz, hle⟩ := hc
          simp only [Option.some.injEq] at h
          subst h
          cases ra with
          | refDead hd _ => rw [ho] at hd; cases hd
          | @ref _ _ _ o' b cap ho' hρ hcap =>
          rw [ho] at ho'
          simp only [Option.some.injEq] at ho'
          subst ho'
          have hobj := g.obj id o ho
          rw [hρ] at hobj
          obtain ⟨cur, hb, hs, hl, hm, hcell⟩ := hobj.cells hcap
          obtain ⟨hvs, hvr⟩ := cells_sound rx hxs
          have hek : e.length = o.k := g.len id o ho e (List.mem_of_getElem? he)
          have hil : i < o.es.length := (List.getElem?_eq_some_iff.1 he).1
          have hbound : i * o.k + o.k ≤ cur.size := by
            rw [hs, ← Nat.succ_mul]
            exact Nat.mul_le_mul_right _ (by omega)
          have hvl : vx.cells.toList.length = xs.length := by simpa using hvs
          have h1c : ∀ v ∈ vx.cells.toList, v.oneCell' = true := fun v hv => by
            obtain ⟨q, hq⟩ := List.getElem?_of_mem hv
            have hlt : q < xs.length := by have := (List.getElem?_eq_some_iff.1 hq).1; omega
            exact (hvr q v _ (by simpa using hq) (List.getElem?_eq_getElem hlt)).1
          have hst := run_storeCells_at E.P b (i * o.k + j) o.ty vx.cells.toList 0 cur w hb (by rw [hvl]; omega) h1c
          simp only [Nat.add_zero] at hst
          generalize hnew : (cur.toList.take (i * o.k + j) ++ vx.cells.toList ++ cur.toList.drop (i * o.k + j + vx.cells.toList.length)).toArray = new at hst
          have hnewget : ∀ q, new[q]? = if q < i * o.k + j then cur[q]? else if q < i * o.k + j + xs.length then vx.cells[q - (i * o.k + j)]? else cur[q]? := fun q => by
            subst hnew
            have := splice_get cur.toList vx.cells.toList (i * o.k + j) q (by simp [hvl] at *; omega)
            rw [hvl] at this ⊢
            simpa using this
          have hnewsize : new.size = cur.size := by
            subst hnew
            simp only [List.size_toArray, List.length_append, List.length_take, List.length_drop, Array.length_toList] at *
            omega
          have hidl := get_lt ho
          have hx : Ext w ρ H ok (w.setRow b new) ρ (H.set id (some { o with es := o.es.set i (e.take j ++ xs ++ e.drop (j + xs.length)) })) ok := by
            refine ⟨fun id' o' h' => ?_, fun id' h' => ?_, fun _ h => h, fun b' hb' => setRow_other (fun e => (g.own id o b cap ho hρ).1 (e ▸ hb'))⟩
            · right
              by_cases hi : id = id'
              · subst hi
                rw [ho] at h'
                simp only [Option.some.injEq] at h'
                subst h'
                exact ⟨{ o with es := o.es.set i (e.take j ++ xs ++ e.drop (j + xs.length)) }, by rw [List.getElem?_set, if_pos rfl, if_pos hidl], rfl, rfl, by simp⟩
              · exact ⟨o', by rw [List.getElem?_set, if_neg hi]; exact h', rfl, rfl, Nat.le_refl _⟩
            · by_cases hi : id = id'
              · subst hi; rw [ho] at h'; cases h'
              · rw [List.getElem?_set, if_neg hi]; exact h'
          have hne : ∀ (id' : Nat) (o' : AObj) (b' c' : Nat), id' ≠ id → H[id']? = some (some o') → ρ id' = some (b', c') → b' ≠ b := fun id' o' b' c' hne h' hρ' e => by
            subst e; exact hne (g.inj id' o' b' c' id o cap h' hρ' ho hρ)
          refine ⟨w.setRow b new, ?_, ⟨g.os, g.tape, g.output, ?_, fun b' hb' hW hr => ?_, g.inv.keep (fun p hp => setRow_other (fun e => (g.own id o b cap ho hρ).2.1 (by rw [← e]; exact hp.symm))) (fun _ h => h) hx.blk, fun b' hb' => by rw [setRow_size]; exact g.oks b' hb', fun id' o' b' c' h' hρ' => ?_,
            fun id1 o1 b1 c1 id2 o2 c2 h1 r1 h2 r2 => ?_, fun id' o' h' => ?_, fun id' o' h' => ?_⟩, hx⟩
          · simp only [Instr.storeAt, Instr.sureAddr, Sem.run_bind, Sem.run_pure, Result.andThen_ok, storeVar, run_sizeOf' hk]
            rw [Sem.run_ite, if_neg (by omega)]
            exact hst
          · rw [setRow_size]; exact g.size
          · rw [setRow_other (fun e => ?_)]
            · exact g.blk b' hb' hW hr
            · rcases (g.own id o b cap ho hρ).2.2 with h | h
              · exact hW (e ▸ h)
              · omega
          · rcases get_set hidl h' with ⟨rfl, rfl⟩ | ⟨hne', h'⟩
            · exact g.own _ o b' c' ho hρ'
            · exact g.own _ _ _ _ h' hρ'
          · rcases get_set hidl h1 with ⟨rfl, rfl⟩ | ⟨hne1, h1'⟩ <;> rcases get_set hidl h2 with ⟨rfl, rfl⟩ | ⟨hne2, h2'⟩
            · rfl
            · exact g.inj _ _ _ _ _ _ _ ho r1 h2' r2
            · exact g.inj _ _ _ _ _ _ _ h1' r1 ho r2
            · exact g.inj _ _ _ _ _ _ _ h1' r1 h2' r2
          · rcases get_set hidl h' with ⟨rfl, rfl⟩ | ⟨hne', h'⟩
            · intro e' he'
              rcases List.mem_or_eq_of_mem_set he' with hm | rfl
              · exact g.len _ o ho e' hm
              · simp; omega
            · exact g.len _ _ h'
          · rcases get_set hidl h' with ⟨rfl, rfl⟩ | ⟨hne', h'⟩
            · rw [hρ]
              refine .inl ⟨new, setRow_block hb, hnewsize.trans hs, by simpa using hl, hm, fun i' e' j' a' hi' hj' => ?_⟩
              simp only at hi' ⊢
              rw [List.getElem?_set] at hi'
              split at hi'
              · rename_i hii
                subst hii
                simp only [Option.some.injEq] at hi'
                subst hi'
                rw [splice_get e xs j j' hle] at hj'
                rw [hnewget]
                split at hj'
                · rename_i hlt
                  rw [if_pos (by omega)]
                  obtain ⟨c, c1, c2, c3⟩ := hcell i e j' a' he hj'
                  exact ⟨c, c1, c2, c3.ext hx⟩
                · split at hj'
                  · rename_i hge hlt
                    rw [if_neg (by omega), if_pos (by omega), show i * o.k + j' - (i * o.k + j) = j' - j from by omega]
                    have hq : j' - j < vx.cells.size := by omega
                    have hv := Array.getElem?_eq_getElem hq
                    obtain ⟨r1, r2⟩ := hvr _ _ _ hv hj'
                    exact ⟨_, hv, r1, r2.ext hx⟩
                  · rename_i hge hge2
                    rw [if_neg (by omega), if_neg (by omega)]
                    obtain ⟨c, c1, c2, c3⟩ := hcell i e j' a' he hj'
                    exact ⟨c, c1, c2, c3.ext hx⟩
              · rename_i hii
                have hj'k : j' < o.k := by
                  rw [← g.len _ o ho e' (List.mem_of_getElem? hi')]
                  exact (List.getElem?_eq_some_iff.1 hj').1
                obtain ⟨c, c1, c2, c3⟩ := hcell i' e' j' a' hi' hj'
                refine ⟨c, ?_, c2, c3.ext hx⟩
                rw [hnewget]
                rcases Nat.lt_or_ge i' i with hlt | hge
                · have : i' * o.k + o.k ≤ i * o.k := by rw [← Nat.succ_mul]; exact Nat.mul_le_mul_right _ hlt
                  rw [if_pos (by omega)]
                  exact c1
                · have : i * o.k + o.k ≤ i' * o.k := by rw [← Nat.succ_mul]; exact Nat.mul_le_mul_right _ (by omega)
                  rw [if_neg (by omega), if_neg (by omega)]
                  exact c1
            · exact (g.obj _ _ h').ext hx (fun b' c' hρ' => setRow_other (hne _ _ _ _ hne' h' hρ'))
        · cases h
      · cases h
    · cases h
  · cases h

/-! ### A new block -/

theorem alloc_old (w : World) (o : Obj) {b : Nat} (h : b < w.heap.size) : (w.alloc o).heap[b]? = w.heap[b]? := Below.heap_alloc w o b h

theorem Good.alloc (g : Good E w ρ H ok) (o : Obj) {ok' : Nat → Prop} (hok : ∀ b, ok b → ok' b) (hok' : ∀ b, ok' b → ok b ∨ b = w.heap.size) : Good E (w.alloc o) ρ H ok' ∧ Ext w ρ H ok (w.alloc o) ρ H ok' :=
  g.step (fun _ => False) rfl rfl rfl (by simp) (fun b hb _ => alloc_old w o hb) (fun _ h => h.elim) hok (fun b hb => (hok' b hb).imp id (fun e => by subst e; simp))

/-- A new object in a new block. -/
theorem Good.newObj (g : Good E w ρ H ok) (o : AObj) (cap : Nat) (cur : Array Value) (hs : cur.size = cap * o.k) (hl : o.es.length ≤ cap) (hm : cap ≤ maxLen) (hlen : ∀ (e : List AV), e ∈ o.es → e.length = o.k)
    (hc : ∀ (i : Nat) (e : List AV) (j : Nat) (a : AV), o.es[i]? = some e → e[j]? = some a → ∃ c, cur[i * o.k + j]? = some c ∧ c.oneCell' = true ∧ Rep w ρ H ok c a) :
    Good E (w.alloc (.cells cur o.ty)) (updP ρ H.length (some (w.heap.size, cap))) (H ++ [some o]) ok ∧ Ext w ρ H ok (w.alloc (.cells cur o.ty)) (updP ρ H.length (some (w.heap.size, cap))) (H ++ [some o]) ok := by
  obtain ⟨g1, x1⟩ := g.alloc (.cells cur o.ty) (ok' := ok) (fun _ h => h) (fun _ h => .inl h)
  obtain ⟨g2, x2⟩ := g1.add o (some (w.heap.size, cap)) (.inl ⟨cur, heap_alloc_new w _, hs, hl, hm, fun i e j a hi hj => by
    obtain ⟨c, c1, c2, c3⟩ := hc i e j a hi hj
    exact ⟨c, c1, c2, c3.ext x1⟩⟩) hlen (fun b c hb => by
      simp only [Option.some.injEq, Prod.mk.injEq] at hb
      obtain ⟨rfl, rfl⟩ := hb
      refine ⟨fun h => by have := (g.oks _ h).1; omega, fun id o' c' h hρ => ?_, fun hr => by have := g.row_lt hr.symm; omega, .inr g.size⟩
      have hobj := g.obj id o' h
      rw [hρ] at hobj
      have := hobj.lt
      omega)
  exact ⟨g2, x1.trans x2⟩

def zeros (P : Program) (t : TypeId) : Option (List AV) := (zeroOf P t).bind fun vs => if vs.all (·.oneCell') && vs.length == szOf P t then some (vs.map ofCell) else none

theorem ofCell_rep (v : Value) : Rep w ρ H ok v (ofCell v) := by
  unfold ofCell
  split
  · exact .nil
  · exact .sc

theorem zeros_sound {P : Program} {t : TypeId} {zs : List AV} (h : zeros P t = some zs) :
    ∃ i z, P.info? t = some i ∧ i.zero = some z ∧ z.cells.size = szOf P t ∧ i.size = szOf P t ∧ zs = z.cells.toList.map ofCell ∧ ∀ v ∈ z.cells.toList, v.oneCell' = true := by
  unfold zeros zeroOf at h
  rw [Option.bind_eq_some_iff] at h
  obtain ⟨vs, hvs, h⟩ := h
  rw [Option.map_eq_some_iff] at hvs
  obtain ⟨z, hz, rfl⟩ := hvs
  rw [Option.bind_eq_some_iff] at hz
  obtain ⟨i, hi, hz⟩ := hz
  split at h
  · rename_i hc
    simp only [Bool.and_eq_true, List.all_eq_true, beq_iff_eq] at hc
    simp only [Option.some.injEq] at h
    exact ⟨i, z, hi, hz, by simpa using hc.2, by simp [szOf, hi], h.symm, hc.1⟩
  · cases h

theorem run_zeroValue' {P : Program} {t : TypeId} {i : TypeInfo} {z : Value} (hi : P.info? t = some i) (hz : i.zero = some z) (w : World) : (zeroValue t).run P w = .ok z w := by
  simp [zeroValue, run_typeInfo hi, hz]

theorem alloc_sound (g : Good E w ρ H ok) {t : TypeId} {zs : List AV} (h : zeros E.P t = some zs) :
    ∃ v w' ρ', (Instr.alloc t true (.tuple #[])).run E.P w = .ok v w' ∧ Good E w' ρ' (H ++ [some ⟨t, szOf E.P t, [zs]⟩]) ok ∧ Ext w ρ H ok w' ρ' (H ++ [some ⟨t, szOf E.P t, [zs]⟩]) ok ∧ Rep w' ρ' (H ++ [some ⟨t, szOf E.P t, [zs]⟩]) ok v (.ref H.length 0 0) := by
  obtain ⟨i, z, hi, hz, hsz, _, hzs, h1⟩ := zeros_sound h
  obtain ⟨g', x'⟩ := g.newObj ⟨t, szOf E.P t, [zs]⟩ 1 z.cells (by simpa using hsz) (by simp) (by simp [maxLen]) (by simp [hzs, hsz]) (fun i' e j a hi' hj => by
    match i', hi' with
    | 0, hi' =>
      simp only [List.getElem?_cons_zero, Option.some.injEq] at hi'
      subst hi'
      rw [hzs, List.getElem?_map, Option.map_eq_some_iff] at hj
      obtain ⟨c, hc, rfl⟩ := hj
      refine ⟨c, by simpa using hc, h1 c (List.mem_of_getElem? hc), ofCell_rep c⟩)
  refine ⟨.pointer (some ⟨w.heap.size, 0, none⟩), _, _, ?_, g', x', ?_⟩
  · simp [Instr.alloc, run_zeroValue' hi hz, newVar, newRow]
  · have := Rep.ref (w := w.alloc (.cells z.cells t)) (ρ := updP ρ H.length (some (w.heap.size, 1))) (H := H ++ [some ⟨t, szOf E.P t, [zs]⟩]) (ok := ok) (id := H.length) (i := 0) (j := 0) push_new (b := w.heap.size) (cap := 1) (by simp [updP]) (by simp [maxLen])
    simpa using this

theorem box_sound (g : Good E w ρ H ok) {t : TypeId} {v : Value} {x : AV} {xs : List AV} (r : Rep w ρ H ok v x) (h : x.cells? = some xs) :
    ∃ u w' ρ', (Instr.box t v).run E.P w = .ok u w' ∧ Good E w' ρ' (H ++ [some ⟨t, xs.length, [xs]⟩]) ok ∧ Ext w ρ H ok w' ρ' (H ++ [some ⟨t, xs.length, [xs]⟩]) ok ∧ Rep w' ρ' (H ++ [some ⟨t, xs.length, [xs]⟩]) ok u (.ref H.length 0 0) := by
  obtain ⟨hs, hr⟩ := cells_sound r h
  obtain ⟨g', x'⟩ := g.newObj ⟨t, xs.length, [xs]⟩ 1 v.cells (by simpa using hs) (by simp) (by simp [maxLen]) (by simp) (fun i' e j a hi' hj => by
    match i', hi' with
    | 0, hi' =>
      simp only [List.getElem?_cons_zero, Option.some.injEq] at hi'
      subst hi'
      have hlt : j < v.cells.size := by rw [hs]; exact (List.getElem?_eq_some_iff.1 hj).1
      have hv := Array.getElem?_eq_getElem hlt
      obtain ⟨r1, r2⟩ := hr j _ a hv hj
      exact ⟨_, by simp, r1, r2⟩)
  refine ⟨.pointer (some ⟨w.heap.size, 0, none⟩), _, _, ?_, g', x', ?_⟩
  · simp [Instr.box, newVar, newRow]
  · have := Rep.ref (w := w.alloc (.cells v.cells t)) (ρ := updP ρ H.length (some (w.heap.size, 1))) (H := H ++ [some ⟨t, xs.length, [xs]⟩]) (ok := ok) (id := H.length) (i := 0) (j := 0) push_new (b := w.heap.size) (cap := 1) (by simp [updP]) (by simp [maxLen])
    simpa using this

end
end Go.PA
