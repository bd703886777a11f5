/- PA, part 15: a function's contract; a call by its contract. -/
import Derived.Test.YtellcfkpfccgaaaPa14
namespace Go.PA
open Go.RowKit

/-- Immutable through and through. -/
inductive Imm : AV → Prop
  | sc {v} : Imm (.sc v)
  | nil : Imm .nil
  | agg {cs : List AV} (h : ∀ a, a ∈ cs → Imm a) : Imm (.agg cs)
  | tup {cs : List AV} (h : ∀ a, a ∈ cs → Imm a) : Imm (.tup cs)
  | list {k : Nat} {es : List (List AV)} (h : ∀ e, e ∈ es → ∀ a, a ∈ e → Imm a) : Imm (.list k es)
  | iref {cs : List AV} (h : ∀ a, a ∈ cs → Imm a) : Imm (.iref cs)
  | fn {f : FuncId} {cs : List AV} (h : ∀ a, a ∈ cs → Imm a) : Imm (.fn f cs)
  | imap {es : List (Value × Value)} : Imm (.imap es)

theorem imm_sc {v : Value} : Imm (.sc v) ↔ True := ⟨fun _ => trivial, fun _ => .sc⟩
theorem imm_nil : Imm .nil ↔ True := ⟨fun _ => trivial, fun _ => .nil⟩
theorem imm_agg {cs : List AV} : Imm (.agg cs) ↔ ∀ a, a ∈ cs → Imm a := ⟨fun h => by cases h; assumption, .agg⟩
theorem imm_tup {cs : List AV} : Imm (.tup cs) ↔ ∀ a, a ∈ cs → Imm a := ⟨fun h => by cases h; assumption, .tup⟩
theorem imm_list {k : Nat} {es : List (List AV)} : Imm (.list k es) ↔ ∀ e, e ∈ es → ∀ a, a ∈ e → Imm a := ⟨fun h => by cases h; assumption, .list⟩
theorem imm_iref {cs : List AV} : Imm (.iref cs) ↔ ∀ a, a ∈ cs → Imm a := ⟨fun h => by cases h; assumption, .iref⟩
theorem imm_imap {es : List (Value × Value)} : Imm (.imap es) ↔ True := ⟨fun _ => trivial, fun _ => .imap⟩
theorem imm_fn {f : FuncId} {cs : List AV} : Imm (.fn f cs) ↔ ∀ a, a ∈ cs → Imm a := ⟨fun h => by cases h; assumption, .fn⟩

theorem Imm.noRef {a : AV} (h : Imm a) (m : Nat) : NoRef m a := by
  induction h with
  | sc => exact .sc
  | nil => exact .nil
  | agg _ ih => exact .agg ih
  | tup _ ih => exact .tup ih
  | list _ ih => exact .list ih
  | iref _ ih => exact .iref ih
  | fn _ ih => exact .fn ih
  | imap => exact .imap

/-- What a value stands for where nobody owns anything. -/
abbrev RepI (w : World) (ok : Nat → Prop) (v : Value) (a : AV) : Prop := Rep w (fun _ => none) [] ok v a

section
variable {w : World} {ρ : Places} {H : Heap} {ok : Nat → Prop}

theorem Rep.imm {v : Value} {a : AV} (r : Rep w ρ H ok v a) {ρ' : Places} {H' : Heap} {ok' : Nat → Prop} (hok : ∀ b, ok b → ok' b) (h : Imm a) : Rep w ρ' H' ok' v a := by
  induction r with
  | junk => cases h
  | sc => exact .sc
  | agg hn _ ih => cases h with | agg h => exact .agg hn fun i c a hc ha => ih i c a hc ha (h a (List.mem_of_getElem? ha))
  | tup hn _ ih => cases h with | tup h => exact .tup hn fun i c a hc ha => ih i c a hc ha (h a (List.mem_of_getElem? ha))
  | nil => exact .nil
  | listNil => exact .listNil
  | list f hn hnc hok1 hk hc h1 _ ih => cases h with | list h => exact .list f hn hnc (hok _ hok1) hk hc h1 fun i e j a he hj => ih i e j a he hj (h e (List.mem_of_getElem? he) a (List.mem_of_getElem? hj))
  | ref ho hρ _ => cases h
  | refDead hd h1 => cases h
  | sref ho hρ hn hc hnc _ => cases h
  | mref ho hρ => cases h
  | mrefDead hd h1 => cases h
  | miter ho hρ => cases h
  | miterDead hd h1 => cases h
  | srefNil ho hρ => cases h
  | srefDead hd h1 => cases h
  | iref f hok1 hc h1 _ ih => cases h with | iref h => exact .iref f (hok _ hok1) hc h1 fun j a hj => ih j a hj (h a (List.mem_of_getElem? hj))
  | fn hn _ ih => cases h with | fn h => exact .fn hn fun i c a hc ha => ih i c a hc ha (h a (List.mem_of_getElem? ha))
  | imap hok1 hb he hw => exact .imap (hok _ hok1) hb he hw
  | imapNil => exact .imapNil

/-- A map's entries, where they are numbers and the like. -/
def ents1 : List (List AV) → Option (List (Value × Value))
  | [] => some []
  | [.sc k, .sc v] :: r => (ents1 r).map ((k, v) :: ·)
  | _ => none

theorem ents1_map : ∀ {es : List (List AV)} {l : List (Value × Value)}, ents1 es = some l → es = l.map fun e => [.sc e.1, .sc e.2]
  | [], l, h => by simp only [ents1, Option.some.injEq] at h; subst h; rfl
  | e :: es, l, h => by
    unfold ents1 at h
    split at h
    · rename_i heq; cases heq
    · rename_i k v r heq
      simp only [List.cons.injEq] at heq
      obtain ⟨rfl, rfl⟩ := heq
      rw [Option.map_eq_some_iff] at h
      obtain ⟨l', h1, rfl⟩ := h
      rw [ents1_map h1]
      rfl
    · cases h

/-- How a variable that a function holds is seen by others. -/
def viewR (H : Heap) : AV → AV
  | .ref id i j => match addrCells H (.ref id i j) with
    | some as => .iref as
    | none => .junk
  | x => x
def refsR : AV → List Nat
  | .ref id _ _ => [id]
  | _ => []

/-- How a slice of an object, or a map, is seen by others. -/
def view1 (H : Heap) : AV → AV
  | .sref id lo n => match H[id]? with
    | some (some o) => .list o.k ((o.es.drop lo).take n)
    | _ => .junk
  | .mref id => match H[id]? with
    | some (some o) => match ents1 o.es with
      | some es => .imap es
      | none => .junk
    | _ => .junk
  | .fn f cs => .fn f (cs.map (viewR H))
  | x => x
def view2 (H : Heap) : AV → AV
  | .agg cs => .agg (cs.map (view1 H))
  | .list k es => .list k (es.map (·.map (view1 H)))
  | x => view1 H x
def view (H : Heap) : AV → AV
  | .tup cs => .tup (cs.map (view2 H))
  | x => view2 H x

/-- 'nil' is an empty list. -/
inductive Weak : AV → AV → Prop
  | refl (a : AV) : Weak a a
  | nil (k : Nat) : Weak .nil (.list k [])
  | empty (k k' : Nat) : Weak (.list k []) (.list k' [])
  | agg {as bs : List AV} (hl : as.length = bs.length) (h : ∀ (i : Nat) (a b : AV), as[i]? = some a → bs[i]? = some b → Weak a b) : Weak (.agg as) (.agg bs)
  | tup {as bs : List AV} (hl : as.length = bs.length) (h : ∀ (i : Nat) (a b : AV), as[i]? = some a → bs[i]? = some b → Weak a b) : Weak (.tup as) (.tup bs)

theorem Rep.weak {v : Value} {a b : AV} (h : Weak a b) (r : Rep w ρ H ok v a) : Rep w ρ H ok v b := by
  induction h generalizing v with
  | refl => exact r
  | nil k => cases r; exact .listNil
  | empty k k' =>
    cases r with
    | listNil => exact .listNil
    | list f hn _ _ _ _ _ _ => subst hn; exact .listNil
  | agg hl _ ih =>
    cases r with
    | agg hn hr =>
      refine .agg (hn.trans hl) (fun i c b hc hb => ?_)
      have hlt := (List.getElem?_eq_some_iff.1 hb).1
      have ha := List.getElem?_eq_getElem (show i < _ from hl ▸ hlt)
      exact ih i _ b ha hb (hr i c _ hc ha)
  | tup hl _ ih =>
    cases r with
    | tup hn hr =>
      refine .tup (hn.trans hl) (fun i c b hc hb => ?_)
      have hlt := (List.getElem?_eq_some_iff.1 hb).1
      have ha := List.getElem?_eq_getElem (show i < _ from hl ▸ hlt)
      exact ih i _ b ha hb (hr i c _ hc ha)

variable {E : Env}

def srefs1 : AV → List Nat
  | .sref id _ _ => [id]
  | .mref id => [id]
  | .fn _ cs => cs.flatMap refsR
  | _ => []
def srefs2 : AV → List Nat
  | .agg cs => cs.flatMap srefs1
  | .list _ es => es.flatMap fun e => e.flatMap srefs1
  | x => srefs1 x
def srefs : AV → List Nat
  | .tup cs => cs.flatMap srefs2
  | x => srefs2 x

def okX (X : Nat → Prop) (ρ : Places) (H : Heap) (ok : Nat → Prop) : Nat → Prop := fun b => ok b ∨ ∃ id o c, X id ∧ H[id]? = some (some o) ∧ ρ id = some (b, c)
def okI (ρ : Places) (H : Heap) (ok : Nat → Prop) : Nat → Prop := fun b => ok b ∨ ∃ id o c, H[id]? = some (some o) ∧ ρ id = some (b, c)

theorem view1_soundX (X : Nat → Prop) (g : Good E w ρ H ok) {v : Value} {a : AV} (r : Rep w ρ H ok v a) (h : Imm (view1 H a)) (hX : ∀ id, id ∈ srefs1 a → X id) : RepI w (okX X ρ H ok) v (view1 H a) := by
  have plain : ∀ {a : AV}, Rep w ρ H ok v a → Imm a → RepI w (okX X ρ H ok) v a := fun r h => r.imm (fun _ h => .inl h) h
  cases a
  case sref id lo n =>
    simp only [view1] at h ⊢
    split
    · rename_i o ho
      simp only [ho] at h
      have hh : ∀ e, e ∈ (o.es.drop lo).take n → ∀ a, a ∈ e → Imm a := imm_list.1 h
      cases r with
      | srefDead hd _ => rw [ho] at hd; cases hd
      | srefNil ho' hρ => simp only [List.take_zero]; exact .listNil
      | @sref _ _ _ c o' b cap ho' hρ hn hc hnc hcap =>
        rw [ho] at ho'
        simp only [Option.some.injEq] at ho'
        subst ho'
        have hobj := g.obj id o ho
        rw [hρ] at hobj
        obtain ⟨cur, h1, h2, h3, h4, h5⟩ := hobj.cells hcap
        have hget : ∀ (i : Nat) (e : List AV), ((o.es.drop lo).take n)[i]? = some e → o.es[lo + i]? = some e := fun i e he => by
          rw [List.getElem?_take] at he
          split at he
          · rwa [List.getElem?_drop] at he
          · cases he
        refine .list (fun i j => (cur[(lo + i) * o.k + j]?).getD undef) (by simp; omega) hnc (.inr ⟨id, o, cap, hX id (by simp [srefs1]), ho, hρ⟩) (fun e he => g.len id o ho e (List.mem_of_mem_drop (List.mem_of_mem_take he))) (fun i e j a he hj => ?_) (fun i e j a he hj => ?_) (fun i e j a he hj => ?_)
        all_goals obtain ⟨c', c1, c2, c3⟩ := h5 _ _ _ _ (hget i e he) hj
        · rw [add_mk, cell_of_row w b _ cur o.ty (0, 0) h1, show lo * o.k + (i * o.k + j) = (lo + i) * o.k + j from by rw [Nat.add_mul, Nat.add_assoc], c1]
          rfl
        · rw [c1]; exact c2
        · rw [c1]
          exact c3.imm (fun _ h => .inl h) (hh e (List.mem_of_getElem? he) a (List.mem_of_getElem? hj))
    · rename_i hne
      exfalso
      cases hx : H[id]? with
      | none => rw [hx] at h; cases h
      | some y => cases y with
        | none => rw [hx] at h; cases h
        | some o => exact hne o hx
  case fn f cs =>
    simp only [view1] at h ⊢
    have hh := imm_fn.1 h
    cases r with
    | fn hn hr =>
      refine .fn (by simpa using hn) (fun i c a hc ha => ?_)
      rw [List.getElem?_map, Option.map_eq_some_iff] at ha
      obtain ⟨a', ha', rfl⟩ := ha
      have him := hh _ (List.mem_map_of_mem (List.mem_of_getElem? ha'))
      have hra := hr i c a' hc ha'
      cases a'
      case ref id i' j' =>
        simp only [viewR] at him ⊢
        split
        · rename_i as has
          simp only [has] at him
          obtain ⟨o, b, cap, ho, hρ, hcap, rfl⟩ := rep_live_ref hra has
          obtain ⟨ad, he, f', hf⟩ := addr_sound g hra has
          simp only [Value.pointer.injEq, Option.some.injEq] at he
          subst he
          refine .iref f' (.inr ⟨id, o, cap, hX id (List.mem_flatMap.2 ⟨_, List.mem_of_getElem? ha', by simp [refsR]⟩), ho, hρ⟩) (fun j a hj => (hf j a hj).1) (fun j a hj => (hf j a hj).2.1) (fun j a hj => ?_)
          exact (hf j a hj).2.2.imm (fun _ h => .inl h) (imm_iref.1 him a (List.mem_of_getElem? hj))
        · rename_i hne
          simp only [hne] at him
          cases him
      all_goals exact hra.imm (fun _ h => .inl h) him
  case mref id =>
    simp only [view1] at h ⊢
    split
    · rename_i o ho
      simp only [ho] at h
      split
      · rename_i es hes
        have hmap := ents1_map hes
        cases r with
        | mrefDead hd _ => rw [ho] at hd; cases hd
        | @mref _ b o' ho' hρ =>
          rw [ho] at ho'
          simp only [Option.some.injEq] at ho'
          subst ho'
          have hobj := g.obj id o ho
          rw [hρ] at hobj
          obtain ⟨_, ents, clk, h1, h2, h3, h4⟩ := hobj.map
          refine .imap (.inr ⟨id, o, _, hX id (by simp [srefs1]), ho, hρ⟩) h1 ?_ h2
          apply List.ext_getElem?
          intro i
          rw [List.getElem?_map, Array.getElem?_toList]
          cases hi : ents[i]? with
          | none =>
            have : es.length ≤ i := by
              have := Array.getElem?_eq_none_iff.1 hi
              have hl : o.es.length = es.length := by rw [hmap]; simp
              omega
            rw [List.getElem?_eq_none this]
            rfl
          | some x =>
            have hlt : i < es.length := by
              have := (Array.getElem?_eq_some_iff.1 hi).1
              have hl : o.es.length = es.length := by rw [hmap]; simp
              omega
            have he : o.es[i]? = some [.sc es[i].1, .sc es[i].2] := by rw [hmap, List.getElem?_map, List.getElem?_eq_getElem hlt]; rfl
            obtain ⟨a, ha, hr⟩ := h4 i x _ hi he
            simp only [List.cons.injEq, AV.sc.injEq, and_true] at ha
            obtain ⟨ha1, rfl⟩ := ha
            rw [List.getElem?_eq_getElem hlt, Option.map_some, rep_sc hr, ← ha1]
      · rename_i hne
        simp only [hne] at h
        cases h
    · rename_i hne
      exfalso
      cases hx : H[id]? with
      | none => rw [hx] at h; cases h
      | some y => cases y with
        | none => rw [hx] at h; cases h
        | some o => exact hne o hx
  all_goals exact plain r h

theorem view2_soundX (X : Nat → Prop) (g : Good E w ρ H ok) {v : Value} {a : AV} (r : Rep w ρ H ok v a) (h : Imm (view2 H a)) (hX : ∀ id, id ∈ srefs2 a → X id) : RepI w (okX X ρ H ok) v (view2 H a) := by
  cases a
  case agg cs =>
    simp only [view2] at h ⊢
    have hh := imm_agg.1 h
    cases r with
    | agg hn hr =>
        refine .agg (by simpa using hn) (fun i c a hc ha => ?_)
        rw [List.getElem?_map, Option.map_eq_some_iff] at ha
        obtain ⟨a', ha', rfl⟩ := ha
        exact view1_soundX X g (hr i c a' hc ha') (hh _ (List.mem_map_of_mem (List.mem_of_getElem? ha'))) fun id hid => hX id (List.mem_flatMap.2 ⟨a', List.mem_of_getElem? ha', hid⟩)
  case list k es =>
    simp only [view2] at h ⊢
    have hh := imm_list.1 h
    cases r with
    | listNil => exact .listNil
    | list f hn hnc hok hk hc h1 hr =>
      have hget : ∀ (i : Nat) (e : List AV) (j : Nat) (a : AV), (es.map (·.map (view1 H)))[i]? = some e → e[j]? = some a → ∃ e' a', es[i]? = some e' ∧ e'[j]? = some a' ∧ a = view1 H a' := fun i e j a he hj => by
        rw [List.getElem?_map, Option.map_eq_some_iff] at he
        obtain ⟨e', he', rfl⟩ := he
        rw [List.getElem?_map, Option.map_eq_some_iff] at hj
        obtain ⟨a', ha', rfl⟩ := hj
        exact ⟨e', a', he', ha', rfl⟩
      refine .list f (by simpa using hn) hnc (.inl hok) (fun e he => ?_) (fun i e j a he hj => ?_) (fun i e j a he hj => ?_) (fun i e j a he hj => ?_)
      · obtain ⟨e', he', rfl⟩ := List.mem_map.1 he
        simpa using hk e' he'
      · obtain ⟨e', a', h1', h2', rfl⟩ := hget i e j a he hj
        exact hc i e' j a' h1' h2'
      · obtain ⟨e', a', h1', h2', rfl⟩ := hget i e j a he hj
        exact h1 i e' j a' h1' h2'
      · have hm := hh e (List.mem_of_getElem? he) a (List.mem_of_getElem? hj)
        obtain ⟨e', a', h1', h2', rfl⟩ := hget i e j a he hj
        exact view1_soundX X g (hr i e' j a' h1' h2') hm fun id hid => hX id (List.mem_flatMap.2 ⟨e', List.mem_of_getElem? h1', List.mem_flatMap.2 ⟨a', List.mem_of_getElem? h2', hid⟩⟩)
  all_goals exact view1_soundX X g r h hX

theorem view_soundX (X : Nat → Prop) (g : Good E w ρ H ok) {v : Value} {a : AV} (r : Rep w ρ H ok v a) (h : Imm (view H a)) (hX : ∀ id, id ∈ srefs a → X id) : RepI w (okX X ρ H ok) v (view H a) := by
  cases a
  case tup cs =>
    simp only [view] at h ⊢
    have hh := imm_tup.1 h
    cases r with
    | tup hn hr =>
        refine .tup (by simpa using hn) (fun i c a hc ha => ?_)
        rw [List.getElem?_map, Option.map_eq_some_iff] at ha
        obtain ⟨a', ha', rfl⟩ := ha
        exact view2_soundX X g (hr i c a' hc ha') (hh _ (List.mem_map_of_mem (List.mem_of_getElem? ha'))) fun id hid => hX id (List.mem_flatMap.2 ⟨a', List.mem_of_getElem? ha', hid⟩)
  all_goals exact view2_soundX X g r h hX

theorem view_sound (g : Good E w ρ H ok) {v : Value} {a : AV} (r : Rep w ρ H ok v a) (h : Imm (view H a)) : RepI w (okI ρ H ok) v (view H a) :=
  (view_soundX (fun _ => True) g r h fun _ _ => trivial).imm (fun _ hb => hb.imp id fun ⟨id, o, c, _, h1, h2⟩ => ⟨id, o, c, h1, h2⟩) h

end

/-- What a function does to plain arguments: it hands back what Q says, and leaves all that was there as it was (but for the source's block). -/
def PFun (P : Program) (row src : Option Nat) (f : FuncId) (args : List AV) (Q : AV → Prop) : Prop :=
  ∀ (w : World) (ok : Nat → Prop) (vs : Array Value), (∀ b, ok b → b < w.heap.size ∧ some b ≠ row) → Inv row src ok w → vs.size = args.length → (∀ (i : Nat) (v : Value) (a : AV), vs[i]? = some v → args[i]? = some a → RepI w ok v a) →
    Calls P f vs w fun e w' => ∃ (v : Value) (x : AV), e = .returned v ∧ Q x ∧ Imm x ∧ RepI w' (fun b => ok b ∨ (w.heap.size ≤ b ∧ b < w'.heap.size)) v x ∧ w.grownBy w' row ∧ Inv row src ok w'

theorem PFun.mono {P : Program} {row src : Option Nat} {f : FuncId} {args : List AV} {Q Q' : AV → Prop} (h : PFun P row src f args Q) (hq : ∀ x, Q x → Q' x) : PFun P row src f args Q' :=
  fun w ok vs h1 h2 h3 h4 => (h w ok vs h1 h2 h3 h4).mono fun _ _ ⟨v, x, e, hx, rest⟩ => ⟨v, x, e, hq _ hx, rest⟩

def ares1 (P : Program) (s : St) : ResultVar → Option AV
  | .tmp t => some (s.t t)
  | .cell a t => (addrCells s.H (s.t a)).bind (aload P t)
def ares (P : Program) (s : St) : List ResultVar → Option AV
  | [r] => ares1 P s r
  | rs => (rs.mapM (ares1 P s)).map .tup

/-- What is to be shown at a function's end. -/
def ARet (P : Program) (rs : List ResultVar) (Q : AV → Prop) : Exit → St → Prop
  | .normal, s | .ret, s => match ares P s rs with
    | some r => ∃ x, Weak (view s.H r) x ∧ Imm (view s.H r) ∧ Imm x ∧ Q x
    | none => False
  | _, _ => False

section
variable {E : Env} {w : World} {ρ : Places} {H : Heap} {ok : Nat → Prop}

def rdRes (tmps : Array Value) : ResultVar → Sem Value
  | .tmp t => pure (tmps.getD t undef)
  | .cell a t => do loadVar t (← asAddr (tmps.getD a undef))

theorem ares1_sound (g : Good E w ρ H ok) {tmps : Array Value} {t : Nat → AV} (hr : ∀ i, Rep w ρ H ok (tmps.getD i undef) (t i)) {r : ResultVar} {x : AV} (h : ares1 E.P ⟨t, H⟩ r = some x) :
    ∃ v, (rdRes tmps r).run E.P w = .ok v w ∧ Rep w ρ H ok v x := by
  cases r with
  | tmp i => simp only [ares1, Option.some.injEq] at h; subst h; exact ⟨_, rfl, hr i⟩
  | cell a ty =>
    simp only [ares1, Option.bind_eq_some_iff] at h
    obtain ⟨as, has, hl⟩ := h
    obtain ⟨ad, hv, hc⟩ := addr_sound g (hr a) has
    obtain ⟨v, h1, h2⟩ := aload_sound hc hl
    refine ⟨v, ?_, h2⟩
    simp only [rdRes, hv, asAddr, Sem.run_bind, Sem.run_pure, Result.andThen_ok]
    exact h1

theorem mapM_some {α β : Type} {f : α → Option β} : ∀ {l : List α} {ys : List β}, l.mapM f = some ys → ys.length = l.length ∧ ∀ (i : Nat) (a : α), l[i]? = some a → ∃ b, ys[i]? = some b ∧ f a = some b
  | [], ys, h => by simp at h; subst h; simp
  | a :: l, ys, h => by
    simp only [List.mapM_cons, Option.pure_def, Option.bind_eq_bind, Option.bind_eq_some_iff, Option.some.injEq] at h
    obtain ⟨b, hb, bs, hbs, rfl⟩ := h
    obtain ⟨h1, h2⟩ := mapM_some hbs
    refine ⟨by simp [h1], fun i a' hi => ?_⟩
    match i, hi with
    | 0, hi => simp at hi; subst hi; exact ⟨b, rfl, hb⟩
    | i + 1, hi => exact h2 i a' (by simpa using hi)

theorem ares_sound (g : Good E w ρ H ok) {tmps : Array Value} {t : Nat → AV} (hr : ∀ i, Rep w ρ H ok (tmps.getD i undef) (t i)) {fn : Func} {x : AV} (h : ares E.P ⟨t, H⟩ fn.results.toList = some x) :
    ∃ v, (results fn tmps).run E.P w = .ok v w ∧ Rep w ρ H ok v x := by
  have run_all : ∀ (l : List ResultVar) (ys : List AV), l.mapM (ares1 E.P ⟨t, H⟩) = some ys →
      ∃ vs : List Value, (l.mapM (rdRes tmps)).run E.P w = .ok vs w ∧ vs.length = ys.length ∧ ∀ (i : Nat) (v : Value) (a : AV), vs[i]? = some v → ys[i]? = some a → Rep w ρ H ok v a := by
    intro l
    induction l with
    | nil => intro ys h; simp at h; subst h; exact ⟨[], rfl, rfl, by simp⟩
    | cons r l ih =>
      intro ys h
      simp only [List.mapM_cons, Option.pure_def, Option.bind_eq_bind, Option.bind_eq_some_iff, Option.some.injEq] at h
      obtain ⟨b, hb, bs, hbs, rfl⟩ := h
      obtain ⟨v, h1, h2⟩ := ares1_sound g hr hb
      obtain ⟨vs, h3, h4, h5⟩ := ih bs hbs
      refine ⟨v :: vs, ?_, by simp [h4], fun i v' a hi ha => ?_⟩
      · simp only [List.mapM_cons, Sem.run_bind, h1, Result.andThen_ok, h3, Sem.run_pure]
      · match i, hi, ha with
        | 0, hi, ha => simp at hi ha; subst hi; subst ha; exact h2
        | i + 1, hi, ha => exact h5 i v' a (by simpa using hi) (by simpa using ha)
  have hrun : ∀ vs : List Value, ((fn.results.toList.mapM (rdRes tmps)).run E.P w = .ok vs w) →
      (results fn tmps).run E.P w = .ok (if h : vs.toArray.size = 1 then vs.toArray[0] else .tuple vs.toArray) w := fun vs hvs => by
    unfold results
    rw [Array.mapM_eq_mapM_toList]
    simp only [Functor.map, Sem.run_bind]
    show ((Sem.run E.P (Bind.bind _ _) w).andThen _) = _
    simp only [Sem.run_bind]
    have key : ∀ (F : ResultVar → Sem Value), (∀ x, F x = rdRes tmps x) → Sem.run E.P (List.mapM F fn.results.toList) w = .ok vs w := fun F hF => by
      have : F = rdRes tmps := funext hF
      subst this
      exact hvs
    rw [key _ (fun x => by cases x <;> rfl)]
    rfl
  unfold ares at h
  split at h
  · rename_i r hl
    obtain ⟨vs, h1, h2, h3⟩ := run_all [r] [x] (by simp [h])
    rw [← hl] at h1
    match vs, h2 with
    | [v], _ =>
      refine ⟨v, by rw [hrun _ h1]; rfl, h3 0 v x rfl rfl⟩
  · rename_i hne
    rw [Option.map_eq_some_iff] at h
    obtain ⟨ys, hys, rfl⟩ := h
    obtain ⟨vs, h1, h2, h3⟩ := run_all _ ys hys
    have hlen : ys.length = fn.results.toList.length := (mapM_some hys).1
    have h1' : ¬ vs.toArray.size = 1 := by
      intro e
      have e' : fn.results.toList.length = 1 := by rw [← hlen, ← h2]; simpa using e
      obtain ⟨r, hr'⟩ := List.length_eq_one_iff.1 e'
      exact hne r hr'
    refine ⟨.tuple vs.toArray, by rw [hrun _ h1, dif_neg h1'], .tup (by simpa using h2) (fun i v a hi ha => h3 i v a (by simpa using hi) ha)⟩

end

def initT (args : List AV) : Nat → AV := fun i => args.getD i (.sc undef)

/-- A function's contract, out of a walk of its body. -/
theorem pfun_of_AWp {P : Program} {row src : Option Nat} {f : FuncId} {args : List AV} {Q : AV → Prop} {fn : Func} {body : Code}
    (hf : P.funcs[f]? = some fn) (hb : fn.body = some body) (hn : args.length ≤ fn.ntmps)
    (h : ∀ E : Env, E.P = P → E.row = row → E.src = src → (∀ b, ¬ E.W b) → E.N = fn.ntmps → AWp E body ⟨initT args, []⟩ (ARet P fn.results.toList Q)) : PFun P row src f args Q := by
  intro w ok vs h1 h2 h3 h4
  let E : Env := { P := P, w0 := w, okA := ok, row := row, src := src, N := fn.ntmps, W := fun _ => False, ρ0 := fun _ => none, H0 := [] }
  have g : Good E w (fun _ => none) [] ok := ⟨rfl, rfl, rfl, Nat.le_refl _, fun _ _ _ _ => rfl, h2, fun b hb => ⟨(h1 b hb).1, (h1 b hb).2, .inl hb⟩, by simp, by simp, by simp, by simp⟩
  have r : Rel E ⟨initT args, []⟩ { tmps := vs ++ Array.replicate (fn.ntmps - vs.size) undef, defers := [] } w := by
    refine ⟨fun _ => none, ok, g, Ext.refl _ _ _ _, rfl, by simp [E]; omega, fun i => ?_⟩
    simp only [initT]
    rcases Nat.lt_or_ge i args.length with hlt | hge
    · have e1 : args.getD i (.sc undef) = args[i] := by simp [List.getD, List.getElem?_eq_getElem hlt]
      have hv : vs[i]? = some (vs[i]'(by omega)) := Array.getElem?_eq_getElem (by omega)
      have e2 : (vs ++ Array.replicate (fn.ntmps - vs.size) undef).getD i undef = vs[i]'(by omega) := by
        rw [Array.getD_eq_getD_getElem?, Array.getElem?_append_left (by omega), hv]
        rfl
      rw [e1, e2]
      exact h4 i _ _ hv (List.getElem?_eq_getElem hlt)
    · have e1 : args.getD i (.sc undef) = .sc undef := by simp [List.getD, List.getElem?_eq_none hge]
      have e2 : (vs ++ Array.replicate (fn.ntmps - vs.size) undef).getD i undef = undef := by
        rw [Array.getD_eq_getD_getElem?, Array.getElem?_append_right (by omega), Array.getElem?_replicate]
        split <;> rfl
      rw [e1, e2]
      exact .sc
  have hw := h E rfl rfl rfl (fun _ h => h) rfl _ _ r
  refine calls_of_wp hf hb (wp_mono hw fun e a' w' h' => ?_)
  obtain ⟨s', hq, ρ, ok', g', _, hd, _, hr⟩ := h'
  have fin : ∀ {r : AV}, ares P s' fn.results.toList = some r → (∃ x, Weak (view s'.H r) x ∧ Imm (view s'.H r) ∧ Imm x ∧ Q x) → a'.defers = [] ∧ ∃ v, (results fn a'.tmps).run P w' = .ok v w' ∧
      ∃ (v' : Value) (x : AV), Ending.returned v = .returned v' ∧ Q x ∧ Imm x ∧ RepI w' (fun b => ok b ∨ (w.heap.size ≤ b ∧ b < w'.heap.size)) v' x ∧ w.grownBy w' row ∧ Inv row src ok w' := by
    rintro r hres ⟨x, hwk, hi, hix, hx⟩
    obtain ⟨v, hrun, hrep⟩ := ares_sound (E := E) g' hr hres
    refine ⟨hd, v, hrun, v, x, rfl, hx, hix, ?_, ⟨g'.os, g'.tape, g'.output, g'.size, fun k hk hne => g'.blk k hk (fun h => h) hne⟩, ?_⟩
    · refine Rep.weak hwk ((view_sound g' hrep hi).imm (fun b hb => ?_) hi)
      rcases hb with hb | ⟨_, _, _, ho, hρ⟩
      · obtain ⟨b1, _, b3⟩ := g'.oks b hb
        exact b3.imp id fun h => ⟨h, b1⟩
      · have hobj := g'.obj _ _ ho
        rw [hρ] at hobj
        obtain ⟨_, _, b3⟩ := g'.own _ _ b _ ho hρ
        exact .inr ⟨b3.resolve_left (fun h => h), hobj.lt⟩
    · refine ⟨h2.1, fun p hp => ?_⟩
      exact g'.inv.2 p hp
  cases e with
  | normal =>
    simp only [ARet] at hq
    split at hq
    · rename_i r hres; exact fin hres hq
    · exact hq.elim
  | ret =>
    simp only [ARet] at hq
    split at hq
    · rename_i r hres; exact fin hres hq
    · exact hq.elim
  | _ => exact hq.elim

theorem pfun_intro {P : Program} {row src : Option Nat} {f : FuncId} {args : List AV} {Q : AV → Prop} {fn : Func} {body : Code}
    (hf : P.funcs[f]? = some fn) (hb : fn.body = some body) (hn : args.length ≤ fn.ntmps) (hc : codeOk fn.ntmps body = true)
    (h : ∀ E : Env, E.P = P → E.row = row → E.src = src → (∀ b, ¬ E.W b) → E.N = fn.ntmps → awp E body ⟨initT args, []⟩ (ARet P fn.results.toList Q)) : PFun P row src f args Q :=
  pfun_of_AWp hf hb hn fun E h1 h2 h3 h4 h5 => awp_sound body _ _ (h5 ▸ hc) (h E h1 h2 h3 h4 h5)

end Go.PA
