/- PA, part 16: a call by its contract, on the caller's side. -/
import Derived.Test.YtellcfkpfccgaaaPa15
namespace Go.PA
open Go.RowKit

section
variable {E : Env} {w w' : World} {ρ : Places} {H : Heap} {ok : Nat → Prop}

/-- The world moves on by a contract's word. -/
theorem Good.call (g : Good E w ρ H ok) {ok' : Nat → Prop} (hg : w.grownBy w' E.row) (hinv : Inv E.row E.src ok w') (hok : ∀ b, ok b → ok' b) (hok' : ∀ b, ok' b → ok b ∨ (w.heap.size ≤ b ∧ b < w'.heap.size)) : Good E w' ρ H ok' ∧ Ext w ρ H ok w' ρ H ok' := by
  have hokb : ∀ b, ok b → w'.heap[b]? = w.heap[b]? := fun b hb => hg.block b (g.oks b hb).1 (g.oks b hb).2.1
  have hx : Ext w ρ H ok w' ρ H ok' := ⟨fun id o h => .inr ⟨o, h, rfl, rfl, Nat.le_refl _⟩, fun _ h => h, hok, hokb⟩
  have hlive : ∀ (id : Nat) (o : AObj) (b c : Nat), H[id]? = some (some o) → ρ id = some (b, c) → w'.heap[b]? = w.heap[b]? := fun id o b c ho hρ => by
    have hobj := g.obj id o ho
    rw [hρ] at hobj
    exact hg.block b hobj.lt (g.own id o b c ho hρ).2.1
  refine ⟨⟨hg.os.trans g.os, hg.tape.trans g.tape, hg.output.trans g.output, Nat.le_trans g.size hg.size, fun b hb hW hr => ?_, ⟨fun b hb => hok b (hinv.1 b hb), hinv.2⟩, fun b hb => ?_, fun id o b c ho hρ => ?_, g.inj, g.len, fun id o ho => ?_⟩, hx⟩
  · rw [hg.block b (Nat.lt_of_lt_of_le hb g.size) hr]
    exact g.blk b hb hW hr
  · rcases hok' b hb with h | ⟨h1, h2⟩
    · obtain ⟨a1, a2, a3⟩ := g.oks b h
      exact ⟨Nat.lt_of_lt_of_le a1 hg.size, a2, a3⟩
    · exact ⟨h2, fun hr => by have := g.row_lt hr.symm; omega, .inr (Nat.le_trans g.size h1)⟩
  · obtain ⟨a1, a2, a3⟩ := g.own id o b c ho hρ
    refine ⟨fun hb => ?_, a2, a3⟩
    rcases hok' b hb with h | ⟨h1, _⟩
    · exact a1 h
    · have hobj := g.obj id o ho
      rw [hρ] at hobj
      have := hobj.lt
      omega
  · exact (g.obj id o ho).ext hx (fun b c hρ => hlive id o b c ho hρ)

def killAll (ids : List Nat) (H : Heap) : Heap := ids.foldl (fun H id => H.set id none) H

theorem killAll_len : ∀ (ids : List Nat) (H : Heap), (killAll ids H).length = H.length
  | [], _ => rfl
  | i :: ids, H => by rw [killAll, List.foldl_cons]; exact (killAll_len ids (H.set i none)).trans (by simp)

theorem Good.freeze : ∀ (ids : List Nat) {H : Heap} {ok : Nat → Prop}, Good E w ρ H ok → (∀ b, ¬ E.W b) → ∃ ok', Good E w ρ (killAll ids H) ok' ∧ Ext w ρ H ok w ρ (killAll ids H) ok' ∧ ∀ b, okX (· ∈ ids) ρ H ok b → ok' b
  | [], H, ok, g, _ => ⟨ok, g, Ext.refl _ _ _ _, fun b hb => hb.elim id fun ⟨_, _, _, h, _⟩ => by cases h⟩
  | i :: ids, H, ok, g, hW => by
    obtain ⟨g1, x1⟩ := g.kill i (fun b => ok b ∨ ∃ o c, H[i]? = some (some o) ∧ ρ i = some (b, c)) (fun _ h => .inl h) (fun b hb => hb.imp id fun ⟨o, c, h1, h2⟩ => ⟨o, c, h1, h2, hW b⟩)
    obtain ⟨ok', g2, x2, h2⟩ := Good.freeze ids g1 hW
    refine ⟨ok', g2, x1.trans x2, fun b hb => ?_⟩
    rcases hb with hb | ⟨id, o, c, hm, ho, hρ⟩
    · exact h2 b (.inl (.inl hb))
    · by_cases hi : id = i
      · subst hi; exact h2 b (.inl (.inr ⟨o, c, ho, hρ⟩))
      · have hm' : id ∈ ids := (List.mem_cons.1 hm).resolve_left hi
        exact h2 b (.inr ⟨id, o, c, hm', by rw [List.getElem?_set, if_neg (fun e => hi e.symm)]; exact ho, hρ⟩)

/-- A value without memory. -/
inductive Flat : AV → Prop
  | sc {v} : Flat (.sc v)
  | nil : Flat .nil
  | agg {cs : List AV} (h : ∀ a, a ∈ cs → Flat a) : Flat (.agg cs)
  | tup {cs : List AV} (h : ∀ a, a ∈ cs → Flat a) : Flat (.tup cs)
theorem flat_sc {v : Value} : Flat (.sc v) ↔ True := ⟨fun _ => trivial, fun _ => .sc⟩
theorem flat_nil : Flat .nil ↔ True := ⟨fun _ => trivial, fun _ => .nil⟩
theorem flat_agg {cs : List AV} : Flat (.agg cs) ↔ ∀ a, a ∈ cs → Flat a := ⟨fun h => by cases h; assumption, .agg⟩
theorem flat_tup {cs : List AV} : Flat (.tup cs) ↔ ∀ a, a ∈ cs → Flat a := ⟨fun h => by cases h; assumption, .tup⟩

theorem Flat.rep {a : AV} (h : Flat a) {v : Value} (r : Rep w ρ H ok v a) {w' : World} {ρ' : Places} {H' : Heap} {ok' : Nat → Prop} : Rep w' ρ' H' ok' v a := by
  induction r with
  | sc => exact .sc
  | nil => exact .nil
  | agg hn _ ih => cases h with | agg h => exact .agg hn fun i c a hc ha => ih i c a hc ha (h a (List.mem_of_getElem? ha))
  | tup hn _ ih => cases h with | tup h => exact .tup hn fun i c a hc ha => ih i c a hc ha (h a (List.mem_of_getElem? ha))
  | _ => cases h

/-- Each argument as the callee sees it. -/
inductive Args (H : Heap) : List AV → List AV → Prop
  | nil : Args H [] []
  | cons {a a' : AV} {as as' : List AV} (h : Weak (view H a) a') (hi : Imm (view H a)) (ht : Args H as as') : Args H (a :: as) (a' :: as')

theorem Args.len {as as' : List AV} (h : Args H as as') : as.length = as'.length := by
  induction h with
  | nil => rfl
  | cons _ _ _ ih => simp [ih]
theorem Args.get {as as' : List AV} (h : Args H as as') : ∀ (i : Nat) (a' : AV), as'[i]? = some a' → ∃ a, as[i]? = some a ∧ Weak (view H a) a' ∧ Imm (view H a) := by
  induction h with
  | nil => intro i a' h; simp at h
  | cons h hi _ ih =>
    intro i a' ha
    match i, ha with
    | 0, ha => simp at ha; subst ha; exact ⟨_, rfl, h, hi⟩
    | i + 1, ha => exact ih i a' (by simpa using ha)

/-- The call's world, at the set X of objects that the arguments show. -/
theorem call_core {P : Program} {f : FuncId} {args args' : List AV} {Q : AV → Prop} (hP : E.P = P) (h : PFun P E.row E.src f args' Q) (ha : Args H args args') (X : Nat → Prop) (hX : ∀ a, a ∈ args → ∀ id, id ∈ srefs a → X id) (g : Good E w ρ H ok) {vs : Array Value}
    (hs : vs.size = args.length) (hr : ∀ (i : Nat) (v : Value) (a : AV), vs[i]? = some v → args[i]? = some a → Rep w ρ H ok v a) :
    Calls E.P f vs w fun e w' => ∃ (v : Value) (x : AV), e = .returned v ∧ Q x ∧ Imm x ∧ RepI w' (fun b => okX X ρ H ok b ∨ (w.heap.size ≤ b ∧ b < w'.heap.size)) v x ∧ w.grownBy w' E.row ∧ Inv E.row E.src (okX X ρ H ok) w' := by
  subst hP
  refine h w (okX X ρ H ok) vs (fun b hb => ?_) ⟨fun b hb => .inl (g.inv.1 b hb), g.inv.2⟩ (hs.trans ha.len) (fun i v a' hv ha' => ?_)
  · rcases hb with hb | ⟨id, o, c, _, ho, hρ⟩
    · exact ⟨(g.oks b hb).1, (g.oks b hb).2.1⟩
    · have hobj := g.obj id o ho
      rw [hρ] at hobj
      exact ⟨hobj.lt, (g.own id o b c ho hρ).2.1⟩
  · obtain ⟨a, h1, h2, h3⟩ := ha.get i a' ha'
    exact (view_soundX X g (hr i v a hv h1) h3 (hX a (List.mem_of_getElem? h1))).weak h2

/-- The result bears no memory: the objects that the arguments show stay the caller's. -/
theorem acall_flat {P : Program} {f : FuncId} {args : List AV} (args' : List AV) {Q : AV → Prop} {C : AV → Heap → Prop} (hP : E.P = P) (h : PFun P E.row E.src f args' Q) (ha : Args H args args') (hex : ∃ r, Q r) (hfl : ∀ r, Q r → Flat r) (hC : ∀ r, Q r → C r H) : ACall E f args H C := by
  refine ⟨hex.imp fun r hr => ⟨H, hC r hr⟩, fun w ρ ok vs g hs hr => ?_⟩
  refine (call_core hP h ha (fun _ => True) (fun _ _ _ _ => trivial) g hs hr).mono ?_
  rintro e w' ⟨v, x, rfl, hq, hi, hrep, hg, hinv⟩
  obtain ⟨g', x'⟩ := g.call (ok' := fun b => ok b ∨ (w.heap.size ≤ b ∧ b < w'.heap.size)) hg ⟨g.inv.1, hinv.2⟩ (fun _ h => .inl h) (fun _ h => h)
  exact ⟨v, x, H, ρ, _, rfl, hC x hq, g', x', (hfl x hq).rep hrep⟩

/-- No argument shows an object. -/
theorem acall_imm {P : Program} {f : FuncId} {args : List AV} (args' : List AV) {Q : AV → Prop} {C : AV → Heap → Prop} (hP : E.P = P) (h : PFun P E.row E.src f args' Q) (ha : Args H args args') (hn : ∀ a, a ∈ args → srefs a = []) (hC : ∀ r, Q r → Imm r → C r H) (hexC : ∃ r, Q r ∧ Imm r) : ACall E f args H C := by
  obtain ⟨r0, h0, h0'⟩ := hexC
  refine ⟨⟨r0, H, hC r0 h0 h0'⟩, fun w ρ ok vs g hs hr => ?_⟩
  refine (call_core hP h ha (fun _ => False) (fun a ha id hid => by rw [hn a ha] at hid; cases hid) g hs hr).mono ?_
  rintro e w' ⟨v, x, rfl, hq, hi, hrep, hg, hinv⟩
  obtain ⟨g', x'⟩ := g.call (ok' := fun b => ok b ∨ (w.heap.size ≤ b ∧ b < w'.heap.size)) hg ⟨g.inv.1, hinv.2⟩ (fun _ h => .inl h) (fun _ h => h)
  refine ⟨v, x, H, ρ, _, rfl, hC x hq hi, g', x', Rep.imm hrep (fun b hb => ?_) hi⟩
  rcases hb with (hb | ⟨_, _, _, h, _⟩) | hb
  · exact .inl hb
  · exact h.elim
  · exact .inr hb

/-- The objects that the arguments show are frozen for ever. -/
theorem acall_frz {P : Program} {f : FuncId} {args : List AV} (args' : List AV) {Q : AV → Prop} {C : AV → Heap → Prop} (hP : E.P = P) (hW : ∀ b, ¬ E.W b) (h : PFun P E.row E.src f args' Q) (ha : Args H args args') (hC : ∀ r, Q r → Imm r → C r (killAll (args.flatMap srefs) H)) (hexC : ∃ r, Q r ∧ Imm r) : ACall E f args H C := by
  obtain ⟨r0, h0, h0'⟩ := hexC
  refine ⟨⟨r0, _, hC r0 h0 h0'⟩, fun w ρ ok vs g hs hr => ?_⟩
  refine (call_core hP h ha (· ∈ args.flatMap srefs) (fun a ha id hid => List.mem_flatMap.2 ⟨a, ha, hid⟩) g hs hr).mono ?_
  rintro e w' ⟨v, x, rfl, hq, hi, hrep, hg, hinv⟩
  obtain ⟨g1, x1⟩ := g.call (ok' := fun b => ok b ∨ (w.heap.size ≤ b ∧ b < w'.heap.size)) hg ⟨g.inv.1, hinv.2⟩ (fun _ h => .inl h) (fun _ h => h)
  obtain ⟨ok', g2, x2, h2⟩ := g1.freeze (args.flatMap srefs) hW
  refine ⟨v, x, _, ρ, ok', rfl, hC x hq hi, g2, x1.trans x2, Rep.imm hrep (fun b hb => ?_) hi⟩
  rcases hb with (hb | ⟨id, o, c, hm, ho, hρ⟩) | hb
  · exact h2 b (.inl (.inl hb))
  · exact h2 b (.inr ⟨id, o, c, hm, ho, hρ⟩)
  · exact h2 b (.inl (.inr hb))

end

theorem PFun.lift {P : Program} {f : FuncId} {args : List AV} {Q : AV → Prop} (h : PFun P none none f args Q) (row src : Option Nat) : PFun P row src f args Q := by
  intro w ok vs h1 h2 h3 h4
  refine (h w ok vs (fun b hb => ⟨(h1 b hb).1, by simp⟩) ⟨by simp, by simp⟩ h3 h4).mono ?_
  rintro e w' ⟨v, x, rfl, hq, hi, hrep, hg, _⟩
  refine ⟨v, x, rfl, hq, hi, hrep, ⟨hg.os, hg.tape, hg.output, hg.size, fun k hk _ => hg.block k hk (by simp)⟩, h2.keep (fun p hp => ?_) (fun _ h => h) (fun b hb => hg.block b (h1 b hb).1 (by simp))⟩
  obtain ⟨_, _, _, _, _, _, ⟨hp', _⟩, _⟩ := h2.2 p hp
  exact hg.block p (Array.getElem?_eq_some_iff.1 hp').1 (by simp)

end Go.PA
