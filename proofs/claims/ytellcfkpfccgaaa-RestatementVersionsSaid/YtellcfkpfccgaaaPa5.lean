/- PA, part 5: how a good state stays good: the world moves on, an object is added, dies, is frozen, is written. -/
import Derived.Test.YtellcfkpfccgaaaPa4
namespace Go.PA
open Go.RowKit

section
variable {E : Env} {w w' : World} {ρ : Places} {H : Heap} {ok : Nat → Prop}

theorem Good.row_lt (g : Good E w ρ H ok) {p : Nat} (h : E.row = some p) : p < w.heap.size := by
  obtain ⟨_, _, _, _, _, _, ⟨hp, _⟩, _⟩ := g.inv.2 p h
  exact (Array.getElem?_eq_some_iff.1 hp).1

theorem Inv.keep {row src : Option Nat} {ok' : Nat → Prop} (h : Inv row src ok w) (hrow : ∀ p, row = some p → w'.heap[p]? = w.heap[p]?) (hok : ∀ b, ok b → ok' b) (hb : ∀ b, ok b → w'.heap[b]? = w.heap[b]?) : Inv row src ok' w' := by
  refine ⟨fun b hs => hok b (h.1 b hs), fun p hp => ?_⟩
  obtain ⟨cur, A, len, c, at_, ty, h1, h2, h3, h4⟩ := h.2 p hp
  refine ⟨cur, A, len, c, at_, ty, ⟨(hrow p hp).trans h1.1, h1.2⟩, h2, h3, fun i hi => ?_⟩
  obtain ⟨ad, x, e1, e2, e3, e4, e5⟩ := h4 i hi
  exact ⟨ad, x, e1, e2, e3, (World.cell?_of_block (w := w) (by rw [block_add]; exact hb _ (h.1 _ e2))).trans e4, e5⟩

theorem ObjOk.lt {o : AObj} {b c : Nat} (h : ObjOk w ρ H ok o (some (b, c))) : b < w.heap.size := by
  rcases h with ⟨_, hb, _⟩ | ⟨_, _, _, _, hb, _⟩ | ⟨_, _, ⟨_, hb⟩ | ⟨_, _, _, _, _, _, hb, _⟩⟩ <;> exact (Array.getElem?_eq_some_iff.1 hb).1

theorem ObjOk.ext {ρ' : Places} {H' : Heap} {ok' : Nat → Prop} (x : Ext w ρ H ok w' ρ' H' ok') {o : AObj} {pl : Option (Nat × Nat)} (h : ObjOk w ρ H ok o pl) (hb : ∀ b c, pl = some (b, c) → w'.heap[b]? = w.heap[b]?) : ObjOk w' ρ' H' ok' o pl := by
  match pl, h with
  | none, h => exact h
  | some (b, cap), h =>
    rcases h with ⟨cur, h1, h2, h3, h4, h5⟩ | ⟨hc, hk, ents, clk, h1, h2, h3, h4⟩ | ⟨hc, hk, ⟨h1, h2⟩ | ⟨m, clk, seen, ents, c1, c2, h1, h2, h3, h4, h5⟩⟩
    · refine .inl ⟨cur, (hb b cap rfl).trans h1, h2, h3, h4, fun i e j a he ha => ?_⟩
      obtain ⟨c, c1, c2, c3⟩ := h5 i e j a he ha
      exact ⟨c, c1, c2, c3.ext x⟩
    · refine .inr (.inl ⟨hc, hk, ents, clk, (hb b cap rfl).trans h1, h2, h3, fun i y e hy he => ?_⟩)
      obtain ⟨a, ha, hr⟩ := h4 i y e hy he
      exact ⟨a, ha, hr.ext x⟩
    · exact .inr (.inr ⟨hc, hk, .inl ⟨h1, (hb b cap rfl).trans h2⟩⟩)
    · exact .inr (.inr ⟨hc, hk, .inr ⟨m, clk, seen, ents, c1, c2, (hb b cap rfl).trans h1, x.oks _ h2, (x.blk _ h2).trans h3, h4, h5⟩⟩)

/-- The world moves on: blocks of X, which belong to nobody, may change; new blocks come. -/
theorem Good.step (g : Good E w ρ H ok) {ok' : Nat → Prop} (X : Nat → Prop) (hos : w'.os = w.os) (htape : w'.tape = w.tape) (hout : w'.output = w.output) (hsize : w.heap.size ≤ w'.heap.size)
    (hblk : ∀ b, b < w.heap.size → ¬ X b → w'.heap[b]? = w.heap[b]?)
    (hX : ∀ b, X b → ¬ ok b ∧ (∀ (id : Nat) (o : AObj) (c : Nat), H[id]? = some (some o) → ρ id ≠ some (b, c)) ∧ some b ≠ E.row ∧ (E.W b ∨ E.w0.heap.size ≤ b))
    (hok : ∀ b, ok b → ok' b) (hok' : ∀ b, ok' b → ok b ∨ (w.heap.size ≤ b ∧ b < w'.heap.size)) : Good E w' ρ H ok' ∧ Ext w ρ H ok w' ρ H ok' := by
  have hokb : ∀ b, ok b → w'.heap[b]? = w.heap[b]? := fun b hb => hblk b (g.oks b hb).1 (fun hx => (hX b hx).1 hb)
  have hx : Ext w ρ H ok w' ρ H ok' := ⟨fun id o h => .inr ⟨o, h, rfl, rfl, Nat.le_refl _⟩, fun _ h => h, hok, hokb⟩
  have hlive : ∀ (id : Nat) (o : AObj) (b c : Nat), H[id]? = some (some o) → ρ id = some (b, c) → w'.heap[b]? = w.heap[b]? := fun id o b c ho hρ => by
    have hobj := g.obj id o ho
    rw [hρ] at hobj
    exact hblk b hobj.lt (fun hx => (hX b hx).2.1 id o c ho hρ)
  have hrow : ∀ p, E.row = some p → w'.heap[p]? = w.heap[p]? := fun p hp => hblk p (g.row_lt hp) (fun hx => (hX p hx).2.2.1 hp.symm)
  refine ⟨⟨hos.trans g.os, htape.trans g.tape, hout.trans g.output, Nat.le_trans g.size hsize, fun b hb hW hr => ?_, g.inv.keep hrow hok hokb, fun b hb => ?_, fun id o b c ho hρ => ?_, g.inj, g.len, fun id o ho => ?_⟩, hx⟩
  · rw [hblk b (Nat.lt_of_lt_of_le hb g.size) (fun hx => ?_)]
    · exact g.blk b hb hW hr
    · rcases (hX b hx).2.2.2 with h | h
      · exact hW h
      · omega
  · rcases hok' b hb with h | ⟨h1, h2⟩
    · obtain ⟨a1, a2, a3⟩ := g.oks b h
      exact ⟨Nat.lt_of_lt_of_le a1 hsize, a2, a3⟩
    · exact ⟨h2, fun hr => by have := g.row_lt hr.symm; omega, .inr (Nat.le_trans g.size h1)⟩
  · obtain ⟨a1, a2, a3⟩ := g.own id o b c ho hρ
    refine ⟨fun hb => ?_, a2, a3⟩
    rcases hok' b hb with h | ⟨h1, _⟩
    · exact a1 h
    · have hobj := g.obj id o ho
      rw [hρ] at hobj
      have := hobj.lt
      omega
  · exact (g.obj id o ho).ext hx (fun b c hρ => hlive id o b c ho hρ)

def updP (ρ : Places) (i : Nat) (x : Option (Nat × Nat)) : Places := fun j => if j = i then x else ρ j

theorem get_push {H : Heap} {x : Option AObj} {id : Nat} {o : AObj} (h : (H ++ [x])[id]? = some (some o)) : H[id]? = some (some o) ∨ (id = H.length ∧ x = some o) := by
  rcases Nat.lt_or_ge id H.length with hlt | hge
  · rw [List.getElem?_append_left hlt] at h; exact .inl h
  · rw [List.getElem?_append_right hge] at h
    have h0 : id - H.length = 0 := by
      rcases Nat.eq_zero_or_pos (id - H.length) with h0 | h0
      · exact h0
      · rw [List.getElem?_eq_none (by simp; omega)] at h; cases h
    rw [h0] at h
    exact .inr ⟨by omega, by simpa using h⟩
theorem get_lt {H : Heap} {id : Nat} {x : Option AObj} (h : H[id]? = some x) : id < H.length := (List.getElem?_eq_some_iff.1 h).1
theorem push_old {H : Heap} {x y : Option AObj} {id : Nat} (h : H[id]? = some y) : (H ++ [x])[id]? = some y := by rw [List.getElem?_append_left (get_lt h)]; exact h
theorem push_new {H : Heap} {x : Option AObj} : (H ++ [x])[H.length]? = some x := by simp

/-- An object is added. -/
theorem Good.add (g : Good E w ρ H ok) (o : AObj) (pl : Option (Nat × Nat)) (hobj : ObjOk w ρ H ok o pl) (hlen : ∀ (e : List AV), e ∈ o.es → e.length = o.k)
    (hpl : ∀ b c, pl = some (b, c) → ¬ ok b ∧ (∀ (id : Nat) (o : AObj) (c : Nat), H[id]? = some (some o) → ρ id ≠ some (b, c)) ∧ some b ≠ E.row ∧ (E.W b ∨ E.w0.heap.size ≤ b)) :
    Good E w (updP ρ H.length pl) (H ++ [some o]) ok ∧ Ext w ρ H ok w (updP ρ H.length pl) (H ++ [some o]) ok := by
  have hρ' : ∀ (id : Nat) (y : Option AObj), H[id]? = some y → updP ρ H.length pl id = ρ id := fun id y h => by
    have := get_lt h
    unfold updP
    rw [if_neg (by omega)]
  have hρn : updP ρ H.length pl H.length = pl := by simp [updP]
  have hx : Ext w ρ H ok w (updP ρ H.length pl) (H ++ [some o]) ok := ⟨fun id o' h => .inr ⟨o', push_old h, hρ' id _ h, rfl, Nat.le_refl _⟩, fun id h => push_old h, fun _ h => h, fun _ _ => rfl⟩
  refine ⟨⟨g.os, g.tape, g.output, g.size, g.blk, g.inv, g.oks, fun id o' b c ho hρ => ?_, fun id o1 b c id' o2 c' ho hρ ho' hρ2 => ?_, fun id o' ho => ?_, fun id o' ho => ?_⟩, hx⟩
  · rcases get_push ho with h | ⟨rfl, h⟩
    · rw [hρ' id _ h] at hρ; exact g.own id o' b c h hρ
    · rw [hρn] at hρ
      obtain ⟨a1, _, a2, a3⟩ := hpl b c hρ
      exact ⟨a1, a2, a3⟩
  · rcases get_push ho with h | ⟨rfl, h⟩ <;> rcases get_push ho' with h' | ⟨rfl, h'⟩
    · rw [hρ' id _ h] at hρ
      rw [hρ' id' _ h'] at hρ2
      exact g.inj id o1 b c id' o2 c' h hρ h' hρ2
    · rw [hρ' id _ h] at hρ
      rw [hρn] at hρ2
      exact absurd hρ ((hpl b c' hρ2).2.1 id o1 c h)
    · rw [hρn] at hρ
      rw [hρ' id' _ h'] at hρ2
      exact absurd hρ2 ((hpl b c hρ).2.1 id' o2 c' h')
    · rfl
  · rcases get_push ho with h | ⟨rfl, h⟩
    · exact g.len id o' h
    · simp only [Option.some.injEq] at h; subst h; exact hlen
  · rcases get_push ho with h | ⟨rfl, h⟩
    · rw [hρ' id _ h]; exact (g.obj id o' h).ext hx (fun _ _ _ => rfl)
    · simp only [Option.some.injEq] at h; subst h; rw [hρn]; exact hobj.ext hx (fun _ _ _ => rfl)

theorem set_live {H : Heap} {i id : Nat} {o : AObj} (h : (H.set i none)[id]? = some (some o)) : id ≠ i ∧ H[id]? = some (some o) := by
  rw [List.getElem?_set] at h
  split at h
  · split at h <;> simp at h
  · rename_i hne; exact ⟨fun e => hne e.symm, h⟩

/-- An object dies; its block may be frozen from now on. -/
theorem Good.kill (g : Good E w ρ H ok) (i : Nat) (ok' : Nat → Prop) (hok : ∀ b, ok b → ok' b) (hok' : ∀ b, ok' b → ok b ∨ ∃ o c, H[i]? = some (some o) ∧ ρ i = some (b, c) ∧ ¬ E.W b) :
    Good E w ρ (H.set i none) ok' ∧ Ext w ρ H ok w ρ (H.set i none) ok' := by
  have hx : Ext w ρ H ok w ρ (H.set i none) ok' := by
    refine ⟨fun id o h => ?_, fun id h => ?_, hok, fun _ _ => rfl⟩
    · by_cases hi : i = id
      · subst hi; exact .inl (by rw [List.getElem?_set]; simp [get_lt h])
      · exact .inr ⟨o, by rw [List.getElem?_set, if_neg hi]; exact h, rfl, rfl, Nat.le_refl _⟩
    · by_cases hi : i = id
      · subst hi; rw [List.getElem?_set]; simp [get_lt h]
      · rw [List.getElem?_set, if_neg hi]; exact h
  refine ⟨⟨g.os, g.tape, g.output, g.size, g.blk, g.inv.keep (fun _ _ => rfl) hok (fun _ _ => rfl), fun b hb => ?_, fun id o b c ho hρ => ?_, fun id o1 b c id' o2 c' ho hρ ho' hρ2 => ?_, fun id o ho => ?_, fun id o ho => ?_⟩, hx⟩
  · rcases hok' b hb with h | ⟨o, c, h1, h2, h3⟩
    · exact g.oks b h
    · have hobj := g.obj i o h1
      rw [h2] at hobj
      obtain ⟨a1, a2, a3⟩ := g.own i o b c h1 h2
      refine ⟨hobj.lt, a2, ?_⟩
      rcases a3 with a3 | a3
      · exact absurd a3 h3
      · exact .inr a3
  · obtain ⟨hne, h⟩ := set_live ho
    obtain ⟨a1, a2, a3⟩ := g.own id o b c h hρ
    refine ⟨fun hb => ?_, a2, a3⟩
    rcases hok' b hb with hk | ⟨o', c', h1, h2, _⟩
    · exact a1 hk
    · exact hne (g.inj id o b c i o' c' h hρ h1 h2)
  · exact g.inj id o1 b c id' o2 c' (set_live ho).2 hρ (set_live ho').2 hρ2
  · exact g.len id o (set_live ho).2
  · exact (g.obj id o (set_live ho).2).ext hx (fun _ _ _ => rfl)

end
end Go.PA
