/- PA: what is not written any more is frozen: a variable's address becomes one to a frozen variable, a slice in a variable becomes a list. -/
import Derived.Test.YtkcfmmpcpdlfeaaGreatDoorPaC
namespace Go.PA
open Go.RowKit

section
variable {E : Env}

theorem iref_sound {w : World} {ρ : Places} {H : Heap} {ok : Nat → Prop} (X : Nat → Prop) (g : Good E w ρ H ok) {v : Value} {id i j : Nat} {cs : List AV} (hra : Rep w ρ H ok v (.ref id i j)) (has : addrCells H (.ref id i j) = some cs) (him : ∀ c, c ∈ cs → Imm c) (hX : X id) : RepI w (okX X ρ H ok) v (.iref cs) := by
  obtain ⟨o, b, cap, ho, hρ, hcap, rfl⟩ := rep_live_ref hra has
  obtain ⟨ad, he, f', hf⟩ := addr_sound g hra has
  simp only [Value.pointer.injEq, Option.some.injEq] at he
  subst he
  exact .iref f' (.inr ⟨id, o, cap, hX, ho, hρ⟩) (fun j a hj => (hf j a hj).1) (fun j a hj => (hf j a hj).2.1) (fun j a hj => (hf j a hj).2.2.imm (fun _ h => .inl h) (him a (List.mem_of_getElem? hj)))

/-- A variable that is not written any more. -/
theorem weaker_iref {s : St} (j : Nat) {id : Nat} {cs : List AV} (hW : ∀ b, ¬ E.W b) (ht : s.t j = .ref id 0 0) (has : addrCells s.H (.ref id 0 0) = some cs) (him : ∀ c, c ∈ cs → Imm c) : Weaker E s ⟨upd s.t j (.iref cs), s.H.set id none⟩ := by
  rintro a w ⟨ρ, ok, g, hx, hd, hs, hr⟩
  obtain ⟨ok', g1, x1, hok⟩ := g.freeze [id] hW
  refine ⟨ρ, ok', g1, hx.trans x1, hd, hs, fun i => ?_⟩
  simp only [upd]
  split
  · rename_i hi
    have hri := hr i
    rw [hi, ht] at hri
    rw [hi]
    exact Rep.imm (iref_sound (· ∈ [id]) g hri has him (by simp)) hok (imm_iref.2 him)
  · exact (hr i).ext x1

/-- A slice of the walk's own in a cell of a variable is taken as a list from now on. -/
theorem weaker_frzcell {s : St} {o id ty k ty' kk n r c : Nat} {es fs : List (List AV)} {e : List AV} (hW : ∀ b, ¬ E.W b) (ho : s.H[o]? = some (some ⟨ty, k, es⟩)) (hk : k ≠ 2) (he : es[r]? = some e) (hc : e[c]? = some (.sref id 0 n))
    (hid : s.H[id]? = some (some ⟨ty', kk, fs⟩)) (hn : n = fs.length) (hi : Imm (.list kk fs)) (hne : o ≠ id) : Weaker E s ⟨s.t, (s.H.set id none).set o (some ⟨ty, k, es.set r (e.set c (.list kk fs))⟩)⟩ := by
  rintro a w ⟨ρ, ok, g, hx, hd, hs, hr⟩
  obtain ⟨ok', g1, x1, hok⟩ := g.freeze [id] hW
  have g1 : Good E w ρ (s.H.set id none) ok' := g1
  have x1 : Ext w ρ s.H ok w ρ (s.H.set id none) ok' := x1
  have ho1 : (s.H.set id none)[o]? = some (some ⟨ty, k, es⟩) := by rw [List.getElem?_set_ne (Ne.symm hne)]; exact ho
  have hobj := g.obj o _ ho
  have hlen := g.len o _ ho
  have hmem := List.mem_of_getElem? he
  have hv : view1 s.H (.sref id 0 n) = .list kk fs := by
    simp only [view1, hid, List.drop_zero]
    rw [hn, List.take_length]
  cases hρ : ρ o with
  | none =>
    rw [hρ] at hobj
    have : es = [] := hobj
    rw [this] at he
    cases he
  | some bc =>
    obtain ⟨b, cap⟩ := bc
    rw [hρ] at hobj
    rcases hobj with ⟨cur, h1, h2, h3, h4, h5⟩ | ⟨_, hk', _⟩ | ⟨_, hk', hit⟩
    · obtain ⟨g', x'⟩ := g1.change (w' := w) ho1 hρ ⟨ty, k, es.set r (e.set c (.list kk fs))⟩ rfl (by simp) (fun e' he' => by
        rcases List.mem_or_eq_of_mem_set he' with he' | rfl
        · exact hlen e' he'
        · rw [List.length_set]; exact hlen e hmem) rfl rfl rfl rfl (fun _ _ => rfl) fun hx' => .inl ⟨cur, h1, h2, by simpa using h3, h4, fun i e' j a' hie hja => by
          by_cases hir : i = r
          · subst hir
            have hil := (List.getElem?_eq_some_iff.1 he).1
            rw [List.getElem?_set_self hil, Option.some.injEq] at hie
            subst hie
            by_cases hjc : j = c
            · subst hjc
              have hjl := (List.getElem?_eq_some_iff.1 hc).1
              rw [List.getElem?_set_self hjl, Option.some.injEq] at hja
              subst hja
              obtain ⟨v, v1, v2, v3⟩ := h5 i e j _ he hc
              refine ⟨v, v1, v2, ?_⟩
              have hri := view1_soundX (· ∈ [id]) g v3 (by rw [hv]; exact hi) (by simp [srefs1])
              rw [hv] at hri
              exact (Rep.imm hri hok hi).ext hx'
            · rw [List.getElem?_set_ne (Ne.symm hjc)] at hja
              obtain ⟨v, v1, v2, v3⟩ := h5 i e j _ he hja
              exact ⟨v, v1, v2, (v3.ext x1).ext hx'⟩
          · rw [List.getElem?_set_ne (Ne.symm hir)] at hie
            obtain ⟨v, v1, v2, v3⟩ := h5 i e' j _ hie hja
            exact ⟨v, v1, v2, (v3.ext x1).ext hx'⟩⟩
      exact ⟨ρ, ok', g', hx.trans (x1.trans x'), hd, hs, fun i => ((hr i).ext x1).ext x'⟩
    · exact absurd hk' hk
    · exfalso
      rcases hit with ⟨hes, _⟩ | ⟨m, clk, seen, ents, c1, c2, _, _, _, _, hes, hcc⟩
      · have hes : es = [[.junk, .junk, .imap []]] := hes
        subst hes
        have : e = [.junk, .junk, .imap []] := by
          rcases r with _ | r
          · simpa using he.symm
          · simp at he
        subst this
        rcases c with _ | _ | _ | c <;> simp at hc
      · have hes : es = [[c1, c2, .imap ((ents.toList.filter fun e => !seen.contains e.born).map fun e => (e.key, e.val))]] := hes
        subst hes
        have : e = [c1, c2, .imap ((ents.toList.filter fun e => !seen.contains e.born).map fun e => (e.key, e.val))] := by
          rcases r with _ | r
          · simpa using he.symm
          · simp at he
        subst this
        rcases hcc with ⟨rfl, rfl⟩ | ⟨x, _, _, rfl, rfl⟩ <;> rcases c with _ | _ | _ | c <;> simp at hc

/-! ### Roads that come together -/
/-- What is known, as far as one cares to say. -/
def AInv (E : Env) (Inv : St → Prop) (s : St) : Prop := ∃ s', Weaker E s s' ∧ Inv s'
theorem Weaker.refl (s : St) : Weaker E s s := fun _ _ h => h
theorem awp_join {a b : Code} {s : St} {Q : Exit → St → Prop} (Inv : St → Prop) (hc : codeOk E.N a = true) (h : awp E a s (Athen (fun s' => AInv E Inv s') Q)) (hk : ∀ s', Inv s' → AWp E b s' Q) : AWp E (.seq a b) s Q := by
  intro x w r
  refine wp_seq (wp_mono (awp_sound a s _ hc h x w r) fun e a' w' h' => ?_)
  obtain ⟨s', h1, h2⟩ := h'
  cases e with
  | normal =>
    obtain ⟨s2, k1, k2⟩ := h1
    exact hk s2 k2 a' w' (k1 a' w' h2)
  | _ => exact ⟨s', h1, h2⟩
end
end Go.PA
