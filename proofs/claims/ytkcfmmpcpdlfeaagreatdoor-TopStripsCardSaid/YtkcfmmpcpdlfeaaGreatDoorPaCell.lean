/- PA: a nil slice in a cell of a struct variable, taken as an empty one of the walk's own. -/
import Derived.Test.YtkcfmmpcpdlfeaaGreatDoorPaC
namespace Go.PA
open Go.RowKit

section
variable {E : Env}
theorem weaker_owncell {s : St} {o ty k : Nat} {cs : List AV} (j : Nat) (ty' k' : Nat) (h : s.H[o]? = some (some ⟨ty, k, [cs]⟩)) (hk : k ≠ 2) (hi : ∀ es, cs[2]? ≠ some (.imap es)) (hj : cs[j]? = some .nil) :
    Weaker E s ⟨s.t, (s.H ++ [some (AObj.mk ty' k' [])]).set o (some ⟨ty, k, [cs.set j (.sref s.H.length 0 0)]⟩)⟩ := by
  rintro a w ⟨ρ, ok, g, hx, hd, hs, hr⟩
  obtain ⟨g1, x1⟩ := g.add ⟨ty', k', []⟩ none rfl (by simp) (by simp)
  have lt := (List.getElem?_eq_some_iff.1 h).1
  have h1 : (s.H ++ [some ⟨ty', k', []⟩])[o]? = some (some ⟨ty, k, [cs]⟩) := by rw [List.getElem?_append_left lt]; exact h
  have hobj := g1.obj o _ h1
  have hlen := g1.len o _ h1 cs (by simp)
  obtain ⟨ρ1, hρ1⟩ : ∃ ρ1, ρ1 = updP ρ s.H.length none := ⟨_, rfl⟩
  rw [← hρ1] at g1 x1 hobj
  have hnew : ρ1 s.H.length = none := by rw [hρ1]; simp [updP]
  cases hρ : ρ1 o with
  | none => rw [hρ] at hobj; cases hobj
  | some bc =>
    obtain ⟨b, cap⟩ := bc
    rw [hρ] at hobj
    obtain ⟨g', x'⟩ := g1.change (w' := w) h1 hρ ⟨ty, k, [cs.set j (.sref s.H.length 0 0)]⟩ rfl (Nat.le_refl _) (by simpa using hlen) rfl rfl rfl rfl (fun _ _ => rfl) fun hx' => by
      rcases hobj with ⟨cur, h1', h2, h3, h4, h5⟩ | ⟨_, hk', _⟩ | ⟨_, hk', he⟩
      · refine .inl ⟨cur, h1', h2, h3, h4, fun i e q a he ha => ?_⟩
        match i, he with
        | 0, he =>
          simp only [List.getElem?_cons_zero, Option.some.injEq] at he
          subst he
          by_cases hq : j = q
          · subst hq
            obtain ⟨c, c1, c2, c3⟩ := h5 0 cs j .nil rfl hj
            have hjl := (List.getElem?_eq_some_iff.1 hj).1
            rw [List.getElem?_set, if_pos rfl, if_pos hjl] at ha
            cases ha
            refine ⟨c, c1, c2, ?_⟩
            cases c3
            refine .srefNil (o := ⟨ty', k', []⟩) ?_ hnew
            rw [List.getElem?_set_ne (by omega)]
            exact push_new
          · rw [List.getElem?_set_ne hq] at ha
            obtain ⟨c, c1, c2, c3⟩ := h5 0 cs q a rfl ha
            exact ⟨c, c1, c2, c3.ext hx'⟩
      · exact absurd hk' hk
      · exfalso
        rcases he with ⟨he, _⟩ | ⟨m, clk, seen, ents, c1, c2, _, _, _, _, he, _⟩
        · simp only [List.cons.injEq, and_true] at he
          exact hi [] (by rw [he]; rfl)
        · simp only [List.cons.injEq, and_true] at he
          exact hi _ (by rw [he]; rfl)
    exact ⟨ρ1, ok, g', (hx.trans x1).trans x', hd, hs, fun i => ((hr i).ext x1).ext x'⟩
theorem aloop_owncell {c : Code} {s : St} {Q : Exit → St → Prop} {b : Bx (c, Q)} {o ty k : Nat} {cs : List AV} (j : Nat) (ty' k' : Nat) (h : s.H[o]? = some (some ⟨ty, k, [cs]⟩)) (hk : k ≠ 2) (hi : ∀ es, cs[2]? ≠ some (.imap es)) (hj : cs[j]? = some .nil)
    (hl : ALoop E c ⟨s.t, (s.H ++ [some (AObj.mk ty' k' [])]).set o (some ⟨ty, k, [cs.set j (.sref s.H.length 0 0)]⟩)⟩ Q .mk) : ALoop E c s Q b :=
  AWp.weaken (weaker_owncell j ty' k' h hk hi hj) hl
end
end Go.PA
