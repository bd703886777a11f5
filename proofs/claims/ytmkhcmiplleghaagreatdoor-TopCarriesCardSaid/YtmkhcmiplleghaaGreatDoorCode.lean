/- Codes: contracts. -/
import Derived.Test.YtmkhcmiplleghaaGreatDoorParts
import Derived.Test.YtmkhcmiplleghaaGreatDoorPlayAll
import Derived.Test.YtmkhcmiplleghaaGreatDoorPaPf
set_option linter.unusedSimpArgs false
set_option linter.unusedVariables false
namespace Go.Proofs.YtmkhcmiplleghaaGreatDoor
open Go.PA
open Go.RowKit

theorem rep_ints {w : World} {ok : Nat → Prop} {base : Nat} {v : Value} {ns : List Int} (h : w.ownsRow base 3 1 v ns.length (ns.map (Value.int .i64))) (hok : ∀ b, base ≤ b → b < w.heap.size → ok b) : RepI w ok v (intsL ns) := by
  have hl := h.lt
  have hc := fun g hg => h.cells (g := g) hg
  rcases h.2 with ⟨rfl, h0⟩ | ⟨g, cap, cur, rfl, hb, hg, hcap, _⟩
  · rw [List.length_eq_zero_iff.1 h0]
    exact .listNil
  · obtain ⟨_, hlt⟩ := hl g rfl
    refine .list (fun i _ => .int .i64 (ns.getD i 0)) (by simp) hcap (hok g hb hlt) (by simp) ?_ (fun _ _ _ _ _ _ => rfl) ?_ <;>
    · intro i e j a he ha
      rw [List.getElem?_map, Option.map_eq_some_iff] at he
      obtain ⟨x, hx, rfl⟩ := he
      have hj : j = 0 := by have := (List.getElem?_eq_some_iff.1 ha).1; simpa using this
      subst hj
      have hd : ns.getD i 0 = x := by rw [List.getD_eq_getElem?_getD, hx]; rfl
      simp only [List.getElem?_cons_zero, Option.some.injEq] at ha
      subst ha
      simp only [hd]
      first
        | exact .sc
        | exact hc g rfl _ _ (by rw [Nat.mul_one, Nat.add_zero, List.getElem?_map, hx]; rfl)

theorem parts_pf (s : ByteArray) (hl : s.size ≤ 1000000) : PFun Tryz.prog none none 40 [.sc (.string s)] (· = intsL (partsD s)) := by
  intro w ok vs h1 h2 h3 h4
  have hv : vs = #[.string s] := by
    have h0 : 0 < vs.size := by rw [h3]; simp
    have e0 := rep_sc (h4 0 vs[0] _ (Array.getElem?_eq_getElem h0) rfl)
    apply Array.ext
    · simpa using h3
    · intro i hi hi'
      have : i = 0 := by simp at hi'; exact hi'
      subst this
      simpa using e0
  subst hv
  refine (callsIn_wide.1 (parts_in s hl w fun g hg => ?_)).mono ?_
  · have := h2.1.2 g hg
    exact ⟨(h1 g this.1).1, this.2⟩
  · rintro e W' ⟨v, rfl, ho, hn, hb⟩
    have hg : w.grownBy W' none := gOf hb
    refine ⟨v, _, rfl, rfl, by simp [intsL, go_sem], rep_ints ho (fun b h1 h2 => .inr ⟨h1, h2⟩), ?_, h2.keep (by simp) (fun _ h => h) (fun b hb' => hg.block b (h1 b hb').1 (by simp))⟩
    exact hg
end Go.Proofs.YtmkhcmiplleghaaGreatDoor
