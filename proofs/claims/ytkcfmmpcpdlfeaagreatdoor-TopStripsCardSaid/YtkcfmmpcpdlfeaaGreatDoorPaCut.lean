/- PA: a slice that is cut short gets an object of its own. -/
import Derived.Test.YtkcfmmpcpdlfeaaGreatDoorPaIns
namespace Go.PA
open Go.RowKit

/-- What is handed back, a slice of the first elements of an object, is an object of its own from now on. -/
theorem mfun_cut {P : Program} {row src : Option Nat} {f : FuncId} {args : List AV} {H : Heap} {C D : AV → Heap → Prop} (h : MFun P row src f args H C)
    (hd : ∀ r H', C r H' → ∃ id n o, r = .sref id 0 n ∧ H'[id]? = some (some o) ∧ n ≤ o.es.length ∧ D (.sref H'.length 0 n) (H'.set id none ++ [some ⟨o.ty, o.k, o.es.take n⟩])) : MFun P row src f args H D := by
  intro E hP hrow hsrc
  obtain ⟨⟨x0, H0, h0⟩, hw⟩ := h E hP hrow hsrc
  refine ⟨?_, fun w ρ ok vs g hs hr => (hw w ρ ok vs g hs hr).mono ?_⟩
  · obtain ⟨_, _, _, _, _, _, h1⟩ := hd _ _ h0
    exact ⟨_, _, h1⟩
  · rintro e w' ⟨v, x, H', ρ', ok', rfl, hc, g', x', r'⟩
    obtain ⟨id, n, o, rfl, ho, hn, h1⟩ := hd _ _ hc
    obtain ⟨g2, x2⟩ := g'.kill id ok' (fun _ h => h) (fun _ h => .inl h)
    have hlen : (H'.set id none).length = H'.length := by simp
    have hnew : ∀ y : Option AObj, (H'.set id none ++ [y])[H'.length]? = some y := fun y => by rw [← hlen]; exact push_new
    cases r' with
    | srefDead hd' _ => rw [ho] at hd'; cases hd'
    | srefNil ho' hρ =>
      obtain ⟨g3, x3⟩ := g2.add ⟨o.ty, o.k, o.es.take 0⟩ none (by simp [ObjOk]) (by simp) (fun _ _ h => by cases h)
      exact ⟨_, _, _, _, ok', rfl, h1, g3, x'.trans (x2.trans x3), .srefNil (hnew _) (by simp [updP])⟩
    | @sref _ _ _ c o' b cap ho' hρ hn' hcc hnc hcap =>
      rw [ho] at ho'
      simp only [Option.some.injEq] at ho'
      subst ho'
      have hobj := g'.obj id o ho
      rw [hρ] at hobj
      obtain ⟨cur, c1, c2, c3, c4, c5⟩ := hobj.cells hcap
      have own := g'.own id o b cap ho hρ
      obtain ⟨g3, x3⟩ := g2.add ⟨o.ty, o.k, o.es.take n⟩ (some (b, cap)) (.inl ⟨cur, c1, c2, by simp only [List.length_take]; omega, c4, fun i e j a he ha => by
          simp only [List.getElem?_take] at he
          split at he
          · obtain ⟨c, d1, d2, d3⟩ := c5 i e j a he ha
            exact ⟨c, d1, d2, d3.ext x2⟩
          · cases he⟩) (fun e he => g'.len id o ho e (List.mem_of_mem_take he)) (fun b' c' h' => by
          simp only [Option.some.injEq, Prod.mk.injEq] at h'
          obtain ⟨rfl, rfl⟩ := h'
          refine ⟨own.1, fun id' o' c' ho' hρ' => ?_, own.2.1, own.2.2⟩
          obtain ⟨hne, hl⟩ := set_live ho'
          exact hne (g'.inj id' o' b c' id o cap hl hρ' ho hρ))
      refine ⟨_, _, _, _, ok', rfl, h1, g3, x'.trans (x2.trans x3), .sref (o := ⟨o.ty, o.k, o.es.take n⟩) (hnew _) (by simp [updP]) (by simp; omega) hcc hnc hcap⟩
end Go.PA
