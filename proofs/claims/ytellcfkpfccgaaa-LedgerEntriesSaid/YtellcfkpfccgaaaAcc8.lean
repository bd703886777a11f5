/- Accounts: the rest of the program's functions. -/
import Derived.Test.YtellcfkpfccgaaaAcc7
set_option linter.unusedSimpArgs false
set_option linter.unusedVariables false
namespace Go.Proofs.Ytellcfkpfccgaaa
open Go.PA
open Go.RowKit

theorem replay_prefix {credit : Int} {n d : Int} {l : List TSub} {es : List TEntry} {r : Int × Int × List TSub} (h : replayS credit n d l es = some r) (w : TEntry → Bool) : ∃ x, replayS credit n d l (es.takeWhile w) = some x := by
  rw [← List.takeWhile_append_dropWhile (p := w) (l := es), replayS_app] at h
  cases hx : replayS credit n d l (es.takeWhile w) with
  | none => rw [hx] at h; cases h
  | some x => exact ⟨x, rfl⟩
theorem until_replay {a : TAccount} (h : checkA a = 0) (day : Int) : ∃ x, replayW a (early day) = some x ∧ untilR a day = (x.2.2, 0) := by
  obtain ⟨_, _, _, _, h5⟩ := check_ok h
  obtain ⟨x, hx⟩ := replay_prefix h5 (early day)
  refine ⟨x, hx, ?_⟩
  rcases runE_replay a.Credit (a.Entries.takeWhile (early day)) zeroE (zeroS a.Subs) with ⟨r, hr, hrun⟩ | ⟨hr, _⟩
  · have : some r = some x := hr.symm.trans hx
    simp only [Option.some.injEq] at this
    subst this
    exact hrun
  · have : none = some x := hr.symm.trans hx
    cases this

theorem agree_live {D : Nat → Bool} {X : List Nat} {H H' : Heap} (hk : Kept X H H') (hD : ∀ i, D i = true → i ∉ X ∧ ∃ o, H[i]? = some (some o)) : Agree D H H' := fun i hi => by
  obtain ⟨h1, o, ho⟩ := hD i hi
  rw [ho, hk i o h1 ho]

end Go.Proofs.Ytellcfkpfccgaaa
