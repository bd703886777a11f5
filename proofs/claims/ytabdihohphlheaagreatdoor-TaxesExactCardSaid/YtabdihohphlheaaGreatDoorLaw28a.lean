/- TaxesDays. -/
import Derived.Test.YtabdihohphlheaaGreatDoorTax5
set_option linter.unusedSimpArgs false
set_option linter.unusedVariables false
namespace Go.Proofs.YtabdihohphlheaaGreatDoor
open Go.PA
open Go.RowKit

theorem days_gen {t : TTax} (h : GenTax t) : daysD t = (List.range t.Times.toNat).map fun (i : Nat) => openD (t.First + 30 * t.Every * i) := by
  have hk := h.ok.1
  obtain ⟨_, _, _, _, _, ⟨f1, f2⟩, h7, ⟨n1, n2⟩⟩ := h
  simp only [List.mem_cons, List.not_mem_nil, or_false] at h7
  rw [daysD, if_pos hk, daysGo]
  have key : ∀ m : Nat, m ≤ 6 → ((List.range m).filterMap fun (i : Nat) => if (nextD (t.First + 30 * t.Every * i)).2 = 0 then some (nextD (t.First + 30 * t.Every * i)).1 else none) = (List.range m).map fun (i : Nat) => openD (t.First + 30 * t.Every * i) := by
    intro m
    induction m with
    | zero => intro _; rfl
    | succ i ih =>
    intro hi
    rw [List.range_succ, List.filterMap_append, List.map_append, ih (by omega)]
    congr 1
    have b : 0 ≤ t.First + 30 * t.Every * i ∧ t.First + 30 * t.Every * i ≤ 3000 := by
      rcases h7 with e | e | e | e <;> rw [e] <;> omega
    obtain ⟨x, hx⟩ : ∃ x, x = t.First + 30 * t.Every * i := ⟨_, rfl⟩
    rw [← hx] at b
    have e : nextD x = (openD x, 0) := by
      rw [nextD, if_pos]
      unfold openD
      split <;> omega
    simp [← hx, e]
  exact key _ (by omega)

theorem openD_facts (x : Int) (h : 0 ≤ x) : (openD x) % 7 ≤ 4 ∧ x ≤ openD x ∧ openD x ≤ x + 2 := by
  unfold openD
  split <;> omega
theorem openD_mono {x y : Int} (h : x ≤ y) : openD x ≤ openD y := by
  unfold openD
  split <;> split <;> omega

end Go.Proofs.YtabdihohphlheaaGreatDoor
