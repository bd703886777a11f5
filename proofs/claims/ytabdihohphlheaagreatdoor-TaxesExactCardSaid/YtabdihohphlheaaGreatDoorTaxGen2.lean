/- The source of numbers: lists of taxes. -/
import Derived.Test.YtabdihohphlheaaGreatDoorTaxGen
import Derived.Test.YtabdihohphlheaaGreatDoorTax3
set_option linter.unusedSimpArgs false
set_option linter.unusedVariables false
namespace Go.Proofs.YtabdihohphlheaaGreatDoor
open Go.PA
open Go.RowKit

def TaxesQ (n : Nat) (x : AV) : Prop := ∃ l : List TTax, x = taxesL l ∧ l.length ≤ n ∧ ∀ t, t ∈ l → GenTax t
theorem taxesQ_ex (n : Nat) : ∃ r, TaxesQ n r ∧ Imm r := ⟨_, ⟨[], rfl, by simp, by simp⟩, imm_taxes []⟩
theorem staxes_pf (p : Nat) (src : Option Nat) (n : Nat) (hn : n ≤ 100) : PFun Tryz.prog (some p) src 7 [sp p, iv n] (TaxesQ n) := by
  refine pfun_intro Tryz.func7 rfl (by simp [Tryz.f7]) (by kernel_rfl) ?_
  intro E hP hr hs hW hN
  have up : ∀ {f : FuncId} {args : List AV} {Q : AV → Prop}, PFun Tryz.prog (some p) src f args Q → PFun Tryz.prog E.row E.src f args Q := fun h => hr ▸ hs ▸ h
  have w1 := wrap_in ((n : Int) + 1) (by omega)
  simp -dsimp -implicitDefEqProofs [-getElem?_pos, go_sem, hP, w1]
  refine callB_flat (up (N_pf p src ((n : Int) + 1) (by omega))) hP en_9 (args_same (by simp -dsimp -implicitDefEqProofs [-getElem?_pos, go_sem])) (NQ_ex _) (NQ_flat _) ?_
  rintro r ⟨z, rfl, _, hz⟩
  have hz := hz (by omega)
  obtain ⟨c, rfl⟩ : ∃ c : Nat, z = c := ⟨z.toNat, by omega⟩
  simp -dsimp -implicitDefEqProofs [-getElem?_pos, go_sem, hP]
  refine aloop_own 5 30 8 (by simp -dsimp -implicitDefEqProofs [-getElem?_pos, go_sem]) ?_
  obtain ⟨I, hI⟩ : ∃ I : Nat → St → Prop, I = fun m s => ∃ (id : Nat) (l : List TTax), m ≤ c ∧ l.length + m = c ∧ (∀ t, t ∈ l → GenTax t) ∧ s.t 0 = sp p ∧ s.t 5 = .sref id 0 l.length ∧ s.t 6 = iv m ∧ s.H[id]? = some (some ⟨30, 8, encL TTax.cells l⟩) := ⟨_, rfl⟩
  refine aloop0 I (c) (by rw [hN]; rfl) ?_ ?_
  · rw [hI]
    exact ⟨0, [], by omega, by simp, by simp, by simp -dsimp -implicitDefEqProofs [-getElem?_pos, go_sem], by simp -dsimp -implicitDefEqProofs [-getElem?_pos, go_sem], by simp -dsimp -implicitDefEqProofs [-getElem?_pos, go_sem], by simp -dsimp -implicitDefEqProofs [-getElem?_pos, go_sem, encL]⟩
  intro m s hs'
  rw [hI] at hs'
  obtain ⟨id, l, hk, hl, hg, t0, t5, t6, hH⟩ := hs'
  have ltH := (List.getElem?_eq_some_iff.1 hH).1
  simp -dsimp -implicitDefEqProofs [-getElem?_pos, go_sem, hP, t6]
  refine condP (fun h => ?_) (fun h => ?_)
  · have hm : 0 < m := by simpa using h
    have wm := wrap_in ((m : Int) - 1) (by omega)
    simp -dsimp -implicitDefEqProofs [-getElem?_pos, go_sem, hP, t5, t0]
    refine callB_isQ (Q := TaxQ) (up (stax_pf p src)) hP en_8 (by simp -dsimp -implicitDefEqProofs [-getElem?_pos, go_sem]) taxQ_ex ?_
    rintro r ⟨t, rfl, ht⟩ _
    simp -dsimp -implicitDefEqProofs [-getElem?_pos, go_sem, hP, cTx, hH, ltH, t6, wm]
    refine ⟨by omega, by omega, m - 1, by omega, ?_⟩
    rw [hI]
    refine ⟨s.H.length, l ++ [t], by omega, by simp; omega, ?_, by simp -dsimp -implicitDefEqProofs [-getElem?_pos, go_sem, t0], by simp -dsimp -implicitDefEqProofs [-getElem?_pos, go_sem], ?_, by simp -dsimp -implicitDefEqProofs [-getElem?_pos, go_sem, encL, cTx]⟩
    · intro u hu
      rcases List.mem_append.1 hu with hu | hu
      · exact hg u hu
      · rw [List.mem_singleton.1 hu]; exact ht
    · simp -dsimp -implicitDefEqProofs [-getElem?_pos, go_sem, hP]
      omega
  · have hm : m = 0 := by
      have : ¬ 0 < m := by simpa using h
      omega
    simp -dsimp -implicitDefEqProofs [-getElem?_pos, go_sem, hP, t5]
    refine done (x := taxesL l) ?_ ⟨l, rfl, by omega, hg⟩ ?_ <;> rw [view_sref, hH, viewS_some]
    · rw [List.drop_zero, List.take_of_length_le (by simp [encL])]
      exact imm_taxes l
    · rw [List.drop_zero, List.take_of_length_le (by simp [encL])]
theorem genFit {l : List TTax} (h : ∀ t, t ∈ l → GenTax t) : FitT l := fun t ht => by have := (h t ht).ok.2; omega
end Go.Proofs.YtabdihohphlheaaGreatDoor
