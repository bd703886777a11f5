/- The library's functions at an account's types. -/
import Derived.Test.YtellcfkpfccgaaaPlayAll
set_option linter.unusedSimpArgs false
set_option linter.unusedVariables false
namespace Go.Proofs.Ytellcfkpfccgaaa
open Go.PA
open Go.RowKit
theorem index_m_sub {row src : Option Nat} (l : List TSub) (x : AV) (H : Heap) (g : FuncId) (caps : List AV) (p : TSub → Bool) (hx : SlIs H x 2 (encL TSub.cells l)) (hl : l.length ≤ 1000000) (hen : enterable Try.prog g = true)
    (hg : ∀ a, a ∈ l → ∀ H', Kept [] H H' → MFun Try.prog row src g (.agg (TSub.cells a) :: caps) H' (fun r H'' => r = bv (p a) ∧ Kept [] H' H'')) :
    MFun Try.prog row src 134 [x, .fn g caps] H (fun r H' => r = iv (idxI p l) ∧ Kept [] H H') := by
  refine mfun_intro Try.func134 rfl (by simp [Try.f134]) (by kernel_rfl) ⟨_, H, rfl, kept_refl _ _⟩ ?_
  intro E hP hr hs hN
  have hlen := hx.len
  rw [encL_len] at hlen
  simp -dsimp -implicitDefEqProofs [-getElem?_pos, go_sem, hP, hlen]
  obtain ⟨I, hI⟩ : ∃ I : Nat → St → Prop, I = fun m s => ∃ k : Nat, k ≤ l.length ∧ m = l.length - k ∧ idxI p l = idxFrom p k (l.drop k) ∧ s.t 0 = x ∧ s.t 1 = .fn g caps ∧ s.t 7 = iv l.length ∧ s.t 8 = iv k ∧ Kept [] H s.H := ⟨_, rfl⟩
  refine aloop0 I l.length (by rw [hN]; rfl) ?_ ?_
  · rw [hI]
    exact ⟨0, by omega, by omega, by simp [idxI], by simp -dsimp -implicitDefEqProofs [-getElem?_pos, go_sem], by simp -dsimp -implicitDefEqProofs [-getElem?_pos, go_sem], by simp -dsimp -implicitDefEqProofs [-getElem?_pos, go_sem], by simp -dsimp -implicitDefEqProofs [-getElem?_pos, go_sem], by simp -dsimp -implicitDefEqProofs [-getElem?_pos, go_sem]; exact kept_refl _ _⟩
  intro m s hs'
  rw [hI] at hs'
  obtain ⟨k, hk, hm, hi, t0, t1, t7, t8, hKp⟩ := hs'
  simp -dsimp -implicitDefEqProofs [-getElem?_pos, go_sem, hP, t7, t8]
  refine condP (fun h => ?_) (fun h => ?_)
  · have hk : k < l.length := by simpa using h
    obtain ⟨a, ha⟩ : ∃ a, l[k]? = some a := ⟨_, List.getElem?_eq_getElem hk⟩
    have wk := wrap_in ((k : Int) + 1) (by omega)
    obtain ⟨ad, h1, h2⟩ := (hx.kept hKp).idx (P := Try.prog) (t := 87) (e := 96) el_87 (by rw [sz_96]) kn_96 k (by rw [encL_len]; exact hk)
    have h2' : addrCells s.H ad = some (TSub.cells a) := by
      rw [h2]
      have := encL_get TSub.cells l k
      rw [ha, List.getElem?_eq_getElem (by rw [encL_len]; exact hk)] at this
      exact this
    have hz : (TSub.cells a).take 2 = TSub.cells a := List.take_of_length_le (by rw [TSub.len]; omega)
    simp -dsimp -implicitDefEqProofs [-getElem?_pos, go_sem, hP, t8, t1, t0, h1, h2', TSub.len, hz]
    have hd : l.drop k = a :: l.drop (k + 1) := by
      rw [List.getElem?_eq_getElem hk] at ha
      rw [List.drop_eq_getElem_cons hk, Option.some.inj ha]
    refine callB_m (by rw [hr, hs]; exact hg a (List.mem_of_getElem? ha) s.H hKp) hP hen ?_
    rintro r H' ⟨rfl, hK2⟩
    rw [hd] at hi
    simp only [idxFrom] at hi
    simp -dsimp -implicitDefEqProofs [-getElem?_pos, go_sem, hP]
    refine condP (fun hp => ?_) (fun hp => ?_)
    · rw [if_pos hp] at hi
      simp -dsimp -implicitDefEqProofs [-getElem?_pos, go_sem, hP]
      exact ⟨hi.symm, hKp.trans hK2⟩
    · rw [hp, if_neg (by simp)] at hi
      simp -dsimp -implicitDefEqProofs [-getElem?_pos, go_sem, hP, t8, wk]
      refine ⟨l.length - (k + 1), by omega, ?_⟩
      rw [hI]
      exact ⟨k + 1, by omega, rfl, hi, by simp -dsimp -implicitDefEqProofs [-getElem?_pos, go_sem, t0], by simp -dsimp -implicitDefEqProofs [-getElem?_pos, go_sem, t1], by simp -dsimp -implicitDefEqProofs [-getElem?_pos, go_sem, t7], by simp -dsimp -implicitDefEqProofs [-getElem?_pos, go_sem], by simp -dsimp -implicitDefEqProofs [-getElem?_pos, go_sem]; exact hKp.trans hK2⟩
  · have hk : k = l.length := by simp at h; omega
    subst hk
    rw [List.drop_length] at hi
    simp -dsimp -implicitDefEqProofs [-getElem?_pos, go_sem, hP]
    exact ⟨hi.symm, hKp⟩

end Go.Proofs.Ytellcfkpfccgaaa
