/- The frame: from a law's walk to its row. -/
import Derived.Test.YtkcfmmpcpdlfeaaGreatDoorPlayAll
import Derived.Test.YtkcfmmpcpdlfeaaGreatDoorRows
import Derived.ProofKit
import Derived.Below
import Derived.Carry
import Derived.ChangeSame
set_option linter.unusedSimpArgs false
set_option maxRecDepth 100000
namespace Go.Proofs.YtkcfmmpcpdlfeaaGreatDoor
open Go.RowKit Go.WideShapes Go.ChangeShapes
open Go.PA (RepI PFun AV Rep)

section
variable {H : Type} {enc : TypeId × Value → H} {P : Program}
theorem post_of_below {f : Func} {s : ChangeSpec} {apart fresh handsOn again : Bool} {W W' : World} {args : Array Value} {v : Value} {ds gs : List (DataW H)} {before pa pv : List MemPlace}
    (hW : DataW.Whole enc P f.params.toList s.vars apart W args.toList ds gs before)
    (hres : ∀ (b : Nat) (sp : Nat → Bool) (hd : Bool), DataW.TrodAll enc P W' b sp hd f.resultTypes.toList (v.resultList f.resultTypes.size) (s.fn H (ds ++ gs)).results [])
    (hargs : ∀ sp : Nat → Bool, (∀ p ∈ before, sp p.block = true) → DataW.TrodAll enc P W' 0 sp true f.params.toList args.toList (s.fn H (ds ++ gs)).args pa)
    (hvars : ∀ sp : Nat → Bool, (∀ p ∈ before, sp p.block = true) → DataW.TrodVars enc P W' sp s.vars (s.fn H (ds ++ gs)).vars pv)
    (hps : before = pa ++ pv) (hb : Below W.heap.size W W')
    (hok : ∀ (j : Nat) (t : TypeId) (r : Value), f.resultTypes[j]? = some t → (v.resultList f.resultTypes.size)[j]? = some r → Value.okWide P W' .any 0 t r) :
    s.post enc P f apart fresh handsOn again W args v W' := by
  have hlt : ∀ p ∈ before, p.block < W.heap.size := fun p hp => hW.lt p hp
  have hold : ∀ p ∈ before, (fun b => decide (b < W.heap.size)) p.block = true := fun p hp => by simpa using hlt p hp
  refine ⟨ds, gs, before, [], pa, pv, hW, hres _ _ _, hargs _ hold, hvars _ hold, World.keptBut_mono (fun p hp => ⟨hp, ?_⟩) (hb.frame (· ∈ before)), fun _ => ?_⟩
  · rw [hps, List.mem_append] at hp
    exact Or.inr hp
  · obtain ⟨_, _, _, _, _, hz, hn⟩ := hW
    refine ⟨hok, _, _, ([] ++ pa) ++ pv, ⟨[] ++ pa, pv, trodAll_append (hargs _ (fun _ _ => rfl)) (hres _ _ _), hvars _ (fun _ _ => rfl), rfl, ?_, ?_⟩, ?_⟩
    · intro b off hp
      have hin : MemPlace.cell b off ∈ before := by rw [hps]; simpa using hp
      rw [hb.frozen (hlt _ hin)]
      exact hz b off hin
    · intro ha
      have := hn ha
      rw [hps] at this
      simpa using this
    · intro p hp _
      rw [hps]
      simpa using hp
end

theorem Tryz.own : ownKnob Tryz.prog.godebug = none := by kernel_rfl
theorem Tryz.laidOut : laidOutB Tryz.prog = true := by kernel_rfl

theorem block_add' (a : Addr) (n : Nat) : (a.add n).block = a.block := Go.PA.block_add a n
/-- An argument of type int slice, as the walks see it. -/
theorem ints_rep {H : Type} {enc : TypeId × Value → H} {W : World} {r : Reach} {b0 : Nat} {v : Value} {d : DataW H} {ps : List MemPlace} (hval : Value.okWide Tryz.prog W r b0 22 v) (h : DataW.Trod enc Tryz.prog W 0 (fun _ => true) true 22 v d ps) (hlt : ∀ x ∈ ps, x.block < W.heap.size) :
    ∃ xs : List Int, RepI W (fun b => b < W.heap.size) v (intsL xs) ∧ Small xs ∧ xs.length ≤ 9223372036854775807 := by
  obtain ⟨A, n, c, rfl⟩ := okWide_slice Tryz.underlying22 hval
  obtain ⟨fuel, hf⟩ := h
  rcases open_ints Tryz.underlying22 Tryz.underlying3 (by kernel_rfl : Tryz.prog.cellsOf 3 = 1) hf with ⟨hcs, hx⟩ | ⟨a, len, cap, zs, hcs, _, hl, hm, hz, hx, hcell, hwz⟩
  · simp [Value.cells] at hcs
    obtain ⟨rfl, rfl, rfl⟩ := hcs
    exact ⟨[], .listNil, by simp [Small], by simp⟩
  · simp [Value.cells] at hcs
    obtain ⟨rfl, rfl, rfl⟩ := hcs
    simp only [Prod.mk.injEq] at hx
    obtain ⟨rfl, rfl⟩ := hx
    simp only [if_true] at hz
    have hmem : ∀ i, i < zs.length → zs.getD i 0 ∈ zs := fun i hi => by
      rw [List.getD_eq_getElem?_getD, List.getElem?_eq_getElem hi]
      exact List.getElem_mem hi
    have hsm : ∀ z, z ∈ zs → -9223372036854775808 ≤ z ∧ z ≤ 9223372036854775807 := fun z hz => by
      have := hwz z hz
      simp only [Lit.wf, Bool.and_eq_true, decide_eq_true_eq] at this
      exact this
    have hn : (zs.take n).length = n := by rw [List.length_take]; omega
    have hml : maxLen ≤ 9223372036854775807 := by decide
    refine ⟨zs.take n, ?_, fun z hz => hsm z (List.mem_of_mem_take hz), by omega⟩
    by_cases h0 : n = 0
    · subst h0
      simp only [List.take_zero]
      exact .listNil
    have hblk : a.block < W.heap.size := by
      have := hcell 0 (by omega)
      simp only [World.cell?] at this
      split at this
      · rename_i hb
        rw [block_add'] at hb
        exact (Array.getElem?_eq_some_iff.1 hb).1
      · cases this
    have key : ∀ (i : Nat) (e : List AV), ((zs.take n).map fun x => [iv x])[i]? = some e → i < n ∧ e = [iv (zs.getD i 0)] := fun i e he => by
      rw [List.getElem?_map, Option.map_eq_some_iff] at he
      obtain ⟨z, hz', rfl⟩ := he
      have hi : i < n := by
        have := (List.getElem?_eq_some_iff.1 hz').1
        omega
      rw [List.getElem?_take, if_pos hi] at hz'
      exact ⟨hi, by simp [hz']⟩
    refine .list (fun i _ => .int .i64 (zs.getD i 0)) (by simpa using hn) hl hblk (fun e he => ?_) ?_ ?_ ?_
    · obtain ⟨i, hi⟩ := List.getElem?_of_mem he
      rw [(key i e hi).2]
      rfl
    · intro i e j x he hj
      obtain ⟨hi, rfl⟩ := key i e he
      match j, hj with
      | 0, hj => simpa using hcell i (by omega)
      | j + 1, hj => simp at hj
    · intro i e j x he hj; rfl
    · intro i e j x he hj
      obtain ⟨hi, rfl⟩ := key i e he
      match j, hj with
      | 0, hj =>
        simp at hj
        subst hj
        exact .sc
      | j + 1, hj => simp at hj

end Go.Proofs.YtkcfmmpcpdlfeaaGreatDoor
