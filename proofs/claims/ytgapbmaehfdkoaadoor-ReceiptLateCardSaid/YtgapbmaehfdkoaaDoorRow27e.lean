/- ReceiptLate: the card. -/
import Derived.Test.YtgapbmaehfdkoaaDoorCardLibRL
import Derived.Test.YtgapbmaehfdkoaaDoorLaw27e
set_option linter.unusedSimpArgs false
set_option linter.unusedVariables false
namespace Go.Proofs.YtgapbmaehfdkoaaDoor
open Go.ChangeShapes Go.WideShapes Go.ChangeAt Go.RowKit
open Go.PA (RepI PFun AV Rep Sh ShsA)

def late27_sh : List Sh := [.slice (.int .i64)]
def late27_wit : Array Value := #[.slice none 0 0]
set_option maxRecDepth 100000 in
theorem late27_args (av : List AV) (h : ShsA late27_sh av) : PFun Tryd.prog none none 3 av (· = bv true) := by
  unfold late27_sh at h
  obtain ⟨a0, _, rfl, h0, h⟩ := Go.PA.shsA_cons h
  cases Go.PA.shsA_nil h
  obtain ⟨xs, rfl, hx, hl⟩ := arg_ints h0
  exact late27_pf xs hx hl
set_option maxRecDepth 100000 in
theorem late27_lifted (os : Os) (started : os.Started) (H : Type) (enc : TypeId × Value → H) :
    ReturnsInHanded {} Tryd.checked os 3 .any (fun w args => (Rows.receiptLateSpec.pre enc Tryd.prog Tryd.f3 Rows.receiptLateRow.domain false w args ∧ laidMetH Tryd.prog Rows.receiptLateRow.laid w) ∧ sizedMet enc Tryd.prog Tryd.f3 (OpenSpec.ofChange Rows.receiptLateSpec) false w args) (Rows.receiptLateSpec.post enc Tryd.prog Tryd.f3 false true false false) := by
  refine returnsInHanded_of_change_and (C := Tryd.checked) (X := fun w _ => laidMetH Tryd.prog Rows.receiptLateRow.laid w) (fun _ _ _ hh h => h.of_heap hh) Tryd.own started (by kernel_rfl) Tryd.func3
    (ChangeSpec.witness_shaped (enc := enc) (C := Tryd.checked) (os := os) (X := fun w _ => laidMetH Tryd.prog Rows.receiptLateRow.laid w) false (World.laidAll Tryd.prog os Rows.receiptLateRow.laid) late27_wit 8 (World.laidAll_os _ _ _)
      (World.shaped_of_ZipB (by kernel_rfl) (by kernel_rfl)) (by kernel_rfl) (by kernel_rfl) (by kernel_rfl)
      (by rw [MakeChecks.laidMetH_plain _ _ _ (by kernel_rfl)]; exact laidMet_laidAll _ (by kernel_rfl) (by kernel_rfl))) ?_
  intro W base args ds gs before hval0 hW hcnd _ hL _
  have hval : ∀ (j : Nat) t v, Tryd.f3.params.toList[j]? = some t → args.toList[j]? = some v → Value.okWide Tryd.prog W .any base t v := fun j t v ht hv => hval0 j t v (by rw [← ht, Array.getElem?_toList]) (by rw [← hv, Array.getElem?_toList])
  have hW' := hW
  obtain ⟨p, q, hA0, hV, rfl, hfz, hnd⟩ := hW
  have hA : DataW.TrodAll enc Tryd.prog W 0 (fun _ => true) true Tryd.f3.params.toList args.toList ds p := hA0
  obtain ⟨rfl, rfl⟩ := trodVars_none hV
  have hlt := fun x hx => hW'.lt x hx
  obtain ⟨d0,rfl⟩ := Go.PA.list_len1 (Go.PA.trodAll_dlen _ _ _ _ hA : ds.length = 1)
  obtain ⟨av, hS, hlen, hrep⟩ := Go.PA.args_rep late27_sh _ args.toList _ p (by kernel_rfl) hval hA
  clear hval0
  refine (late27_args av hS W (fun b => b < W.heap.size) args (fun b hb => ⟨hb, by simp⟩) ⟨⟨by simp, glob_ok hL⟩, by simp⟩ (by rw [hlen, Array.length_toList]) (fun i v a hv ha => hrep i v a (by rw [← hv, Array.getElem?_toList]) ha)).mono ?_
  rintro e W' ⟨v, x, rfl, rfl, _, hrep, hg, _⟩
  have hv := Go.PA.rep_sc hrep
  subst hv
  have hb : Below W.heap.size W W' := ⟨hg.os, hg.tape, hg.output, hg.size, fun k hk => hg.block k hk (by simp)⟩
  refine ⟨_, rfl, post_of_below (ds := [d0]) (gs := []) (pa := p) (pv := []) (by simpa using hW') (fun _ _ _ => trodAll_mk1 (shut_bool Tryd.underlying4 true)) (fun sp hs => ?_) (fun _ _ => rfl) (by simp) hb (ok_one (by kernel_rfl) rfl (okWide_bool_mk Tryd.underlying4 true))⟩
  have := Go.PA.trodAll_stays (sp := sp) Tryd.laidOut late27_sh _ args.toList _ p (by kernel_rfl) hA (fun x hx => hb.same (hlt x (by simp [hx]))) (fun x hx => hs x (by simp [hx]))
  exact this

theorem late27_holds : Rows.ReceiptLateSaid :=
  OpenClaim.holds_of_wide 3 Tryd.f3 rfl rfl rfl rfl rfl rfl rfl ⟨rfl, rfl, rfl, rfl, rfl⟩ rfl rfl rfl rfl rfl (by kernel_rfl) Tryd.func3 (by kernel_rfl)
    (of_decide_eq_true (by kernel_rfl)) (by unfold Func.isWrapper; first | (rw [if_pos (by decide +kernel)]; kernel_rfl) | (rw [if_neg (by decide +kernel)]; exact ⟨rfl, rfl⟩))
    (fun os started H enc _ => late27_lifted os started H enc)

theorem late27_plain (f : FuncId) (fn : Func) (hf : Tryd.pinned.checked.prog.funcNamed "treasury/treasurylaw27.ReceiptLate" = some f) (hfn : Tryd.pinned.checked.prog.funcs[f]? = some fn) :
    true = Tryd.pinned.checked.prog.looks [] ∧ ∀ (j : Nat) t, fn.params[j]? = some t → Tryd.pinned.checked.prog.wantsStandIn t = false := by
  obtain rfl : f = 3 := Option.some.inj ((show Tryd.prog.funcNamed "treasury/treasurylaw27.ReceiptLate" = some 3 by kernel_rfl).symm.trans hf) |>.symm
  obtain rfl : fn = Tryd.f3 := (Option.some.inj (Tryd.func3.symm.trans hfn)).symm
  refine ⟨by kernel_rfl, fun j t ht => ?_⟩
  have hm : t ∈ Tryd.f3.params.toList := by simpa using Array.mem_of_getElem? ht
  have hall : (Tryd.f3.params.toList.all fun u => !Tryd.prog.wantsStandIn u) = true := by kernel_rfl
  exact (show Tryd.prog.wantsStandIn t = false by simpa using List.all_eq_true.1 hall t hm)
theorem late27_card : Rows.ReceiptLateCardSaid :=
  Claim7.holds_tied_plain_at .later [] _ _ _ _ late27_holds (fun _ h => by cases h) (by kernel_rfl) (fun _ h => by cases h) receiptLate_row_tie rfl ⟨rfl, rfl⟩ (by kernel_rfl) rfl late27_plain (by kernel_rfl)

end Go.Proofs.YtgapbmaehfdkoaaDoor
