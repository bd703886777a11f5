/- RecallSends: the row. -/
import Derived.Test.YtmpncdlhmknkoaaGreatPk9
set_option linter.unusedSimpArgs false
set_option linter.unusedVariables false
namespace Go.Proofs.YtmpncdlhmknkoaaGreat
open Go.ChangeShapes Go.WideShapes Go.ChangeAt Go.RowKit
open Go.PA (RepI PFun AV Rep)
set_option maxRecDepth 100000 in
theorem sends26_lifted (os : Os) (started : os.Started) (H : Type) (enc : TypeId × Value → H) :
    ReturnsInHanded {} Tryz.checked os 4 .any (Rows.recallSendsSpec.pre6 enc Tryz.prog Tryz.f4 Rows.recallSendsRow.domain false) (Rows.recallSendsSpec.post enc Tryz.prog Tryz.f4 false true false false) := by
  refine returnsInHanded_of_change (C := Tryz.checked) Tryz.own started (by kernel_rfl) Tryz.func4
    (ChangeSpec.witness6 (enc := enc) (C := Tryz.checked) false ⟨#[], #[.slice none 0 0], []⟩ 8 (by kernel_rfl) (by kernel_rfl) (by kernel_rfl) (by kernel_rfl)) ?_
  intro W base args ds gs before hval0 hW hcnd _
  have hval : ∀ (j : Nat) t v, Tryz.f4.params[j]? = some t → args[j]? = some v → Value.okWide Tryz.prog W .any base t v := hval0
  have hW' := hW
  obtain ⟨p, q, hA0, hV, rfl, hfz, hnd⟩ := hW
  have hA : DataW.TrodAll enc Tryz.prog W 0 (fun _ => true) true Tryz.f4.params.toList args.toList ds p := hA0
  rw [Tryz.params4] at hA hval
  obtain ⟨v0, d0, rfl, rfl, h0⟩ := trodAll_one hA
  obtain ⟨rfl, rfl⟩ := trodVars_none hV
  have hlt := fun x hx => hW'.lt x hx
  obtain ⟨xs, hr, hsm, hl⟩ := ints_rep (hval 0 22 v0 rfl rfl) h0 (fun x hx => hlt x (by simp [hx]))
  clear hA0 hval0
  refine (sends26_pf xs hsm hl W (fun b => b < W.heap.size) _ (fun b hb => ⟨hb, by simp⟩) ⟨by simp, by simp⟩ rfl ?_).mono ?_
  · intro i v a hv ha
    match i, hv, ha with
    | 0, hv, ha => simp at hv ha; subst hv; subst ha; exact hr
    | i + 1, hv, ha => simp at ha
  rintro e W' ⟨v, x, rfl, rfl, _, hrep, hg, _⟩
  have hv := Go.PA.rep_sc hrep
  subst hv
  have hb : Below W.heap.size W W' := ⟨hg.os, hg.tape, hg.output, hg.size, fun k hk => hg.block k hk (by simp)⟩
  refine ⟨_, rfl, post_of_below (ds := [d0]) (gs := []) (pa := p) (pv := []) (by simpa using hW') (fun _ _ _ => trodAll_mk1 (shut_bool Tryz.underlying4 true)) (fun sp hs => ?_) (fun _ _ => rfl) (by simp) hb (ok_one (by kernel_rfl) rfl (okWide_bool_mk Tryz.underlying4 true))⟩
  have hs0 : ∀ x ∈ p, sp x.block = true := fun x hx => hs x (by simp [hx])
  have t0 := WideElems.Trod_stays (sp' := sp) Tryz.laidOut (t := 22) (by kernel_rfl) (of_decide_eq_true (by kernel_rfl)) h0 (fun x hx => hb.same (hlt x (by simp [hx]))) hs0
  exact trodAll_mk1 t0
theorem sends26_holds : Rows.RecallSendsSaid :=
  OpenClaim.holds_of_wide 4 Tryz.f4 rfl rfl rfl rfl rfl rfl rfl ⟨rfl, rfl, rfl, rfl, rfl⟩ rfl rfl rfl rfl rfl (by kernel_rfl) Tryz.func4 (by kernel_rfl)
    (of_decide_eq_true (by kernel_rfl)) (by unfold Func.isWrapper; first | (rw [if_pos (by decide +kernel)]; kernel_rfl) | (rw [if_neg (by decide +kernel)]; exact ⟨rfl, rfl⟩))
    (fun os started H enc _ => sends26_lifted os started H enc)
end Go.Proofs.YtmpncdlhmknkoaaGreat
