/- BatchOrder: the row. -/
import Derived.Test.YtmpncdlhmknkoaaFrame
import Derived.Test.YtmpncdlhmknkoaaLaw25c
set_option linter.unusedSimpArgs false
namespace Go.Proofs.Ytmpncdlhmknkoaa
open Go.ChangeShapes Go.WideShapes Go.ChangeAt Go.RowKit
open Go.PA (RepI PFun AV Rep)
set_option maxRecDepth 100000 in
theorem order25_lifted (os : Os) (started : os.Started) (H : Type) (enc : TypeId × Value → H) :
    ReturnsInHanded {} Try.checked os 4 .any (Rows.batchOrderSpec.pre6 enc Try.prog Try.f4 Rows.batchOrderRow.domain false) (Rows.batchOrderSpec.post enc Try.prog Try.f4 false true false false) := by
  refine returnsInHanded_of_change (C := Try.checked) Try.own started (by kernel_rfl) Try.func4
    (ChangeSpec.witness6 (enc := enc) (C := Try.checked) false ⟨#[], #[.slice none 0 0, .int .u8 0], []⟩ 8 (by kernel_rfl) (by kernel_rfl) (by kernel_rfl) (by kernel_rfl)) ?_
  intro W base args ds gs before hval0 hW hcnd _
  have hval : ∀ (j : Nat) t v, Try.f4.params[j]? = some t → args[j]? = some v → Value.okWide Try.prog W .any base t v := hval0
  have hW' := hW
  obtain ⟨p, q, hA0, hV, rfl, hfz, hnd⟩ := hW
  have hA : DataW.TrodAll enc Try.prog W 0 (fun _ => true) true Try.f4.params.toList args.toList ds p := hA0
  rw [Try.params4] at hA hval
  obtain ⟨v0, v1, d0, d1, p0, p1, rfl, rfl, rfl, h0, h1⟩ := trodAll_two hA
  obtain ⟨rfl, rfl⟩ := trodVars_none hV
  have hlt := fun x hx => hW'.lt x hx
  obtain ⟨xs, hr, hsm, hl⟩ := ints_rep (hval 0 22 v0 rfl rfl) h0 (fun x hx => hlt x (by simp [hx]))
  obtain ⟨m, rfl, rfl, rfl, wm⟩ := open_int Try.underlying5 (hval 1 5 v1 rfl rfl) h1
  have wm' : 0 ≤ m ∧ m ≤ 255 := by
    simp only [Lit.wf, Bool.and_eq_true, decide_eq_true_eq] at wm
    exact wm
  clear hA0 hval0
  obtain ⟨m, rfl⟩ := Int.eq_ofNat_of_zero_le wm'.1
  refine (order25_pf xs m hsm hl (by omega) W (fun b => b < W.heap.size) _ (fun b hb => ⟨hb, by simp⟩) ⟨by simp, by simp⟩ rfl ?_).mono ?_
  · intro i v a hv ha
    match i, hv, ha with
    | 0, hv, ha => simp at hv ha; subst hv; subst ha; exact hr
    | 1, hv, ha => simp at hv ha; subst hv; subst ha; exact .sc
    | i + 2, hv, ha => simp at ha
  rintro e W' ⟨v, x, rfl, rfl, _, hrep, hg, _⟩
  have hv := Go.PA.rep_sc hrep
  subst hv
  have hb : Below W.heap.size W W' := ⟨hg.os, hg.tape, hg.output, hg.size, fun k hk => hg.block k hk (by simp)⟩
  refine ⟨_, rfl, post_of_below (ds := [d0, .lit (.int .u8 m)]) (gs := []) (pa := p0) (pv := []) (by simpa using hW') (fun _ _ _ => trodAll_mk1 (shut_bool Try.underlying4 true)) (fun sp hs => ?_) (fun _ _ => rfl) (by simp) hb (ok_one (by kernel_rfl) rfl (okWide_bool_mk Try.underlying4 true))⟩
  have hs0 : ∀ x ∈ p0, sp x.block = true := fun x hx => hs x (by simp [hx])
  have t0 := WideElems.Trod_stays (sp' := sp) Try.laidOut (t := 22) (by kernel_rfl) (of_decide_eq_true (by kernel_rfl)) h0 (fun x hx => hb.same (hlt x (by simp [hx]))) hs0
  have := trodAll_mk2 t0 (shut_int (enc := enc) (w := W') (base := 0) (spare := sp) (held := true) Try.underlying5 wm)
  rw [List.append_nil] at this
  exact this

theorem order25_holds : Rows.BatchOrderSaid :=
  OpenClaim.holds_of_wide 4 Try.f4 rfl rfl rfl rfl rfl rfl rfl ⟨rfl, rfl, rfl, rfl, rfl⟩ rfl rfl rfl rfl rfl (by kernel_rfl) Try.func4 (by kernel_rfl)
    (of_decide_eq_true (by kernel_rfl)) (by unfold Func.isWrapper; first | (rw [if_pos (by decide +kernel)]; kernel_rfl) | (rw [if_neg (by decide +kernel)]; exact ⟨rfl, rfl⟩))
    (fun os started H enc _ => order25_lifted os started H enc)


end Go.Proofs.Ytmpncdlhmknkoaa
