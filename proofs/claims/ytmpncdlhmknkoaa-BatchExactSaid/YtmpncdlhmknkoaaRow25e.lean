/- BatchExact: the row. -/
import Derived.Test.YtmpncdlhmknkoaaArgsUse
import Derived.Test.YtmpncdlhmknkoaaFrame
import Derived.Test.YtmpncdlhmknkoaaLaw25e
set_option linter.unusedSimpArgs false
set_option linter.unusedVariables false
namespace Go.Proofs.Ytmpncdlhmknkoaa
open Go.ChangeShapes Go.WideShapes Go.ChangeAt Go.RowKit
open Go.PA (RepI PFun AV Rep Sh ShsA)

def exact25_sh : List Sh := [.slice (.int .i64), .strct TQueue.shF, .strct TPayment.shF, .slice (.int .i64), .int .i64, .int .i64]
def exact25_wit : Array Value := #[.slice none 0 0, .agg #[.slice none 0 0, .slice none 0 0, .slice none 0 0], .agg #[.int .i64 0, .int .i64 0, .int .i64 0, .int .i64 0, .int .i64 0], .slice none 0 0, .int .i64 0, .int .i64 0]
set_option maxRecDepth 100000 in
theorem exact25_args (av : List AV) (h : ShsA exact25_sh av) : PFun Try.prog none none 7 av (· = bv true) := by
  unfold exact25_sh at h
  obtain ⟨a0, _, rfl, h0, h⟩ := Go.PA.shsA_cons h
  obtain ⟨a1, _, rfl, h1, h⟩ := Go.PA.shsA_cons h
  obtain ⟨a2, _, rfl, h2, h⟩ := Go.PA.shsA_cons h
  obtain ⟨a3, _, rfl, h3, h⟩ := Go.PA.shsA_cons h
  obtain ⟨a4, _, rfl, h4, h⟩ := Go.PA.shsA_cons h
  obtain ⟨a5, _, rfl, h5, h⟩ := Go.PA.shsA_cons h
  cases Go.PA.shsA_nil h
  obtain ⟨xs, rfl, hx, hl⟩ := arg_ints h0
  obtain ⟨_, rfl, h1⟩ := h1
  obtain ⟨raw, rfl, wf⟩ := TQueue.of _ h1
  obtain ⟨_, rfl, h2⟩ := h2
  obtain ⟨c, rfl, _⟩ := TPayment.of _ h2
  obtain ⟨l, rfl, _, _⟩ := arg_ints h3
  obtain ⟨c4, rfl, _⟩ := arg_int h4
  obtain ⟨c5, rfl, _⟩ := arg_int h5
  have hw := wf.2.2.1
  exact exact25_pf xs raw c l c4 c5 hx hl (by simpa [maxLen] using hw)
set_option maxRecDepth 100000 in
theorem exact25_lifted (os : Os) (started : os.Started) (H : Type) (enc : TypeId × Value → H) :
    ReturnsInHanded {} Try.checked os 7 .any (Rows.batchExactSpec.pre6 enc Try.prog Try.f7 Rows.batchExactRow.domain false) (Rows.batchExactSpec.post enc Try.prog Try.f7 false true false false) := by
  refine returnsInHanded_of_change (C := Try.checked) Try.own started (by kernel_rfl) Try.func7
    (ChangeSpec.witness6 (enc := enc) (C := Try.checked) false ⟨#[], exact25_wit, []⟩ 8 (by kernel_rfl) (by kernel_rfl) (by kernel_rfl) (by kernel_rfl)) ?_
  intro W base args ds gs before hval0 hW hcnd _
  have hval : ∀ (j : Nat) t v, Try.f7.params.toList[j]? = some t → args.toList[j]? = some v → Value.okWide Try.prog W .any base t v := fun j t v ht hv => hval0 j t v (by rw [← ht, Array.getElem?_toList]) (by rw [← hv, Array.getElem?_toList])
  have hW' := hW
  obtain ⟨p, q, hA0, hV, rfl, hfz, hnd⟩ := hW
  have hA : DataW.TrodAll enc Try.prog W 0 (fun _ => true) true Try.f7.params.toList args.toList ds p := hA0
  obtain ⟨rfl, rfl⟩ := trodVars_none hV
  have hlt := fun x hx => hW'.lt x hx
  obtain ⟨d0,d1,d2,d3,d4,d5,rfl⟩ := Go.PA.list_len6 (Go.PA.trodAll_dlen _ _ _ _ hA : ds.length = 6)
  obtain ⟨av, hS, hlen, hrep⟩ := Go.PA.args_rep exact25_sh _ args.toList _ p (by kernel_rfl) hval hA
  clear hval0
  refine (exact25_args av hS W (fun b => b < W.heap.size) args (fun b hb => ⟨hb, by simp⟩) ⟨by simp, by simp⟩ (by rw [hlen, Array.length_toList]) (fun i v a hv ha => hrep i v a (by rw [← hv, Array.getElem?_toList]) ha)).mono ?_
  rintro e W' ⟨v, x, rfl, rfl, _, hrep, hg, _⟩
  have hv := Go.PA.rep_sc hrep
  subst hv
  have hb : Below W.heap.size W W' := ⟨hg.os, hg.tape, hg.output, hg.size, fun k hk => hg.block k hk (by simp)⟩
  refine ⟨_, rfl, post_of_below (ds := [d0,d1,d2,d3,d4,d5]) (gs := []) (pa := p) (pv := []) (by simpa using hW') (fun _ _ _ => trodAll_mk1 (shut_bool Try.underlying4 true)) (fun sp hs => ?_) (fun _ _ => rfl) (by simp) hb (ok_one (by kernel_rfl) rfl (okWide_bool_mk Try.underlying4 true))⟩
  have := Go.PA.trodAll_stays (sp := sp) Try.laidOut exact25_sh _ args.toList _ p (by kernel_rfl) hA (fun x hx => hb.same (hlt x (by simp [hx]))) (fun x hx => hs x (by simp [hx]))
  exact this

theorem exact25_holds : Rows.BatchExactSaid :=
  OpenClaim.holds_of_wide 7 Try.f7 rfl rfl rfl rfl rfl rfl rfl ⟨rfl, rfl, rfl, rfl, rfl⟩ rfl rfl rfl rfl rfl (by kernel_rfl) Try.func7 (by kernel_rfl)
    (of_decide_eq_true (by kernel_rfl)) (by unfold Func.isWrapper; first | (rw [if_pos (by decide +kernel)]; kernel_rfl) | (rw [if_neg (by decide +kernel)]; exact ⟨rfl, rfl⟩))
    (fun os started H enc _ => exact25_lifted os started H enc)

end Go.Proofs.Ytmpncdlhmknkoaa
