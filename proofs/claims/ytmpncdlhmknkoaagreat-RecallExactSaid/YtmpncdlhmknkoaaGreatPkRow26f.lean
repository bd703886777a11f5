/- RecallExact: the row. -/
import Derived.Test.YtmpncdlhmknkoaaGreatPk9
set_option linter.unusedSimpArgs false
set_option linter.unusedVariables false
namespace Go.Proofs.YtmpncdlhmknkoaaGreat
open Go.ChangeShapes Go.WideShapes Go.ChangeAt Go.RowKit
open Go.PA (RepI PFun AV Rep Sh ShsA)
def exact26_sh : List Sh := [.slice (.int .i64), .strct TDesk.shF, .strct TPayment.shF, .int .i64, .int .i64]
def exact26_wit : Array Value := #[.slice none 0 0, .agg #[.int .i64 0, .slice none 0 0, .slice none 0 0, .slice none 0 0, .slice none 0 0, .slice none 0 0, .slice none 0 0], .agg #[.int .i64 0, .int .i64 0, .int .i64 0, .int .i64 0, .int .i64 0], .int .i64 0, .int .i64 0]
set_option maxRecDepth 100000 in
theorem exact26_args (av : List AV) (h : ShsA exact26_sh av) : PFun Tryz.prog none none 8 av (· = bv true) := by
 unfold exact26_sh at h
 obtain ⟨a0, _, rfl, h0, h⟩ := Go.PA.shsA_cons h
 obtain ⟨a1, _, rfl, h1, h⟩ := Go.PA.shsA_cons h
 obtain ⟨a2, _, rfl, h2, h⟩ := Go.PA.shsA_cons h
 obtain ⟨a3, _, rfl, h3, h⟩ := Go.PA.shsA_cons h
 obtain ⟨a4, _, rfl, h4, h⟩ := Go.PA.shsA_cons h
 cases Go.PA.shsA_nil h
 obtain ⟨xs, rfl, hx, hl⟩ := arg_ints h0
 obtain ⟨_, rfl, h1⟩ := h1
 obtain ⟨raw, rfl, wf⟩ := TDesk.of _ h1
 obtain ⟨_, rfl, h2⟩ := h2
 obtain ⟨c, rfl, _⟩ := TPayment.of _ h2
 obtain ⟨c3, rfl, _⟩ := arg_int h3
 obtain ⟨c4, rfl, _⟩ := arg_int h4
 have hw := wf.2.1.2.2.1
 exact exact26_pf xs raw c c3 c4 hx hl (by simpa [maxLen] using hw)
set_option maxRecDepth 100000 in
theorem exact26_lifted (os : Os) (started : os.Started) (H : Type) (enc : TypeId × Value → H) :
  ReturnsInHanded {} Tryz.checked os 8 .any (Rows.recallExactSpec.pre6 enc Tryz.prog Tryz.f8 Rows.recallExactRow.domain false) (Rows.recallExactSpec.post enc Tryz.prog Tryz.f8 false true false false) := by
 refine returnsInHanded_of_change (C := Tryz.checked) Tryz.own started (by kernel_rfl) Tryz.func8
  (ChangeSpec.witness6 (enc := enc) (C := Tryz.checked) false ⟨#[], exact26_wit, []⟩ 8 (by kernel_rfl) (by kernel_rfl) (by kernel_rfl) (by kernel_rfl)) ?_
 intro W base args ds gs before hval0 hW hcnd _
 have hval : ∀ (j : Nat) t v, Tryz.f8.params.toList[j]? = some t → args.toList[j]? = some v → Value.okWide Tryz.prog W .any base t v := fun j t v ht hv => hval0 j t v (by rw [← ht, Array.getElem?_toList]) (by rw [← hv, Array.getElem?_toList])
 have hW' := hW
 obtain ⟨p, q, hA0, hV, rfl, hfz, hnd⟩ := hW
 have hA : DataW.TrodAll enc Tryz.prog W 0 (fun _ => true) true Tryz.f8.params.toList args.toList ds p := hA0
 obtain ⟨rfl, rfl⟩ := trodVars_none hV
 have hlt := fun x hx => hW'.lt x hx
 obtain ⟨d0,d1,d2,d3,d4,rfl⟩ := Go.PA.list_len5 (Go.PA.trodAll_dlen _ _ _ _ hA : ds.length = 5)
 obtain ⟨av, hS, hlen, hrep⟩ := Go.PA.args_rep exact26_sh _ args.toList _ p (by kernel_rfl) hval hA
 clear hval0
 refine (exact26_args av hS W (fun b => b < W.heap.size) args (fun b hb => ⟨hb, by simp⟩) ⟨by simp, by simp⟩ (by rw [hlen, Array.length_toList]) (fun i v a hv ha => hrep i v a (by rw [← hv, Array.getElem?_toList]) ha)).mono ?_
 rintro e W' ⟨v, x, rfl, rfl, _, hrep, hg, _⟩
 have hv := Go.PA.rep_sc hrep
 subst hv
 have hb : Below W.heap.size W W' := ⟨hg.os, hg.tape, hg.output, hg.size, fun k hk => hg.block k hk (by simp)⟩
 refine ⟨_, rfl, post_of_below (ds := [d0,d1,d2,d3,d4]) (gs := []) (pa := p) (pv := []) (by simpa using hW') (fun _ _ _ => trodAll_mk1 (shut_bool Tryz.underlying4 true)) (fun sp hs => ?_) (fun _ _ => rfl) (by simp) hb (ok_one (by kernel_rfl) rfl (okWide_bool_mk Tryz.underlying4 true))⟩
 have := Go.PA.trodAll_stays (sp := sp) Tryz.laidOut exact26_sh _ args.toList _ p (by kernel_rfl) hA (fun x hx => hb.same (hlt x (by simp [hx]))) (fun x hx => hs x (by simp [hx]))
 exact this
theorem exact26_holds : Rows.RecallExactSaid :=
 OpenClaim.holds_of_wide 8 Tryz.f8 rfl rfl rfl rfl rfl rfl rfl ⟨rfl, rfl, rfl, rfl, rfl⟩ rfl rfl rfl rfl rfl (by kernel_rfl) Tryz.func8 (by kernel_rfl)
  (of_decide_eq_true (by kernel_rfl)) (by unfold Func.isWrapper; first | (rw [if_pos (by decide +kernel)]; kernel_rfl) | (rw [if_neg (by decide +kernel)]; exact ⟨rfl, rfl⟩))
  (fun os started H enc _ => exact26_lifted os started H enc)
end Go.Proofs.YtmpncdlhmknkoaaGreat
