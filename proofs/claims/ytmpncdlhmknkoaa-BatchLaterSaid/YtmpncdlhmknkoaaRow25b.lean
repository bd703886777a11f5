/- BatchLater: the row. -/
import Derived.Test.YtmpncdlhmknkoaaArgsU8
import Derived.Test.YtmpncdlhmknkoaaFrame
import Derived.Test.YtmpncdlhmknkoaaLaw25b
set_option linter.unusedSimpArgs false
set_option linter.unusedVariables false
namespace Go.Proofs.Ytmpncdlhmknkoaa
open Go.ChangeShapes Go.WideShapes Go.ChangeAt Go.RowKit
open Go.PA (RepI PFun AV Rep Sh ShsA)

def later25_sh : List Sh := [.slice (.int .i64), .int .u8, .int .u8]
def later25_wit : Array Value := #[.slice none 0 0, .int .u8 0, .int .u8 0]
set_option maxRecDepth 100000 in
theorem later25_args (av : List AV) (h : ShsA later25_sh av) : PFun Try.prog none none 5 av (· = bv true) := by
  unfold later25_sh at h
  obtain ⟨a0, _, rfl, h0, h⟩ := Go.PA.shsA_cons h
  obtain ⟨a1, _, rfl, h1, h⟩ := Go.PA.shsA_cons h
  obtain ⟨a2, _, rfl, h2, h⟩ := Go.PA.shsA_cons h
  cases Go.PA.shsA_nil h
  obtain ⟨xs, rfl, hx, hl⟩ := arg_ints h0
  obtain ⟨a, rfl, ha⟩ := arg_u8 h1
  obtain ⟨b, rfl, hb⟩ := arg_u8 h2
  exact later25_pf xs a b hx hl ha hb
set_option maxRecDepth 100000 in
theorem later25_lifted (os : Os) (started : os.Started) (H : Type) (enc : TypeId × Value → H) :
    ReturnsInHanded {} Try.checked os 5 .any (Rows.batchLaterSpec.pre6 enc Try.prog Try.f5 Rows.batchLaterRow.domain false) (Rows.batchLaterSpec.post enc Try.prog Try.f5 false true false false) := by
  refine returnsInHanded_of_change (C := Try.checked) Try.own started (by kernel_rfl) Try.func5
    (ChangeSpec.witness6 (enc := enc) (C := Try.checked) false ⟨#[], later25_wit, []⟩ 8 (by kernel_rfl) (by kernel_rfl) (by kernel_rfl) (by kernel_rfl)) ?_
  intro W base args ds gs before hval0 hW hcnd _
  have hval : ∀ (j : Nat) t v, Try.f5.params.toList[j]? = some t → args.toList[j]? = some v → Value.okWide Try.prog W .any base t v := fun j t v ht hv => hval0 j t v (by rw [← ht, Array.getElem?_toList]) (by rw [← hv, Array.getElem?_toList])
  have hW' := hW
  obtain ⟨p, q, hA0, hV, rfl, hfz, hnd⟩ := hW
  have hA : DataW.TrodAll enc Try.prog W 0 (fun _ => true) true Try.f5.params.toList args.toList ds p := hA0
  obtain ⟨rfl, rfl⟩ := trodVars_none hV
  have hlt := fun x hx => hW'.lt x hx
  obtain ⟨d0,d1,d2,rfl⟩ := Go.PA.list_len3 (Go.PA.trodAll_dlen _ _ _ _ hA : ds.length = 3)
  obtain ⟨av, hS, hlen, hrep⟩ := Go.PA.args_rep later25_sh _ args.toList _ p (by kernel_rfl) hval hA
  clear hval0
  refine (later25_args av hS W (fun b => b < W.heap.size) args (fun b hb => ⟨hb, by simp⟩) ⟨by simp, by simp⟩ (by rw [hlen, Array.length_toList]) (fun i v a hv ha => hrep i v a (by rw [← hv, Array.getElem?_toList]) ha)).mono ?_
  rintro e W' ⟨v, x, rfl, rfl, _, hrep, hg, _⟩
  have hv := Go.PA.rep_sc hrep
  subst hv
  have hb : Below W.heap.size W W' := ⟨hg.os, hg.tape, hg.output, hg.size, fun k hk => hg.block k hk (by simp)⟩
  refine ⟨_, rfl, post_of_below (ds := [d0,d1,d2]) (gs := []) (pa := p) (pv := []) (by simpa using hW') (fun _ _ _ => trodAll_mk1 (shut_bool Try.underlying4 true)) (fun sp hs => ?_) (fun _ _ => rfl) (by simp) hb (ok_one (by kernel_rfl) rfl (okWide_bool_mk Try.underlying4 true))⟩
  have := Go.PA.trodAll_stays (sp := sp) Try.laidOut later25_sh _ args.toList _ p (by kernel_rfl) hA (fun x hx => hb.same (hlt x (by simp [hx]))) (fun x hx => hs x (by simp [hx]))
  exact this

theorem later25_holds : Rows.BatchLaterSaid :=
  OpenClaim.holds_of_wide 5 Try.f5 rfl rfl rfl rfl rfl rfl rfl ⟨rfl, rfl, rfl, rfl, rfl⟩ rfl rfl rfl rfl rfl (by kernel_rfl) Try.func5 (by kernel_rfl)
    (of_decide_eq_true (by kernel_rfl)) (by unfold Func.isWrapper; first | (rw [if_pos (by decide +kernel)]; kernel_rfl) | (rw [if_neg (by decide +kernel)]; exact ⟨rfl, rfl⟩))
    (fun os started H enc _ => later25_lifted os started H enc)

end Go.Proofs.Ytmpncdlhmknkoaa
