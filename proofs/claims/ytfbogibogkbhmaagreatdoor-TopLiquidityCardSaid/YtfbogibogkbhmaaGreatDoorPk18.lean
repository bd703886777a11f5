/- Several texts of this claim, joined: HoldTl. -/
import Derived.Test.YtfbogibogkbhmaaGreatDoorPk17
set_option linter.unusedSimpArgs false
set_option linter.unusedVariables false
set_option maxRecDepth 4000
namespace Go.Proofs.YtfbogibogkbhmaaGreatDoor
open Go.ChangeShapes Go.WideShapes Go.ChangeAt Go.RowKit
open Go.PA (jY PFun AV Rep Sh Fj)
def iU:List Sh:=[.slice (.int .i64)]
def yk:Array Value:=#[.slice none 0 0]
set_option maxRecDepth 100000 in
theorem tV (av:List AV) (h:Fj iU av):PFun Tryz.prog none none 3 av (·=bv true):=by
 unfold iU at h
 obtain⟨a0,_,rfl,h0,h⟩:=Go.PA.M9 h
 cases Go.PA.OK h
 obtain⟨xs,rfl,hx,hl⟩:=RJ h0
 exact BO xs hx hl
set_option maxRecDepth 100000 in
theorem rG (os:Os) (started:os.Started) (H:Type) (enc:TypeId×Value→H):
  ReturnsInHanded {} Tryz.checked os 3 .any (fun w args=>(Rows.topLiquiditySpec.pre enc Tryz.prog Tryz.f3 Rows.topLiquidityRow.domain false w args∧laidMetH Tryz.prog Rows.topLiquidityRow.laid w)∧sizedMet enc Tryz.prog Tryz.f3 (OpenSpec.ofChange Rows.topLiquiditySpec) false w args) (Rows.topLiquiditySpec.post enc Tryz.prog Tryz.f3 false true false false):=by
 refine returnsInHanded_of_change_and (C:=Tryz.checked) (X:=fun w _=>laidMetH Tryz.prog Rows.topLiquidityRow.laid w) (fun _ _ _ hh h=>h.of_heap hh) Tryz.own started (by kernel_rfl) Tryz.func3
  (ChangeSpec.witness_shaped (enc:=enc) (C:=Tryz.checked) (os:=os) (X:=fun w _=>laidMetH Tryz.prog Rows.topLiquidityRow.laid w) false (World.laidAll Tryz.prog os Rows.topLiquidityRow.laid) yk 8 (World.laidAll_os _ _ _)
   (World.shaped_of_ZipB (by kernel_rfl) (by kernel_rfl)) (by kernel_rfl) (by kernel_rfl) (by kernel_rfl)
   (by rw[MakeChecks.laidMetH_plain _ _ _ (by kernel_rfl)];exact laidMet_laidAll _ (by kernel_rfl) (by kernel_rfl))) ?_
 intro W base args ds gs before hval0 hW hcnd _ hL _
 have hval:∀(j:Nat) t v,Tryz.f3.params.toList[j]?=some t→args.toList[j]?=some v→Value.okWide Tryz.prog W .any base t v:=fun j t v ht hv=>hval0 j t v (by rw[←ht,vF]) (by rw[←hv,vF])
 have hW':=hW
 obtain⟨p,q,hA0,hV,rfl,hfz,hnd⟩:=hW
 have hA:DataW.TrodAll enc Tryz.prog W 0 (fun _=>true) true Tryz.f3.params.toList args.toList ds p:=hA0
 obtain⟨rfl,rfl⟩:=trodVars_none hV
 have hlt:=fun x hx=>hW'.lt x hx
 obtain⟨d0,rfl⟩:=Go.PA.LE (Go.PA.r9 _ _ _ _ hA:ds.length=1)
 obtain⟨av,hS,hlen,hrep⟩:=Go.PA.GO iU _ args.toList _ p (by kernel_rfl) hval hA
 clear hval0
 refine (tV av hS W (fun b=>b<W.heap.size) args (fun b hb=>⟨hb,by simp⟩) ⟨⟨by simp,Tq hL⟩,by simp⟩ (by rw[hlen,Array.length_toList]) (fun i v a hv ha=>hrep i v a (by rw[←hv,vF]) ha)).mono ?_
 rintro e W' ⟨v,x,rfl,rfl,_,hrep,hg,_⟩
 have hv:=Go.PA.cM hrep
 subst hv
 have hb:Below W.heap.size W W':=⟨hg.os,hg.tape,hg.output,hg.size,fun k hk=>hg.block k hk (by simp)⟩
 refine⟨_,rfl,BZ (ds:=[d0]) (gs:=[]) (pa:=p) (pv:=[]) (by simpa using hW') (fun _ _ _=>trodAll_mk1 (shut_bool Tryz.underlying4 true)) (fun sp hs=>?_) (fun _ _=>rfl) (by simp) hb (ok_one (by kernel_rfl) rfl (okWide_bool_mk Tryz.underlying4 true))⟩
 have:=Go.PA.qP (sp:=sp) Tryz.laidOut iU _ args.toList _ p (by kernel_rfl) hA (fun x hx=>hb.same (hlt x (by simp[hx]))) (fun x hx=>hs x (by simp[hx]))
 exact this
theorem sa:Rows.TopLiquiditySaid:=
 OpenClaim.holds_of_wide 3 Tryz.f3 rfl rfl rfl rfl rfl rfl rfl ⟨rfl,rfl,rfl,rfl,rfl⟩ rfl rfl rfl rfl rfl (by kernel_rfl) Tryz.func3 rZ
  (of_decide_eq_true (by kernel_rfl)) (by unfold Func.isWrapper;first|(rw[if_pos (by decide+kernel)];kernel_rfl)|(rw[if_neg (by decide+kernel)];exact⟨rfl,rfl⟩))
  (fun os started H enc _=>rG os started H enc)
end Go.Proofs.YtfbogibogkbhmaaGreatDoor
