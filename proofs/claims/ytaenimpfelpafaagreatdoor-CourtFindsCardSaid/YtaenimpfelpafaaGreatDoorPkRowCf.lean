/- CourtFinds: the card. -/
import Derived.Test.YtaenimpfelpafaaGreatDoorPk10
set_option linter.unusedSimpArgs false
set_option linter.unusedVariables false
set_option maxRecDepth 4000
namespace Go.Proofs.YtaenimpfelpafaaGreatDoor
open Go.ChangeShapes Go.WideShapes Go.ChangeAt Go.RowKit
open Go.PA (jj PFun AV Rep Sh CN)
def mg:List Sh:=[.slice (.int .i64)]
def AJ:Array Value:=#[.slice none 0 0]
set_option maxRecDepth 100000 in
theorem z6 (av:List AV) (h:CN mg av):PFun Tryz.prog none none 5 av (·=bv true):=by
 unfold mg at h
 obtain⟨a0,_,rfl,h0,h⟩:=Go.PA.Hb h
 cases Go.PA.Ir h
 obtain⟨xs,rfl,hx,hl⟩:=KW h0
 exact EG xs hx hl
set_option maxRecDepth 100000 in
theorem wG (os:Os) (ue:os.Started) (H:Type) (enc:TypeId×Value→H):
  ReturnsInHanded {} Tryz.checked os 5 .any (fun w args=>(Rows.courtFindsSpec.pre enc Tryz.prog Tryz.f5 Rows.courtFindsRow.domain false w args∧laidMetH Tryz.prog Rows.courtFindsRow.laid w)∧sizedMet enc Tryz.prog Tryz.f5 (OpenSpec.ofChange Rows.courtFindsSpec) false w args) (Rows.courtFindsSpec.post enc Tryz.prog Tryz.f5 false true false false):=by
 refine returnsInHanded_of_change_and (C:=Tryz.checked) (X:=fun w _=>laidMetH Tryz.prog Rows.courtFindsRow.laid w) (fun _ _ _ hh h=>h.of_heap hh) Tryz.own ue (by kernel_rfl) Tryz.func5
  (ChangeSpec.witness_shaped (enc:=enc) (C:=Tryz.checked) (os:=os) (X:=fun w _=>laidMetH Tryz.prog Rows.courtFindsRow.laid w) false (World.laidAll Tryz.prog os Rows.courtFindsRow.laid) AJ 8 (World.laidAll_os _ _ _)
   (World.shaped_of_ZipB (by kernel_rfl) (by kernel_rfl)) (by kernel_rfl) (by kernel_rfl) (by kernel_rfl)
   (by rw[MakeChecks.laidMetH_plain _ _ _ (by kernel_rfl)];exact laidMet_laidAll _ (by kernel_rfl) (by kernel_rfl))) ?_
 intro W base args ds gs before hval0 hW hcnd _ hL _
 have hval:∀(j:Nat) t v,Tryz.f5.params.toList[j]?=some t→args.toList[j]?=some v→Value.okWide Tryz.prog W .any base t v:=fun j t v ht hv=>hval0 j t v (by rw[←ht,Array.getElem?_toList]) (by rw[←hv,Array.getElem?_toList])
 have hW':=hW
 obtain⟨p,q,hA0,hV,rfl,hfz,hnd⟩:=hW
 have hA:DataW.TrodAll enc Tryz.prog W 0 (fun _=>true) true Tryz.f5.params.toList args.toList ds p:=hA0
 obtain⟨rfl,rfl⟩:=trodVars_none hV
 have hlt:=fun x hx=>hW'.lt x hx
 obtain⟨d0,rfl⟩:=Go.PA.HN (Go.PA.qv _ _ _ _ hA:ds.length=1)
 obtain⟨av,hS,hlen,hrep⟩:=Go.PA.Cw mg _ args.toList _ p (by kernel_rfl) hval hA
 clear hval0
 refine (z6 av hS W (fun b=>b<W.heap.size) args (fun b hb=>⟨hb,by simp⟩) ⟨⟨by simp,Mp hL⟩,by simp⟩ (by rw[hlen,Array.length_toList]) (fun i v a hv ha=>hrep i v a (by rw[←hv,Array.getElem?_toList]) ha)).mono ?_
 rintro e W' ⟨v,x,rfl,rfl,_,hrep,hg,_⟩
 have hv:=Go.PA.cI hrep
 subst hv
 have hb:Below W.heap.size W W':=⟨hg.os,hg.tape,hg.output,hg.size,fun k hk=>hg.block k hk (by simp)⟩
 refine⟨_,rfl,w8 (ds:=[d0]) (gs:=[]) (pa:=p) (pv:=[]) (by simpa using hW') (fun _ _ _=>trodAll_mk1 (shut_bool Tryz.underlying4 true)) (fun sp hs=>?_) (fun _ _=>rfl) (by simp) hb (ok_one (by kernel_rfl) rfl (okWide_bool_mk Tryz.underlying4 true))⟩
 have:=Go.PA.oJ (sp:=sp) Tryz.laidOut mg _ args.toList _ p (by kernel_rfl) hA (fun x hx=>hb.same (hlt x (by simp[hx]))) (fun x hx=>hs x (by simp[hx]))
 exact this
theorem Bv {a b:Bool} (h:a=true) (h':b=true):(a&&b)=true:=by rw[h,h'];rfl
set_option maxHeartbeats 4000000 in
set_option maxRecDepth 100000 in
theorem wJ:joinedFacts Tryz.pinned.checked.prog 5 Tryz.f5 Rows.courtFindsSpec Rows.courtFindsRow=true:=by
 unfold joinedFacts
 repeat' with_reducible refine Bv ?_ ?_
 all_goals (as_aux_lemma=>kernel_rfl)
theorem xm:Rows.CourtFindsSaid:=
 OpenClaim.holds_of_wide 5 Tryz.f5 rfl rfl rfl rfl rfl rfl rfl ⟨rfl,rfl,rfl,rfl,rfl⟩ rfl rfl rfl rfl rfl (by kernel_rfl) Tryz.func5 wJ
  (of_decide_eq_true (by kernel_rfl)) (by unfold Func.isWrapper;first|(rw[if_pos (by decide+kernel)];kernel_rfl)|(rw[if_neg (by decide+kernel)];exact⟨rfl,rfl⟩))
  (fun os ue H enc _=>wG os ue H enc)
theorem xt (f:FuncId) (fn:Func) (hf:Tryz.pinned.checked.prog.funcNamed "treasury/treasurylaw45.CourtFinds"=some f) (hfn:Tryz.pinned.checked.prog.funcs[f]?=some fn):
  true=Tryz.pinned.checked.prog.looks []∧∀(j:Nat) t,fn.params[j]?=some t→Tryz.pinned.checked.prog.wantsStandIn t=false:=by
 obtain rfl:f=5:=Option.some.inj ((show Tryz.prog.funcNamed "treasury/treasurylaw45.CourtFinds"=some 5 by kernel_rfl).symm.trans hf) |>.symm
 obtain rfl:fn=Tryz.f5:=(Option.some.inj (Tryz.func5.symm.trans hfn)).symm
 refine⟨by kernel_rfl,fun j t ht=>?_⟩
 have hm:t∈Tryz.f5.params.toList:=by simpa using Array.mem_of_getElem? ht
 have hall:(Tryz.f5.params.toList.all fun u=>!Tryz.prog.wantsStandIn u)=true:=by kernel_rfl
 exact (show Tryz.prog.wantsStandIn t=false by simpa using List.all_eq_true.1 hall t hm)
theorem finds45_card:Rows.CourtFindsCardSaid:=
 Claim7.holds_tied_plain_at .later [] _ _ _ _ xm (fun _ h=>by cases h) (by kernel_rfl) (fun _ h=>by cases h) courtFinds_row_tie rfl ⟨rfl,rfl⟩ (by kernel_rfl) rfl xt (by kernel_rfl)
end Go.Proofs.YtaenimpfelpafaaGreatDoor
