/- Several texts of this claim, joined: Rec15 Rec16 Rd2 RSt Rd3 CrtP SaneCo LawCp. -/
import Derived.Test.YtaenimpfelpafaaGreatDoorPk9
set_option linter.unusedSimpArgs false
set_option linter.unusedVariables false
set_option maxRecDepth 4000
namespace Go.Proofs.YtaenimpfelpafaaGreatDoor
open Go.PA
open Go.RowKit
set_option maxHeartbeats 4000000 in
theorem CE (d:TDesk) (p:TPayment) (hf:FitD d):PFun Tryz.prog none none 150 [.agg d.cells,.agg p.cells] (·= .tup [.agg (cY d p).1.cells,iv (cY d p).2]):=by
 refine ab Tryz.func150 rfl (by simp[Tryz.f150]) (by kernel_rfl) ?_
 intro E hP hr hs hW hN
 have li:=hf.i
 have le:=hf.e
 have id':=dG d
 have ia:=dc d.Account
 have iq:=da d.Queue
 have ip:=fa p
 have ck:=mD d hf
 have ad:=Ji d.Queue p hf.q
 have io:=da (iT d.Queue p).1
 have bl:=pO d.Account p.Sub hf.s hf.e
 simp only[cDn]at id' ck
 simp only[cA]at ia bl
 simp only[cQn,cPy]at iq ip ad io
 obtain⟨R,hR⟩:∃R,R=AV.tup [.agg (cY d p).1.cells,iv (cY d p).2]:=⟨_,rfl⟩
 rw[←hR]
 have zer:∀n,cY d p=(cI,n)→AV.tup [.agg cI.cells,iv n]=R:=fun n h=>by rw[hR,h]
 simp -dsimp -implicitDefEqProofs [-getElem?_pos,go_sem,hP,cDn,cPy]
 refine ae (ck.lift _ _) hP DG (by simpa using id') .sc ?_
 by_cases c1:bA d=0
 rotate_left
 ·have:cY d p=(cI,bA d):=by rw[cY,if_neg c1]
  simp -dsimp -implicitDefEqProofs [-getElem?_pos,go_sem,hP,c1]
  exact eQ (zer _ this)
 have hd:=dF.1 c1
 simp -dsimp -implicitDefEqProofs [-getElem?_pos,go_sem,hP,c1]
 refine ae (ad.lift _ _) hP NR (by simpa using⟨iq,ip⟩) (ak io .sc) ?_
 by_cases c2:(iT d.Queue p).2=0
 rotate_left
 ·have:cY d p=(cI,(iT d.Queue p).2):=by rw[cY,if_pos c1,if_neg c2]
  have d2:=decide_eq_false c2
  simp -dsimp -implicitDefEqProofs [-getElem?_pos,go_sem,hP,d2]
  exact eQ (zer _ this)
 simp -dsimp -implicitDefEqProofs [-getElem?_pos,go_sem,hP,c2]
 refine ae (bl.lift _ _) hP JG (by simpa[ar]using ia) (ak .sc .sc) ?_
 cases c3:(bm d.Account p.Sub).2
 ·have:cY d p=(cI,60):=by rw[cY,if_pos c1,if_pos c2,if_neg (by simp[c3])]
  simp -dsimp -implicitDefEqProofs [-getElem?_pos,go_sem,hP,c3]
  exact eQ (zer _ this)
 simp -dsimp -implicitDefEqProofs [-getElem?_pos,go_sem,hP,c3]
 obtain⟨es,hes⟩:∃es,es=d.Account.Entries:=⟨_,rfl⟩
 obtain⟨l,hl⟩:∃l,l=d.Items:=⟨_,rfl⟩
 obtain⟨q',hq'⟩:∃q',q'=(iT d.Queue p).1:=⟨_,rfl⟩
 rw[←hes]at le
 rw[←hl]at li
 have hor:es.any (ux p.Warrant)=false→cY d p=(⟨d.Account,q',ins ltI l ⟨p,1,0⟩⟩,0):=fun h=>by rw[cY,if_pos c1,if_pos c2,if_pos c3,if_neg (by rw[←hes,h];simp),hq',hl]
 have hknown:es.any (ux p.Warrant)=true→cY d p=(cI,65):=fun h=>by rw[cY,if_pos c1,if_pos c2,if_pos c3,if_pos (by rw[←hes,h])]
 obtain⟨I,hI⟩:∃I:Nat→St→Prop,I=fun m s=>∃k:Nat,k≤es.length∧m=es.length-k∧es.any (ux p.Warrant)=(es.drop k).any (ux p.Warrant)∧s.t 2= .ref 0 0 0∧s.t 3= .ref 1 0 0∧s.t 4= .ref 2 0 0∧s.t 7= .ref 3 0 0∧s.t 44=bM es∧s.t 45=iv es.length∧s.t 46=iv k∧s.H[0]?=some (some ⟨35,7,[[iv d.Account.Credit,aT d.Account.Subs,bM es,aD d.Queue.Waiting,eN d.Queue.Known,be d.Queue.Batches,cg l]]⟩)∧s.H[1]?=some (some ⟨81,5,[[iv p.Warrant,iv p.Payee,iv p.Amount,iv p.Due,iv p.Sub]]⟩)∧s.H[2]?=some (some ⟨35,7,[[iv 0,.nil,.nil,.nil,.nil,.nil,.nil]]⟩)∧s.H[3]?=some (some ⟨32,3,[[aD q'.Waiting,eN q'.Known,be q'.Batches]]⟩):=⟨_,rfl⟩
 refine ay I (es.length) (by rw[hN];rfl) ?_ ?_
 ·rw[hI]
  exact⟨0,by omega,by omega,by rfl,by simp -dsimp[-getElem?_pos,go_sem],by simp -dsimp[-getElem?_pos,go_sem],by simp -dsimp[-getElem?_pos,go_sem],by simp -dsimp[-getElem?_pos,go_sem],by simp -dsimp[-getElem?_pos,go_sem,hes],by simp -dsimp[-getElem?_pos,go_sem,hes],by simp -dsimp[-getElem?_pos,go_sem],by simp -dsimp[-getElem?_pos,go_sem,hes,hl],by simp -dsimp[-getElem?_pos,go_sem],by simp -dsimp[-getElem?_pos,go_sem],by simp -dsimp[-getElem?_pos,go_sem,hq']⟩
 intro m s hs'
 rw[hI]at hs'
 obtain⟨k,hk,hm,hq,t2,t3,t4,t7,t44,t45,t46,h0,h1,h2,h3⟩:=hs'
 have lt0:=(gsI h0)
 have lt1:=(gsI h1)
 have lt2:=(gsI h2)
 have lt3:=(gsI h3)
 simp -dsimp -implicitDefEqProofs [-getElem?_pos,go_sem,hP,t45,t46]
 refine aB (fun h=>?_) (fun h=>?_)
 ·have hk:k<es.length:=by simpa using h
  obtain⟨e,hee⟩:∃e,es[k]?=some e:=⟨_,List.getElem?_eq_getElem hk⟩
  have wk:=af ((k:Int)+1) (by omega)
  have g1:∀x:Option AObj,(s.H++[x])[1]?=s.H[1]?:=fun x=>List.getElem?_append_left lt1
  have g2:∀x:Option AObj,(s.H++[x])[2]?=s.H[2]?:=fun x=>List.getElem?_append_left lt2
  rw[cK hee,List.any_cons]at hq
  by_cases c:e.Ref=p.Warrant
  ·rw[show ux p.Warrant e=true by simp[ux,c],Bool.true_or]at hq
   simp -dsimp -implicitDefEqProofs [-getElem?_pos,go_sem,hP,t44,t46,hee,cE,t3,g1,lt1,h1,c,t4,g2,lt2,h2]
   exact eQ (zer _ (hknown hq))
  ·rw[show ux p.Warrant e=false by simp[ux,c],Bool.false_or]at hq
   have dd:=decide_eq_false c
   simp -dsimp -implicitDefEqProofs [-getElem?_pos,go_sem,hP,t44,t46,hee,cE,t3,g1,lt1,h1,c,dd,wk]
   refine⟨es.length-(k+1),by omega,?_⟩
   rw[hI]
   exact⟨k+1,by omega,rfl,hq,by simp -dsimp[-getElem?_pos,go_sem,t2],by simp -dsimp[-getElem?_pos,go_sem,t3],by simp -dsimp[-getElem?_pos,go_sem,t4],by simp -dsimp[-getElem?_pos,go_sem,t7],by simp -dsimp[-getElem?_pos,go_sem,t44],by simp -dsimp[-getElem?_pos,go_sem,t45],by simp -dsimp[-getElem?_pos,go_sem],by simp -dsimp[-getElem?_pos,go_sem,lt0,h0],by simp -dsimp[-getElem?_pos,go_sem,lt1,h1],by simp -dsimp[-getElem?_pos,go_sem,lt2,h2],by simp -dsimp[-getElem?_pos,go_sem,lt3,h3]⟩
 have hk:k=es.length:=by simp at h;omega
 subst hk
 rw[List.drop_length,List.any_nil]at hq
 have hor:=hor hq
 simp -dsimp -implicitDefEqProofs [-getElem?_pos,go_sem,hP]
 clear hI I t44 t45 t46 hm hknown h
 obtain⟨J,hJ⟩:∃I:Nat→St→Prop,I=fun m s=>∃k:Nat,k≤l.length∧m=l.length-k∧ins ltI l ⟨p,1,0⟩=l.take k++ins ltI (l.drop k) ⟨p,1,0⟩∧s.t 2= .ref 0 0 0∧s.t 3= .ref 1 0 0∧s.t 4= .ref 2 0 0∧s.t 7= .ref 3 0 0∧s.t 13=iv k∧s.H[0]?=some (some ⟨35,7,[[iv d.Account.Credit,aT d.Account.Subs,bM es,aD d.Queue.Waiting,eN d.Queue.Known,be d.Queue.Batches,cg l]]⟩)∧s.H[1]?=some (some ⟨81,5,[[iv p.Warrant,iv p.Payee,iv p.Amount,iv p.Due,iv p.Sub]]⟩)∧s.H[2]?=some (some ⟨35,7,[[iv 0,.nil,.nil,.nil,.nil,.nil,.nil]]⟩)∧s.H[3]?=some (some ⟨32,3,[[aD q'.Waiting,eN q'.Known,be q'.Batches]]⟩):=⟨_,rfl⟩
 refine ay J (l.length) (by rw[hN];rfl) ?_ ?_
 ·rw[hJ]
  exact⟨0,by omega,by omega,by simp,by simp -dsimp[-getElem?_pos,go_sem,t2],by simp -dsimp[-getElem?_pos,go_sem,t3],by simp -dsimp[-getElem?_pos,go_sem,t4],by simp -dsimp[-getElem?_pos,go_sem,t7],by simp -dsimp[-getElem?_pos,go_sem],by simp -dsimp[-getElem?_pos,go_sem,h0],by simp -dsimp[-getElem?_pos,go_sem,h1],by simp -dsimp[-getElem?_pos,go_sem,h2],by simp -dsimp[-getElem?_pos,go_sem,h3]⟩
 clear t2 t3 t4 t7 h0 h1 h2 h3 lt0 lt1 lt2 lt3 hk
 intro m s hs'
 rw[hJ]at hs'
 obtain⟨k,hk,hm,hi,t2,t3,t4,t7,t13,h0,h1,h2,h3⟩:=hs'
 have lt0:=(gsI h0)
 have lt1:=(gsI h1)
 have lt2:=(gsI h2)
 have lt3:=(gsI h3)
 simp -dsimp -implicitDefEqProofs [-getElem?_pos,go_sem,hP]
 obtain⟨Inv,hInv⟩:∃Inv:St→Prop,Inv=fun s'=>∃b:Bool,s'.t 73=bv b∧(b=true→∃x,l[k]?=some x∧ltI x ⟨p,1,0⟩=true)∧(b=false→ins ltI (l.drop k) ⟨p,1,0⟩=⟨p,1,0⟩::l.drop k)∧s'.t 2= .ref 0 0 0∧s'.t 3= .ref 1 0 0∧s'.t 4= .ref 2 0 0∧s'.t 7= .ref 3 0 0∧s'.t 13=iv k∧s'.H=s.H:=⟨_,rfl⟩
 refine nC Inv ?_ ?_
 ·refine ao (fun _=>true) [] hP (by kernel_rfl) (by kernel_rfl) ?_
  by_cases c:k<l.length
  ·obtain⟨x,hx⟩:∃x,l[k]?=some x:=⟨_,List.getElem?_eq_getElem c⟩
   have dk:decide ((k:Int)<(l.length:Int))=true:=decide_eq_true (by omega)
   by_cases cb:x.Payment.Warrant<p.Warrant
   ·have db:=decide_eq_true cb
    simp -dsimp -implicitDefEqProofs [-getElem?_pos,go_sem,hP,t2,t13,t3,h0,lt0,h1,lt1,dk,c,hx,cIt,db]
    rw[hInv]
    exact⟨true,by simp -dsimp[-getElem?_pos,go_sem],fun _=>⟨x,hx,by simp[ltI,cb]⟩,fun h=>(by cases h),by simp -dsimp[-getElem?_pos,go_sem,t2],by simp -dsimp[-getElem?_pos,go_sem,t3],by simp -dsimp[-getElem?_pos,go_sem,t4],by simp -dsimp[-getElem?_pos,go_sem,t7],by simp -dsimp[-getElem?_pos,go_sem,t13],rfl⟩
   ·have db:=decide_eq_false cb
    simp -dsimp -implicitDefEqProofs [-getElem?_pos,go_sem,hP,t2,t13,t3,h0,lt0,h1,lt1,dk,c,hx,cIt,db]
    rw[hInv]
    exact⟨false,by simp -dsimp[-getElem?_pos,go_sem],fun h=>(by cases h),fun _=>by rw[cK hx,ud (by simp[ltI,cb])],by simp -dsimp[-getElem?_pos,go_sem,t2],by simp -dsimp[-getElem?_pos,go_sem,t3],by simp -dsimp[-getElem?_pos,go_sem,t4],by simp -dsimp[-getElem?_pos,go_sem,t7],by simp -dsimp[-getElem?_pos,go_sem,t13],rfl⟩
  ·have dk:decide ((k:Int)<(l.length:Int))=false:=decide_eq_false (by omega)
   simp -dsimp -implicitDefEqProofs [-getElem?_pos,go_sem,hP,t2,t13,t3,h0,lt0,dk,c]
   rw[hInv]
   exact⟨false,by simp -dsimp[-getElem?_pos,go_sem],fun h=>(by cases h),fun _=>by rw[List.drop_of_length_le (by omega),yq],by simp -dsimp[-getElem?_pos,go_sem,t2],by simp -dsimp[-getElem?_pos,go_sem,t3],by simp -dsimp[-getElem?_pos,go_sem,t4],by simp -dsimp[-getElem?_pos,go_sem,t7],by simp -dsimp[-getElem?_pos,go_sem,t13],rfl⟩
 clear t2 t3 t4 t7 t13
 rw[hInv]
 rintro s' ⟨b,t73,hb1,hb0,t2,t3,t4,t7,t13,hH⟩
 cases b
 rotate_left
 ·obtain⟨x,hx,hlt⟩:=hb1 rfl
  have hk:k<l.length:=(gsI hx)
  have wk:=af ((k:Int)+1) (by omega)
  rw[cK hx,vF hlt]at hi
  simp -dsimp -implicitDefEqProofs [-getElem?_pos,go_sem,hP,t73,t13,wk]
  refine⟨l.length-(k+1),by omega,?_⟩
  rw[hJ]
  refine⟨k+1,by omega,rfl,by rw[hi,bR hx];simp,by simp -dsimp[-getElem?_pos,go_sem,t2],by simp -dsimp[-getElem?_pos,go_sem,t3],by simp -dsimp[-getElem?_pos,go_sem,t4],by simp -dsimp[-getElem?_pos,go_sem,t7],by simp -dsimp[-getElem?_pos,go_sem],?_,?_,?_,?_⟩
  ·dsimp only;rw[hH];exact h0
  ·dsimp only;rw[hH];exact h1
  ·dsimp only;rw[hH];exact h2
  ·dsimp only;rw[hH];exact h3
 rw[hb0 rfl]at hi
 simp -dsimp -implicitDefEqProofs [-getElem?_pos,go_sem,hP,t73,t7,hH,h3,lt3,t2,h0,lt0]
 obtain⟨H1,hH1⟩:∃H1,H1=s.H.set 0 (some (⟨35,7,[[iv d.Account.Credit,aT d.Account.Subs,bM es,aD q'.Waiting,eN q'.Known,be q'.Batches,cg l]]⟩:AObj)):=⟨_,rfl⟩
 have k0:H1[0]?=some (some ⟨35,7,[[iv d.Account.Credit,aT d.Account.Subs,bM es,aD q'.Waiting,eN q'.Known,be q'.Batches,cg l]]⟩):=by rw[hH1,List.getElem?_set_self lt0]
 have k1:H1[1]?=_:=(show H1[1]?=s.H[1]? by rw[hH1,List.getElem?_set_ne (by omega)]).trans h1
 have k2:H1[2]?=_:=(show H1[2]?=s.H[2]? by rw[hH1,List.getElem?_set_ne (by omega)]).trans h2
 have l1:H1.length=s.H.length:=by rw[hH1,List.length_set]
 rw[←hH1]
 rw[←l1]at lt0 lt1 lt2
 obtain⟨A,hA⟩:∃A,A=l.take k:=⟨_,rfl⟩
 obtain⟨B,hB⟩:∃B,B=l.drop k:=⟨_,rfl⟩
 have lA:A.length=k:=by rw[hA,List.length_take];omega
 have lB:B.length=l.length-k:=by rw[hB,List.length_drop]
 rw[←hA,←hB]at hi
 refine ao (fun i=>decide (i=0)||decide (i=1)) [15] hP (by kernel_rfl) (by kernel_rfl) ?_
 simp -dsimp -implicitDefEqProofs [-getElem?_pos,go_sem,hP,t2,t3,t13,k0,lt0,k1,lt1,aW,cG,cr,hk,eP,dg,←hA,←hB,lA,lB]
 have ag:∀(x y:ac),Agree (fun i=>decide (i=0)||decide (i=1)) (H1++x) (H1++y):=fun x y j hj=>by
  simp only[Bool.or_eq_true,decide_eq_true_eq]at hj
  rw[List.getElem?_append_left (by omega),List.getElem?_append_left (by omega)]
 have ag0:∀(y:ac),Agree (fun i=>decide (i=0)||decide (i=1)) H1 (H1++y):=fun y=>by
  have:=ag [] y
  rwa[List.append_nil]at this
 refine⟨by omega,by omega,ag0 _,by omega,by omega,ag _ _,by omega,by omega,ag _ _,?_⟩
 have eIt:aj TItem.cells A++[iv p.Warrant,iv p.Payee,iv p.Amount,iv p.Due,iv p.Sub,AV.sc (.int .i64 1),AV.sc (.int .i64 0)]::aj TItem.cells B=aj TItem.cells (ins ltI l ⟨p,1,0⟩):=by
  rw[hi]
  simp[aj,cIt]
 have n20:¬2=0:=by omega
 have n02:¬0=2:=by omega
 have lt0':2<(H1.set 0 (some (⟨35,7,[[iv d.Account.Credit,aT d.Account.Subs,bM es,aD q'.Waiting,eN q'.Known,be q'.Batches,.sref (H1.length+2) 0 (k+1+(l.length-k))]]⟩:AObj))).length:=by rw[List.length_set];exact lt2
 rw[eIt]
 simp -dsimp -implicitDefEqProofs [-getElem?_pos,go_sem,hP,t4,k2,lt2,n20,n02,lt0']
 refine aL (cs':=TDesk.cells ⟨d.Account,q',ins ltI l ⟨p,1,0⟩⟩) ?_ ?_
 ·rw[cDn,←hes]
  refine xN (cU (aS _) (cU (iK _) (cU (bW _) (cU (fN _) (cU (iC _) (cQ (ty:=83) ?_ ?_ (xH _) .nil))))))
  ·rw[List.getElem?_append_right (by simp)]
   simp
  ·rw[al,pM];omega
 ·rw[hR,hor]
open Go.PA
open Go.RowKit
theorem qu (day:Int):∀(l:List TPayment) (a:TAccount) (ws:List Int) (full:Bool),∃us,us.Sublist (l.map (·.Warrant))∧(eE day l a ws full).2.1=ws++us
 |[],a,ws,full=>⟨[],by simp,by simp[eE]⟩
 |p::l,a,ws,full=>by
  rw[eE]
  split
  ·exact⟨[],by simp,by simp⟩
  ·split
   ·obtain⟨us,h1,h2⟩:=qu day l (bw a (bO a day p.Sub 0 p.Amount p.Warrant)).1 (ws++[p.Warrant]) full
    exact⟨p.Warrant::us,by rw[List.map_cons];exact h1.cons_cons _,by rw[h2];simp⟩
   ·obtain⟨us,h1,h2⟩:=qu day l a ws (full||decide ((bw a (bO a day p.Sub 0 p.Amount p.Warrant)).2=3))
    exact⟨us,by rw[List.map_cons];exact h1.cons _,h2⟩
theorem Nh {d:TDesk} (hq:QOk d.Queue) (day:Int):(goD d day).2.1.Nodup∧∀w,w∈(goD d day).2.1→∃p,p∈fL d.Queue day∧p.Warrant=w:=by
 obtain⟨us,h1,h2⟩:=qu day (fL d.Queue day) d.Account [] false
 rw[goD,h2,List.nil_append]
 refine⟨(Gr hq day).sublist h1,fun w hw=>?_⟩
 obtain⟨p,hp,e⟩:=List.mem_map.1 (h1.subset hw)
 exact⟨p,hp,e⟩
theorem oK (day:Int):∀(l:List TPayment) (a:TAccount) (ws:List Int) (full:Bool),aF a=0→aF (eE day l a ws full).1=0
 |[],a,ws,full,h=>h
 |p::l,a,ws,full,h=>by
  rw[eE]
  split
  ·exact h
  ·split
   ·rename_i hp
    exact oK day l _ _ _ (fX hp)
   ·exact oK day l _ _ _ h
abbrev sQ (a:TAccount):AObj:=⟨28,3,[[iv a.Credit,aT a.Subs,bM a.Entries]]⟩
set_option maxHeartbeats 8000000 in
theorem Gs (d:TDesk) (day:Int) (hf:FitD d):PFun Tryz.prog none none 151 [.agg d.cells,iv day] (·= .tup [.agg (dw d day).1.cells,.agg (dw d day).2.1.cells,iv (dw d day).2.2]):=by
 refine eO Tryz.func151 rfl (by simp[Tryz.f151]) ?_
 intro E hP hr hs hW hN
 have li:=hf.i
 have lb:=hf.q.b
 have le:=hf.e
 have id':=dG d
 have ia:=dc d.Account
 have ck:=mD d hf
 simp only[cDn]at id' ck
 simp only[cA]at ia
 obtain⟨R,hR⟩:∃R,R=AV.tup [.agg (dw d day).1.cells,.agg (dw d day).2.1.cells,iv (dw d day).2.2]:=⟨_,rfl⟩
 rw[←hR]
 have zer:∀n,dw d day=(cI,dt,n)→AV.tup [.agg cI.cells,.agg dt.cells,iv n]=R:=fun n h=>by rw[hR,h]
 refine bF (by rw[hN];kernel_rfl) ?_
 simp -dsimp -implicitDefEqProofs [-getElem?_pos,go_sem,hP,cDn]
 refine bF (by rw[hN];kernel_rfl) ?_
 simp -dsimp -implicitDefEqProofs [-getElem?_pos,go_sem,hP]
 refine ae (ck.lift _ _) hP DG (by simpa using id') .sc ?_
 by_cases c1:bA d=0
 rotate_left
 ·have:dw d day=(cI,dt,bA d):=by rw[dw,if_neg c1]
  simp -dsimp -implicitDefEqProofs [-getElem?_pos,go_sem,hP,c1]
  exact dv (zer _ this)
 have hd:=dF.1 c1
 simp -dsimp -implicitDefEqProofs [-getElem?_pos,go_sem,hP,c1]
 refine bF (by rw[hN];kernel_rfl) ?_
 by_cases b1:day<0
 ·have:dw d day=(cI,dt,66):=by rw[dw,if_pos c1,if_neg (by rw[gQ,eK (by omega)];simp)]
  simp -dsimp -implicitDefEqProofs [-getElem?_pos,go_sem,hP,b1]
  exact dv (zer _ this)
 have f1:=decide_eq_false b1
 by_cases b2:36000<day
 ·have:dw d day=(cI,dt,66):=by rw[dw,if_pos c1,if_neg (by rw[gQ,eK (by omega)];simp)]
  simp -dsimp -implicitDefEqProofs [-getElem?_pos,go_sem,hP,b1,f1,b2]
  exact dv (zer _ this)
 have f2:=decide_eq_false b2
 simp -dsimp -implicitDefEqProofs [-getElem?_pos,go_sem,hP,f1,f2]
 refine ah (jM day) hP Eg (ai (by simp -dsimp[-getElem?_pos,go_sem])) .sc ?_
 cases c2:gQ day
 ·have:dw d day=(cI,dt,66):=by rw[dw,if_pos c1,if_neg (by simp[c2])]
  simp -dsimp -implicitDefEqProofs [-getElem?_pos,go_sem,hP,c2]
  exact dv (zer _ this)
 simp -dsimp -implicitDefEqProofs [-getElem?_pos,go_sem,hP,c2]
 refine bF (by rw[hN];kernel_rfl) ?_
 simp -dsimp -implicitDefEqProofs [-getElem?_pos,go_sem,hP]
 refine ao (fun _=>true) [] hP (by kernel_rfl) (by kernel_rfl) ?_
 simp -dsimp -implicitDefEqProofs [-getElem?_pos,go_sem,hP]
 obtain⟨bs,hbs⟩:∃bs,bs=d.Queue.Batches:=⟨_,rfl⟩
 obtain⟨es,hes⟩:∃es,es=d.Account.Entries:=⟨_,rfl⟩
 obtain⟨Inv,hInv⟩:∃Inv:St→Prop,Inv=fun s=>¬(day<fI d.Queue∨day<gZ d.Account)∧s.t 1=iv day∧s.t 2= .ref 0 0 0∧s.t 4= .ref 1 0 0∧s.t 5= .ref 2 0 0∧s.H=[some (ln d),some mC,some rM]:=⟨_,rfl⟩
 refine fO Inv (by rw[hN];kernel_rfl) ?_ ?_
 ·have late:(day<fI d.Queue∨day<gZ d.Account)→dw d day=(cI,dt,8):=fun h=>by rw[dw,if_pos c1,if_pos c2,if_pos h]
  have hdp:=A9 hd.a
  have hd0:0≤day:=by omega
  rw[←hbs]at lb
  rw[←hes]at le
  have lE:es.length=0→gZ d.Account=0:=fun h=>by rw[gZ,yj (by rw[←hes];exact h)]
  have lE1:∀(j:Nat) (e:TEntry),es.length=j+1→es[j]?=some e→gZ d.Account=e.Day:=fun j e h h'=>by rw[gZ,xh (k:=j) (e:=e) (by rw[←hes];exact h) (by rw[←hes];exact h')]
  have lQ:bs.length=0→fI d.Queue=0:=fun h=>Gz (by rw[←hbs];exact h)
  have lQ1:∀(j:Nat) (e:TBatch),bs.length=j+1→bs[j]?=some e→fI d.Queue=e.Day:=fun j e h h'=>E4 (k:=j) (by rw[←hbs];exact h) (by rw[←hbs];exact h')
  rcases Nat.eq_zero_or_pos bs.length with n0|n0
  ·have e0:decide (0<bs.length)=false:=decide_eq_false (by omega)
   have lq:=lQ n0
   rcases Nat.eq_zero_or_pos es.length with m0|m0
   ·have e1:decide (0<es.length)=false:=decide_eq_false (by omega)
    have:=lE m0
    simp -dsimp -implicitDefEqProofs [-getElem?_pos,go_sem,hP,←hbs,←hes,e0,e1]
    refine⟨_,Weaker.refl _,?_⟩
    rw[hInv]
    exact⟨by omega,by simp -dsimp[-getElem?_pos,go_sem],by simp -dsimp[-getElem?_pos,go_sem],by simp -dsimp[-getElem?_pos,go_sem],by simp -dsimp[-getElem?_pos,go_sem],by simp[ln,hbs,hes]⟩
   ·obtain⟨j,hj⟩:∃j,es.length=j+1:=⟨_,(Nat.succ_pred_eq_of_pos m0).symm⟩
    obtain⟨e,hee⟩:∃e,es[j]?=some e:=⟨_,List.getElem?_eq_getElem (by omega)⟩
    have wj:IntKind.i64.wrap (j:Int)=(j:Int):=af _ (by omega)
    have hle:=lE1 j e hj hee
    by_cases c3:day<e.Day
    ·have d3:=decide_eq_true c3
     simp -dsimp -implicitDefEqProofs [-getElem?_pos,go_sem,hP,←hbs,←hes,e0,m0,hj,wj,Int.add_sub_cancel,hee,cE,d3]
     exact dv (zer _ (late (.inr (by omega))))
    ·have d3:=decide_eq_false c3
     simp -dsimp -implicitDefEqProofs [-getElem?_pos,go_sem,hP,←hbs,←hes,e0,m0,hj,wj,Int.add_sub_cancel,hee,cE,d3]
     refine⟨_,Weaker.refl _,?_⟩
     rw[hInv]
     exact⟨by omega,by simp -dsimp[-getElem?_pos,go_sem],by simp -dsimp[-getElem?_pos,go_sem],by simp -dsimp[-getElem?_pos,go_sem],by simp -dsimp[-getElem?_pos,go_sem],by simp[ln,hbs,hes]⟩
  ·obtain⟨i,hi⟩:∃i,bs.length=i+1:=⟨_,(Nat.succ_pred_eq_of_pos n0).symm⟩
   obtain⟨b,hb⟩:∃b,bs[i]?=some b:=⟨_,List.getElem?_eq_getElem (by omega)⟩
   have wi:IntKind.i64.wrap (i:Int)=(i:Int):=af _ (by omega)
   have hlb:=lQ1 i b hi hb
   by_cases c4:day<b.Day
   ·have d4:=decide_eq_true c4
    simp -dsimp -implicitDefEqProofs [-getElem?_pos,go_sem,hP,←hbs,←hes,n0,hi,wi,Int.add_sub_cancel,hb,cBt,d4]
    exact dv (zer _ (late (.inl (by omega))))
   have d4:=decide_eq_false c4
   rcases Nat.eq_zero_or_pos es.length with m0|m0
   ·have e1:decide (0<es.length)=false:=decide_eq_false (by omega)
    have:=lE m0
    simp -dsimp -implicitDefEqProofs [-getElem?_pos,go_sem,hP,←hbs,←hes,n0,hi,wi,hb,cBt,d4,e1]
    refine⟨_,Weaker.refl _,?_⟩
    rw[hInv]
    exact⟨by omega,by simp -dsimp[-getElem?_pos,go_sem],by simp -dsimp[-getElem?_pos,go_sem],by simp -dsimp[-getElem?_pos,go_sem],by simp -dsimp[-getElem?_pos,go_sem],by simp[ln,hbs,hes]⟩
   ·obtain⟨j,hj⟩:∃j,es.length=j+1:=⟨_,(Nat.succ_pred_eq_of_pos m0).symm⟩
    obtain⟨e,hee⟩:∃e,es[j]?=some e:=⟨_,List.getElem?_eq_getElem (by omega)⟩
    have wj:IntKind.i64.wrap (j:Int)=(j:Int):=af _ (by omega)
    have hle:=lE1 j e hj hee
    by_cases c3:day<e.Day
    ·have d3:=decide_eq_true c3
     simp -dsimp -implicitDefEqProofs [-getElem?_pos,go_sem,hP,←hbs,←hes,n0,hi,wi,hb,cBt,d4,m0,hj,wj,Int.add_sub_cancel,hee,cE,d3]
     exact dv (zer _ (late (.inr (by omega))))
    ·have d3:=decide_eq_false c3
     simp -dsimp -implicitDefEqProofs [-getElem?_pos,go_sem,hP,←hbs,←hes,n0,hi,wi,hb,cBt,d4,m0,hj,wj,Int.add_sub_cancel,hee,cE,d3]
     refine⟨_,Weaker.refl _,?_⟩
     rw[hInv]
     exact⟨by omega,by simp -dsimp[-getElem?_pos,go_sem],by simp -dsimp[-getElem?_pos,go_sem],by simp -dsimp[-getElem?_pos,go_sem],by simp -dsimp[-getElem?_pos,go_sem],by simp[ln,hbs,hes]⟩
 intro s hs'
 rw[hInv]at hs'
 obtain⟨c3,t1,t2,t4,t5,hH⟩:=hs'
 clear hInv Inv
 refine bF (by rw[hN];kernel_rfl) ?_
 simp -dsimp -implicitDefEqProofs [-getElem?_pos,go_sem,hP,t2,hH]
 refine bF (by rw[hN];kernel_rfl) ?_
 simp -dsimp -implicitDefEqProofs [-getElem?_pos,go_sem,hP]
 refine bF (by rw[hN];kernel_rfl) ?_
 simp -dsimp -implicitDefEqProofs [-getElem?_pos,go_sem,hP]
 obtain⟨rl,hrl⟩:∃rl,rl=fL d.Queue day:=⟨_,rfl⟩
 have hg:goD d day=eE day rl d.Account [] false:=by rw[hrl];rfl
 have hll:rl.length≤100000:=by
  have:=(mb d.Queue day).length_le
  have:=hf.q.w
  rw[hrl]
  omega
 have hca:=oK day rl d.Account [] false hd.a
 have hcl:=oy day rl d.Account [] false (by simp)
 rw[←hg]at hca hcl
 obtain⟨Inv,hInv⟩:∃Inv:St→Prop,Inv=fun s=>s.t 1=iv day∧s.t 2= .ref 0 0 0∧s.t 4= .ref 1 0 0∧s.t 5= .ref 2 0 0∧s.t 10= .ref 3 0 0∧s.t 11=eN (goD d day).2.1∧s.t 12=bv (goD d day).2.2∧s.H[0]?=some (some (ln d))∧s.H[1]?=some (some mC)∧s.H[2]?=some (some rM)∧s.H[3]?=some (some (sQ (goD d day).1)):=⟨_,rfl⟩
 refine fO Inv (by rw[hN];kernel_rfl) ?_ ?_
 ·have rp:=DK d.Queue day hf.q
  have iq:=da d.Queue
  have irl:=bW rl
  rw[←hrl]at rp
  simp only[cQn]at rp iq
  simp -dsimp -implicitDefEqProofs [-getElem?_pos,go_sem,hP,t2,t1]
  refine ae (rp.lift _ _) hP Mx (by simpa[ar]using iq) irl ?_
  simp -dsimp -implicitDefEqProofs [-getElem?_pos,go_sem,hP]
  refine fC 11 3 1 (by simp -dsimp[-getElem?_pos,go_sem]) ?_
  obtain⟨I,hI⟩:∃I:Nat→St→Prop,I=fun m s=>∃(k wid:Nat) (a:TAccount) (ws:List Int) (full:Bool),k≤rl.length∧m=rl.length-k∧goD d day=eE day (rl.drop k) a ws full∧aF a=0∧ws.length≤10∧4≤wid∧s.t 1=iv day∧s.t 2= .ref 0 0 0∧s.t 4= .ref 1 0 0∧s.t 5= .ref 2 0 0∧s.t 10= .ref 3 0 0∧s.t 11= .sref wid 0 ws.length∧s.t 12=bv full∧s.t 89=aD rl∧s.t 90=iv rl.length∧s.t 91=iv k∧s.H[0]?=some (some (ln d))∧s.H[1]?=some (some mC)∧s.H[2]?=some (some rM)∧s.H[3]?=some (some (sQ a))∧s.H[wid]?=some (some ⟨3,1,aj bg ws⟩):=⟨_,rfl⟩
  refine ay I (rl.length) (by rw[hN];rfl) ?_ ?_
  ·rw[hI]
   refine⟨0,4,d.Account,[],false,by omega,by omega,by rw[hg];rfl,hd.a,by simp,by omega,by simp -dsimp[-getElem?_pos,go_sem,t1],by simp -dsimp[-getElem?_pos,go_sem,t2],by simp -dsimp[-getElem?_pos,go_sem,t4],by simp -dsimp[-getElem?_pos,go_sem,t5],by simp -dsimp[-getElem?_pos,go_sem],by simp -dsimp[-getElem?_pos,go_sem],by simp -dsimp[-getElem?_pos,go_sem],by simp -dsimp[-getElem?_pos,go_sem],by simp -dsimp[-getElem?_pos,go_sem],by simp -dsimp[-getElem?_pos,go_sem],by simp -dsimp[-getElem?_pos,go_sem],by simp -dsimp[-getElem?_pos,go_sem],by simp -dsimp[-getElem?_pos,go_sem],by simp -dsimp[-getElem?_pos,go_sem],by simp -dsimp[-getElem?_pos,go_sem,aj]⟩
  clear t1 t2 t4 t5 hg
  intro m s hs'
  rw[hI]at hs'
  obtain⟨k,wid,a,ws,full,hk,hm,hgo,hca,hw10,hwid,t1,t2,t4,t5,t10,t11,t12,t89,t90,t91,h0,h1,h2,h3,hH⟩:=hs'
  have g0:=(gsI h0)
  have g1:=(gsI h1)
  have g2:=(gsI h2)
  have g3:=(gsI h3)
  have gw:=(gsI hH)
  have fin:goD d day=(a,ws,full)→∀s':St,s'.t 1=iv day→s'.t 2= .ref 0 0 0→s'.t 4= .ref 1 0 0→s'.t 5= .ref 2 0 0→s'.t 10= .ref 3 0 0→s'.t 11= .sref wid 0 ws.length→s'.t 12=bv full→s'.H[0]?=some (some (ln d))→s'.H[1]?=some (some mC)→s'.H[2]?=some (some rM)→s'.H[3]?=some (some (sQ a))→s'.H[wid]?=some (some ⟨3,1,aj bg ws⟩)→OJ E Inv s':=fun e s' a1 a2 a3 a4 a0 a5 a6 a7 a8 a9 a10 a11=>by
   have lw:((aj bg ws).drop 0).take ws.length=aj bg ws:=by rw[List.drop_zero,List.take_of_length_le (by rw[al];exact Nat.le_refl _)]
   refine⟨_,uO hW 11 a5 a11 (by dsimp only;rw[lw];exact fN ws),?_⟩
   rw[hInv,e]
   dsimp only
   rw[lw]
   refine⟨by simp -dsimp[-getElem?_pos,go_sem,a1],by simp -dsimp[-getElem?_pos,go_sem,a2],by simp -dsimp[-getElem?_pos,go_sem,a3],by simp -dsimp[-getElem?_pos,go_sem,a4],by simp -dsimp[-getElem?_pos,go_sem,a0],by simp -dsimp[-getElem?_pos,go_sem],by simp -dsimp[-getElem?_pos,go_sem,a6],?_,?_,?_,?_⟩
   ·rw[List.getElem?_set_ne (by omega),a7]
   ·rw[List.getElem?_set_ne (by omega),a8]
   ·rw[List.getElem?_set_ne (by omega),a9]
   ·rw[List.getElem?_set_ne (by omega),a10]
  simp -dsimp -implicitDefEqProofs [-getElem?_pos,go_sem,hP,t90,t91]
  refine aB (fun hh=>?_) (fun hh=>?_)
  rotate_left
  ·have hk:k=rl.length:=by simp at hh;omega
   subst hk
   rw[List.drop_length,eE]at hgo
   simp -dsimp -implicitDefEqProofs [-getElem?_pos,go_sem,hP]
   exact fin hgo _ (by simp -dsimp[-getElem?_pos,go_sem,t1]) (by simp -dsimp[-getElem?_pos,go_sem,t2]) (by simp -dsimp[-getElem?_pos,go_sem,t4]) (by simp -dsimp[-getElem?_pos,go_sem,t5]) (by simp -dsimp[-getElem?_pos,go_sem,t10]) (by simp -dsimp[-getElem?_pos,go_sem,t11]) (by simp -dsimp[-getElem?_pos,go_sem,t12]) (by simp -dsimp[-getElem?_pos,go_sem,h0]) (by simp -dsimp[-getElem?_pos,go_sem,h1]) (by simp -dsimp[-getElem?_pos,go_sem,h2]) (by simp -dsimp[-getElem?_pos,go_sem,h3]) (by simp -dsimp[-getElem?_pos,go_sem,hH])
  have hk:k<rl.length:=by simpa using hh
  obtain⟨p,hp⟩:∃p,rl[k]?=some p:=⟨_,List.getElem?_eq_getElem hk⟩
  have wk:=af ((k:Int)+1) (by omega)
  rw[cK hp,eE]at hgo
  by_cases c5:ws.length=10
  ·have d5:decide ((ws.length:Int)=10)=true:=decide_eq_true (by omega)
   rw[if_pos c5]at hgo
   simp -dsimp -implicitDefEqProofs [-getElem?_pos,go_sem,hP,t89,t91,hp,cPy,t11,hH,gw,d5,c5]
   exact fin hgo _ (by simp -dsimp[-getElem?_pos,go_sem,t1]) (by simp -dsimp[-getElem?_pos,go_sem,t2]) (by simp -dsimp[-getElem?_pos,go_sem,t4]) (by simp -dsimp[-getElem?_pos,go_sem,t5]) (by simp -dsimp[-getElem?_pos,go_sem,t10]) (by simp -dsimp[-getElem?_pos,go_sem,t11]) (by simp -dsimp[-getElem?_pos,go_sem,t12]) (by simp -dsimp[-getElem?_pos,go_sem,h0,g0]) (by simp -dsimp[-getElem?_pos,go_sem,h1,g1]) (by simp -dsimp[-getElem?_pos,go_sem,h2,g2]) (by simp -dsimp[-getElem?_pos,go_sem,h3,g3]) (by simp -dsimp[-getElem?_pos,go_sem,hH,gw])
  have d5:decide ((ws.length:Int)=10)=false:=decide_eq_false (by omega)
  rw[if_neg c5]at hgo
  simp -dsimp -implicitDefEqProofs [-getElem?_pos,go_sem,hP,t89,t91,hp,cPy,t11,hH,gw,d5,c5]
  obtain⟨pb,hpb⟩:∃pb,pb=s.H.length:=⟨_,rfl⟩
  obtain⟨H1,hH1⟩:∃H1,H1=s.H++[some (⟨81,5,[[iv p.Warrant,iv p.Payee,iv p.Amount,iv p.Due,iv p.Sub]]⟩:AObj)]:=⟨_,rfl⟩
  have l1:H1.length=pb+1:=by rw[hH1,hpb];simp
  have k0:H1[0]?=some (some (ln d)):=by rw[hH1,List.getElem?_append_left g0];exact h0
  have k1:H1[1]?=some (some mC):=by rw[hH1,List.getElem?_append_left g1];exact h1
  have k2:H1[2]?=some (some rM):=by rw[hH1,List.getElem?_append_left g2];exact h2
  have k3:H1[3]?=some (some (sQ a)):=by rw[hH1,List.getElem?_append_left g3];exact h3
  have kw:H1[wid]?=some (some ⟨3,1,aj bg ws⟩):=by rw[hH1,List.getElem?_append_left gw];exact hH
  have kp:H1[pb]?=some (some ⟨81,5,[[iv p.Warrant,iv p.Payee,iv p.Amount,iv p.Due,iv p.Sub]]⟩):=by rw[hH1,hpb,List.getElem?_append_right (Nat.le_refl _),Nat.sub_self];rfl
  simp only[←hH1,←hpb]
  have q0:0<H1.length:=by omega
  have q1:1<H1.length:=by omega
  have q2:2<H1.length:=by omega
  have q3:3<H1.length:=by omega
  have qw:wid<H1.length:=by omega
  have qp:pb<H1.length:=by omega
  have sl:=rj hca
  have iac:=dc a
  have nx:=qZ a day p.Sub 0 p.Amount p.Warrant sl.2
  obtain⟨e,hee⟩:∃e,e=bO a day p.Sub 0 p.Amount p.Warrant:=⟨_,rfl⟩
  rw[←hee]at nx hgo
  have ie:=dW e
  have po:=rC a e sl.1 sl.2
  have io:=dc (bw a e).1
  simp only[cA]at iac nx po io
  refine qX (fun i=>decide (i=3)||decide (i=pb)) [15] [9,10] hP (by kernel_rfl) (by kernel_rfl) ?_
  simp -dsimp -implicitDefEqProofs [-getElem?_pos,go_sem,hP,t10,t1,k3,q3,kp,qp]
  refine jD (nx.lift _ _) hP C7 (by simpa[ar]using iac) ie ?_
  simp -dsimp -implicitDefEqProofs [-getElem?_pos,go_sem,hP,t10,t1,k3,q3,kp,qp]
  refine jD (po.lift _ _) hP Dg (by simpa using⟨iac,ie⟩) (ak io .sc) ?_
  obtain⟨b,hb⟩:∃b,b=(bw a e).1:=⟨_,rfl⟩
  obtain⟨H2',hH2⟩:∃H2',H2'=H1++[some (sQ b)]:=⟨_,rfl⟩
  have l2:H2'.length=pb+2:=by rw[hH2];simp;omega
  have j0:H2'[0]?=some (some (ln d)):=by rw[hH2,List.getElem?_append_left q0];exact k0
  have j1:H2'[1]?=some (some mC):=by rw[hH2,List.getElem?_append_left q1];exact k1
  have j2:H2'[2]?=some (some rM):=by rw[hH2,List.getElem?_append_left q2];exact k2
  have j3:H2'[3]?=some (some (sQ a)):=by rw[hH2,List.getElem?_append_left q3];exact k3
  have jw:H2'[wid]?=some (some ⟨3,1,aj bg ws⟩):=by rw[hH2,List.getElem?_append_left qw];exact kw
  have jp:H2'[pb]?=some (some ⟨81,5,[[iv p.Warrant,iv p.Payee,iv p.Amount,iv p.Due,iv p.Sub]]⟩):=by rw[hH2,List.getElem?_append_left qp];exact kp
  have ja:H2'[pb+1]?=some (some (sQ b)):=by rw[hH2,←l1,List.getElem?_append_right (Nat.le_refl _),Nat.sub_self];rfl
  have z0:0<H2'.length:=by omega
  have z1:1<H2'.length:=by omega
  have z2:2<H2'.length:=by omega
  have z3:3<H2'.length:=by omega
  have zw:wid<H2'.length:=by omega
  have zp:pb<H2'.length:=by omega
  have za:pb+1<H2'.length:=by omega
  rw[←hb]at hgo
  simp -dsimp -implicitDefEqProofs [-getElem?_pos,go_sem,hP,t10,t1,k3,q3,kp,qp]
  refine⟨fun i hi=>?_,?_⟩
  ·simp only[Bool.or_eq_true,decide_eq_true_eq]at hi
   rw[List.getElem?_append_left (by omega)]
  rw[←hb,←hH2,l1]
  have lws:(aj bg ws).length=ws.length:=al _ _
  have wpb:wid<pb:=by rw[hpb];exact gw
  have nw3:¬wid=3:=by omega
  have next:∀(s':St) (wid':Nat) (a':TAccount) (ws':List Int) (full':Bool),goD d day=eE day (rl.drop (k+1)) a' ws' full'→aF a'=0→ws'.length≤10→4≤wid'→s'.t 1=iv day→s'.t 2= .ref 0 0 0→s'.t 4= .ref 1 0 0→s'.t 5= .ref 2 0 0→s'.t 10= .ref 3 0 0→s'.t 11= .sref wid' 0 ws'.length→s'.t 12=bv full'→s'.t 89=aD rl→s'.t 90=iv rl.length→s'.t 91=iv (k+1)→s'.H[0]?=some (some (ln d))→s'.H[1]?=some (some mC)→s'.H[2]?=some (some rM)→s'.H[3]?=some (some (sQ a'))→s'.H[wid']?=some (some ⟨3,1,aj bg ws'⟩)→∃m',m'<m∧I m' s':=fun s' wid' a' ws' full' x1 x2 x3 x4 x5 x6 x7 x8 x9 x10 x11 x12 x13 x14 x15 x16 x17 x18 x19=>by
   refine⟨rl.length-(k+1),by omega,?_⟩
   rw[hI]
   exact⟨k+1,wid',a',ws',full',by omega,rfl,x1,x2,x3,x4,x5,x6,x7,x8,x9,x10,x11,x12,x13,x14,x15,x16,x17,x18,x19⟩
  by_cases c6:(bw a e).2=0
  rotate_left
  ·rw[if_neg c6]at hgo
   have d6:=decide_eq_false c6
   cases full
   ·rw[Bool.false_or]at hgo
    simp -dsimp -implicitDefEqProofs [-getElem?_pos,go_sem,hP,t12,c6,d6,t91,wk]
    exact next _ wid a ws _ hgo hca hw10 hwid (by simp -dsimp[-getElem?_pos,go_sem,t1]) (by simp -dsimp[-getElem?_pos,go_sem,t2]) (by simp -dsimp[-getElem?_pos,go_sem,t4]) (by simp -dsimp[-getElem?_pos,go_sem,t5]) (by simp -dsimp[-getElem?_pos,go_sem,t10]) (by simp -dsimp[-getElem?_pos,go_sem,t11]) (by simp -dsimp[-getElem?_pos,go_sem]) (by simp -dsimp[-getElem?_pos,go_sem,t89]) (by simp -dsimp[-getElem?_pos,go_sem,t90]) (by simp -dsimp[-getElem?_pos,go_sem]) (by simp -dsimp[-getElem?_pos,go_sem,j0]) (by simp -dsimp[-getElem?_pos,go_sem,j1]) (by simp -dsimp[-getElem?_pos,go_sem,j2]) (by simp -dsimp[-getElem?_pos,go_sem,j3]) (by simp -dsimp[-getElem?_pos,go_sem,jw])
   ·rw[Bool.true_or]at hgo
    simp -dsimp -implicitDefEqProofs [-getElem?_pos,go_sem,hP,t12,c6,d6,t91,wk]
    exact next _ wid a ws _ hgo hca hw10 hwid (by simp -dsimp[-getElem?_pos,go_sem,t1]) (by simp -dsimp[-getElem?_pos,go_sem,t2]) (by simp -dsimp[-getElem?_pos,go_sem,t4]) (by simp -dsimp[-getElem?_pos,go_sem,t5]) (by simp -dsimp[-getElem?_pos,go_sem,t10]) (by simp -dsimp[-getElem?_pos,go_sem,t11]) (by simp -dsimp[-getElem?_pos,go_sem]) (by simp -dsimp[-getElem?_pos,go_sem,t89]) (by simp -dsimp[-getElem?_pos,go_sem,t90]) (by simp -dsimp[-getElem?_pos,go_sem]) (by simp -dsimp[-getElem?_pos,go_sem,j0]) (by simp -dsimp[-getElem?_pos,go_sem,j1]) (by simp -dsimp[-getElem?_pos,go_sem,j2]) (by simp -dsimp[-getElem?_pos,go_sem,j3]) (by simp -dsimp[-getElem?_pos,go_sem,jw])
  have en:aj bg ws++[[AV.sc (.int .i64 p.Warrant)]]=aj bg (ws++[p.Warrant]):=aV bg ws p.Warrant
  have old:∀j,j≠wid→j≠3→j<H2'.length→((List.set H2' wid none).set 3 (some (sQ b))++[some (⟨3,1,aj bg ws++[[AV.sc (.int .i64 p.Warrant)]]⟩:AObj)])[j]?=H2'[j]?:=fun j h1 h3 h2=>by
   rw[List.getElem?_append_left (by rw[List.length_set,List.length_set];exact h2),List.getElem?_set_ne (Ne.symm h3),List.getElem?_set_ne (Ne.symm h1)]
  have u3:((List.set H2' wid none).set 3 (some (sQ b))++[some (⟨3,1,aj bg ws++[[AV.sc (.int .i64 p.Warrant)]]⟩:AObj)])[3]?=some (some (sQ b)):=by rw[List.getElem?_append_left (by rw[List.length_set,List.length_set];exact z3),List.getElem?_set_self (by rw[List.length_set];exact z3)]
  have uw:((List.set H2' wid none).set 3 (some (sQ b))++[some (⟨3,1,aj bg ws++[[AV.sc (.int .i64 p.Warrant)]]⟩:AObj)])[pb+2]?=some (some ⟨3,1,aj bg (ws++[p.Warrant])⟩):=by
   rw[←l2,List.getElem?_append_right (by simp),List.length_set,List.length_set,Nat.sub_self,en];rfl
  cases full
  ·rw[if_pos c6]at hgo
   simp -dsimp -implicitDefEqProofs [-getElem?_pos,go_sem,hP,t12,c6]
   refine ao (fun i=>decide (i=pb)||decide (i=pb+1)) [6] hP (by kernel_rfl) (by kernel_rfl) ?_
   simp -dsimp -implicitDefEqProofs [-getElem?_pos,go_sem,hP,t10,t11,j3,z3,jp,zp,ja,za,jw,zw,lws,nw3,t91,wk]
   refine⟨by omega,by omega,fun j hj=>?_,?_⟩
   ·simp only[Bool.or_eq_true,decide_eq_true_eq]at hj
    rw[List.getElem?_append_left (by rw[List.length_set];omega),List.getElem?_set_ne (by omega)]
   exact next _ (pb+2) b (ws++[p.Warrant]) _ hgo (hb▸fX c6) (by rw[List.length_append,List.length_singleton];omega) (by omega) (by simp -dsimp[-getElem?_pos,go_sem,t1]) (by simp -dsimp[-getElem?_pos,go_sem,t2]) (by simp -dsimp[-getElem?_pos,go_sem,t4]) (by simp -dsimp[-getElem?_pos,go_sem,t5]) (by simp -dsimp[-getElem?_pos,go_sem,t10]) (by simp -dsimp[-getElem?_pos,go_sem,l2]) (by simp -dsimp[-getElem?_pos,go_sem]) (by simp -dsimp[-getElem?_pos,go_sem,t89]) (by simp -dsimp[-getElem?_pos,go_sem,t90]) (by simp -dsimp[-getElem?_pos,go_sem]) ((old 0 (by omega) (by omega) z0).trans j0) ((old 1 (by omega) (by omega) z1).trans j1) ((old 2 (by omega) (by omega) z2).trans j2) u3 uw
  ·rw[if_pos c6]at hgo
   simp -dsimp -implicitDefEqProofs [-getElem?_pos,go_sem,hP,t12,c6]
   refine ao (fun i=>decide (i=pb)||decide (i=pb+1)) [6] hP (by kernel_rfl) (by kernel_rfl) ?_
   simp -dsimp -implicitDefEqProofs [-getElem?_pos,go_sem,hP,t10,t11,j3,z3,jp,zp,ja,za,jw,zw,lws,nw3,t91,wk]
   refine⟨by omega,by omega,fun j hj=>?_,?_⟩
   ·simp only[Bool.or_eq_true,decide_eq_true_eq]at hj
    rw[List.getElem?_append_left (by rw[List.length_set];omega),List.getElem?_set_ne (by omega)]
   exact next _ (pb+2) b (ws++[p.Warrant]) _ hgo (hb▸fX c6) (by rw[List.length_append,List.length_singleton];omega) (by omega) (by simp -dsimp[-getElem?_pos,go_sem,t1]) (by simp -dsimp[-getElem?_pos,go_sem,t2]) (by simp -dsimp[-getElem?_pos,go_sem,t4]) (by simp -dsimp[-getElem?_pos,go_sem,t5]) (by simp -dsimp[-getElem?_pos,go_sem,t10]) (by simp -dsimp[-getElem?_pos,go_sem,l2]) (by simp -dsimp[-getElem?_pos,go_sem]) (by simp -dsimp[-getElem?_pos,go_sem,t89]) (by simp -dsimp[-getElem?_pos,go_sem,t90]) (by simp -dsimp[-getElem?_pos,go_sem]) ((old 0 (by omega) (by omega) z0).trans j0) ((old 1 (by omega) (by omega) z1).trans j1) ((old 2 (by omega) (by omega) z2).trans j2) u3 uw
 intro s hs'
 rw[hInv]at hs'
 obtain⟨t1,t2,t4,t5,t10,t11,t12,h0,h1,h2,h3⟩:=hs'
 clear hInv Inv
 obtain⟨G,hG⟩:∃G,G=goD d day:=⟨_,rfl⟩
 have hws:=Nh hd.q day
 rw[←hG]at t11 t12 h3 hws hca hcl
 have g0:=(gsI h0)
 have g1:=(gsI h1)
 have g2:=(gsI h2)
 have g3:=(gsI h3)
 have hsd:dw d day=if G.2.1.length=0 then (cI,dt,if G.2.2=true then 3 else 10)else if (ce d.Queue day G.2.1).2.2=0 then (⟨G.1,(ce d.Queue day G.2.1).1,d.Items.map (eS G.2.1)⟩,(ce d.Queue day G.2.1).2.1,0)else (cI,dt,(ce d.Queue day G.2.1).2.2):=by
  rw[dw,if_pos c1,if_pos c2,if_neg c3,←hG]
 refine bP _ _ _ (by rw[hN];kernel_rfl) ?_
 by_cases c4:G.2.1.length=0
 ·rw[if_pos c4]at hsd
  have d4:decide ((G.2.1.length:Int)=0)=true:=decide_eq_true (by omega)
  cases hfull:G.2.2
  ·rw[hfull]at t12 hsd
   simp -dsimp -implicitDefEqProofs [-getElem?_pos,go_sem,hP,t11,d4,c4,t4,t5,h1,g1,h2,g2,t12]
   exact dv (zer _ hsd)
  ·rw[hfull]at t12 hsd
   simp -dsimp -implicitDefEqProofs [-getElem?_pos,go_sem,hP,t11,d4,c4,t4,t5,h1,g1,h2,g2,t12]
   exact dv (zer _ hsd)
 rw[if_neg c4]at hsd
 have d4:decide ((G.2.1.length:Int)=0)=false:=decide_eq_false (by omega)
 have lG:G.2.1.length≤100000:=by omega
 have tk:=Hg d.Queue day G.2.1 hf.q lG
 have iq:=da d.Queue
 have iqq:=da (ce d.Queue day G.2.1).1
 have ibb:=Er (ce d.Queue day G.2.1).2.1
 have iws:=fN G.2.1
 have e1:aC G.2.1=eN G.2.1:=rfl
 simp only[cQn,cBt,e1]at tk iq iqq ibb
 simp -dsimp -implicitDefEqProofs [-getElem?_pos,go_sem,hP,t11,d4,c4,t1,t2,h0,g0]
 refine ae (tk.lift _ _) hP NJ (by simp[ar];exact⟨by simpa using iq,iws⟩) (eI iqq ibb .sc) ?_
 by_cases c5:(ce d.Queue day G.2.1).2.2=0
 rotate_left
 ·rw[if_neg c5]at hsd
  have d5:=decide_eq_false c5
  simp -dsimp -implicitDefEqProofs [-getElem?_pos,go_sem,hP,d5,t4,t5,h1,g1,h2,g2]
  exact dv (zer _ hsd)
 rw[if_pos c5]at hsd
 obtain⟨q',hq'⟩:∃q',q'=(ce d.Queue day G.2.1).1:=⟨_,rfl⟩
 obtain⟨bt,hbt⟩:∃bt,bt=(ce d.Queue day G.2.1).2.1:=⟨_,rfl⟩
 simp only[←hq',←hbt]at hsd iqq ibb
 simp -dsimp -implicitDefEqProofs [-getElem?_pos,go_sem,hP,c5,←hq',←hbt]
 obtain⟨n,hn⟩:∃n,n=s.H.length:=⟨_,rfl⟩
 obtain⟨H5,hH5⟩:∃H5,H5=s.H++[some ⟨32,3,[[aD q'.Waiting,eN q'.Known,be q'.Batches]]⟩,some (⟨140,3,[[iv bt.Number,iv bt.Day,aD bt.Payments]]⟩:AObj)]:=⟨_,rfl⟩
 have l5:H5.length=n+2:=by rw[hH5,hn];simp
 have old:∀j,j<s.H.length→H5[j]?=s.H[j]?:=fun j h2=>by rw[hH5,List.getElem?_append_left h2]
 have u0:=(old 0 g0).trans h0
 have u1:=(old 1 g1).trans h1
 have u2:=(old 2 g2).trans h2
 have u3:=(old 3 g3).trans h3
 have uq:H5[n]?=some (some ⟨32,3,[[aD q'.Waiting,eN q'.Known,be q'.Batches]]⟩):=by rw[hH5,hn,List.getElem?_append_right (Nat.le_refl _),Nat.sub_self];rfl
 have ub:H5[n+1]?=some (some ⟨140,3,[[iv bt.Number,iv bt.Day,aD bt.Payments]]⟩):=by rw[hH5,hn,List.getElem?_append_right (by omega),Nat.add_sub_cancel_left];rfl
 rw[←hn]at g0 g1 g2 g3
 rw[←hH5,←hn]
 have v0:0<H5.length:=by omega
 have v3:3<H5.length:=by omega
 have vq:n<H5.length:=by omega
 have vb:n+1<H5.length:=by omega
 refine ao (fun i=>decide (i=3)||decide (i=n)) [2,4,5] hP (by kernel_rfl) (by kernel_rfl) ?_
 simp -dsimp -implicitDefEqProofs [-getElem?_pos,go_sem,hP,t10,t2,u3,v3,uq,vq,u0,v0]
 refine⟨fun j hj=>?_,?_⟩
 ·simp only[Bool.or_eq_true,decide_eq_true_eq]at hj
  rw[List.getElem?_set_ne (by omega)]
 simp -dsimp -implicitDefEqProofs [-getElem?_pos,go_sem,hP,t11]
 obtain⟨ws,hwsd⟩:∃ws,ws=G.2.1:=⟨_,rfl⟩
 rw[←hwsd]at hws hsd
 have lws10:ws.length≤10:=by rw[hwsd];exact hcl
 obtain⟨K,hK⟩:∃I:Nat→St→Prop,I=fun m s=>∃k:Nat,k≤ws.length∧m=ws.length-k∧s.t 2= .ref 0 0 0∧s.t 4= .ref 1 0 0∧s.t 5= .ref 2 0 0∧s.t 18= .ref (n+1) 0 0∧s.t 152=eN ws∧s.t 153=iv ws.length∧s.t 154=iv k∧s.H[0]?=some (some (ln ⟨G.1,q',d.Items.map (eS (ws.take k))⟩))∧s.H[1]?=some (some mC)∧s.H[2]?=some (some rM)∧s.H[n+1]?=some (some ⟨140,3,[[iv bt.Number,iv bt.Day,aD bt.Payments]]⟩):=⟨_,rfl⟩
 refine ay K (ws.length) (by rw[hN];rfl) ?_ ?_
 ·rw[hK]
  refine⟨0,by omega,by omega,by simp -dsimp[-getElem?_pos,go_sem,t2],by simp -dsimp[-getElem?_pos,go_sem,t4],by simp -dsimp[-getElem?_pos,go_sem,t5],by simp -dsimp[-getElem?_pos,go_sem,hn],by simp -dsimp[-getElem?_pos,go_sem,hwsd],by simp -dsimp[-getElem?_pos,go_sem,hwsd],by simp -dsimp[-getElem?_pos,go_sem],?_,?_,?_,?_⟩
  ·rw[List.take_zero,FX]
   simp -dsimp -implicitDefEqProofs [-getElem?_pos,go_sem,v0]
  ·dsimp only;rw[List.getElem?_set_ne (by omega)];exact u1
  ·dsimp only;rw[List.getElem?_set_ne (by omega)];exact u2
  ·dsimp only;rw[List.getElem?_set_ne (by omega)];exact ub
 clear t1 t2 t4 t5 t10 t11 t12 h0 h1 h2 h3 u0 u1 u2 u3 uq ub
 intro m s hs'
 rw[hK]at hs'
 obtain⟨k,hk,hm,t2,t4,t5,t18,t152,t153,t154,h0,h1,h2,hb⟩:=hs'
 have g0:=(gsI h0)
 have g1:=(gsI h1)
 have g2:=(gsI h2)
 have gb:=(gsI hb)
 simp -dsimp -implicitDefEqProofs [-getElem?_pos,go_sem,hP,t153,t154]
 refine aB (fun hh=>?_) (fun hh=>?_)
 ·have hk:k<ws.length:=by simpa using hh
  obtain⟨w,hw⟩:∃w,ws[k]?=some w:=⟨_,List.getElem?_eq_getElem hk⟩
  have wk:=af ((k:Int)+1) (by omega)
  obtain⟨p,hp,hpw⟩:=hws.2 w (List.mem_of_getElem? hw)
  obtain⟨i,x,hx,hxp,hxs⟩:=Fl hd ((mb d.Queue day).subset hp)
  have hxw:x.Payment.Warrant=w:=by rw[hxp,hpw]
  have hnw:w∉ws.take k:=fun h=>by
   have h2:ws=ws.take k++ws.drop k:=(List.take_append_drop k ws).symm
   have h1:=hws.1
   rw[h2]at h1
   refine (List.nodup_append.1 h1).2.2 _ h w ?_ rfl
   rw[cK hw]
   simp
  obtain⟨hxL,hset⟩:=E5 hd.nd hx (ws:=ws.take k) (by rw[hxw];exact hnw)
  have hxa:0≤x.Attempts∧x.Attempts≤5:=(Du hd (List.mem_of_getElem? hx)).2.2.2.1
  have wa:=af (x.Attempts+1) (by omega)
  obtain⟨L,hL⟩:∃L,L=d.Items.map (eS (ws.take k)):=⟨_,rfl⟩
  have lL:L.length=d.Items.length:=by rw[hL,List.length_map]
  have hLw:L.map wrt=d.Items.map wrt:=by rw[hL,xK]
  rw[←hL]at h0 hxL hset
  rw[hxw,←bR hw]at hset
  have hpos:p6 L w=i:=by rw[←hxw];exact tb (by rw[hLw];exact hd.nd) hxL
  have rt:=Ko ⟨G.1,q',L⟩ w (by simp only;omega)
  have wt:=ti ⟨G.1,q',L⟩ i ⟨x.Payment,2,x.Attempts+1⟩ (by simp only;omega) (by simp only;exact (gsI hxL))
  have iL:=dG ⟨G.1,q',L⟩
  have iL2:=dG ⟨G.1,q',L.set i ⟨x.Payment,2,x.Attempts+1⟩⟩
  have ix2:=eh ⟨x.Payment,2,x.Attempts+1⟩
  rw[hset]at wt iL2
  simp only[hpos]at rt
  simp only[cDn,cIt]at rt wt iL iL2 ix2
  simp -dsimp -implicitDefEqProofs [-getElem?_pos,go_sem,hP,t152,t154,hw,bg,t2,h0,g0]
  refine ae (rt.lift _ _) hP HF (by simpa[ar]using iL) .sc ?_
  simp -dsimp -implicitDefEqProofs [-getElem?_pos,go_sem,hP,t2,h0,g0,hxL,cIt,wa]
  refine ae (wt.lift _ _) hP yw (by simpa[ar]using⟨iL,ix2⟩) iL2 ?_
  have g0':∀y:Option AObj,(s.H++[y])[0]?=s.H[0]?:=fun y=>List.getElem?_append_left g0
  simp -dsimp -implicitDefEqProofs [-getElem?_pos,go_sem,hP,t2,g0',h0,g0,t154,wk]
  refine⟨ws.length-(k+1),by omega,?_⟩
  rw[hK]
  refine⟨k+1,by omega,rfl,by simp -dsimp[-getElem?_pos,go_sem,t2],by simp -dsimp[-getElem?_pos,go_sem,t4],by simp -dsimp[-getElem?_pos,go_sem,t5],by simp -dsimp[-getElem?_pos,go_sem,t18],by simp -dsimp[-getElem?_pos,go_sem,t152],by simp -dsimp[-getElem?_pos,go_sem,t153],by simp -dsimp[-getElem?_pos,go_sem],?_,?_,?_,?_⟩
  ·simp -dsimp -implicitDefEqProofs [-getElem?_pos,go_sem,g0]
  ·simp -dsimp -implicitDefEqProofs [-getElem?_pos,go_sem,g1,h1]
  ·simp -dsimp -implicitDefEqProofs [-getElem?_pos,go_sem,g2,h2]
  ·have nb:¬0=n+1:=by omega
   simp -dsimp -implicitDefEqProofs [-getElem?_pos,go_sem,gb,hb,nb]
 ·have hk:k=ws.length:=by simp at hh;omega
  subst hk
  rw[List.take_length]at h0
  simp -dsimp -implicitDefEqProofs [-getElem?_pos,go_sem,hP]
  have n12:¬1=2:=by omega
  refine ao (fun i=>decide (i=0)||decide (i=n+1)) [] hP (by kernel_rfl) (by kernel_rfl) ?_
  simp -dsimp -implicitDefEqProofs [-getElem?_pos,go_sem,hP,t2,t4,t5,t18,h0,g0,h1,g1,h2,g2,hb,gb,n12]
  refine⟨fun j hj=>?_,fun j hj=>?_,?_⟩
  ·simp only[Bool.or_eq_true,decide_eq_true_eq]at hj
   rw[List.getElem?_set_ne (by omega)]
  ·simp only[Bool.or_eq_true,decide_eq_true_eq]at hj
   rw[List.getElem?_set_ne (by omega)]
  have iD:=dG ⟨G.1,q',d.Items.map (eS ws)⟩
  refine nK (cs':=TDesk.cells ⟨G.1,q',d.Items.map (eS ws)⟩) (ds':=TBatch.cells bt) (tj (az.1 iD)) (tj (az.1 ibb)) ?_
  rw[hR,hsd]
open Go.PA
open Go.RowKit
abbrev zO:AObj:=⟨50,15,[[iv 0,.nil,.nil,.nil,.nil,.nil,.nil,.nil,.nil,.nil,.nil,.nil,.nil,.nil,.nil]]⟩
set_option maxHeartbeats 2000000 in
theorem E6 (s:TState) (hf:FitD s.Desk) (day f t n:Int):PFun Tryz.prog none none 149 [.agg s.cells,iv day,iv f,iv t,iv n] (·= .tup [.agg (zS (fH s day f t n)).1.cells,iv (zS (fH s day f t n)).2]):=by
 have nx:=qZ s.Desk.Account day f t n 0 hf.e
 have po:=rC s.Desk.Account (bO s.Desk.Account day f t n 0) hf.s hf.e
 have im:=dc s.Desk.Account
 have ie:=dW (bO s.Desk.Account day f t n 0)
 obtain⟨ee,hee⟩:∃ee,ee=bO s.Desk.Account day f t n 0:=⟨_,rfl⟩
 rw[←hee]at nx po ie
 obtain⟨b,e,hb⟩:∃b e,bw s.Desk.Account ee=(b,e):=⟨_,_,rfl⟩
 rw[hb]at po
 have ib:=dc b
 have hS:fH s day f t n=if e=0 then (zM s b,0)else (s,e):=by rw[fH,←hee,hb]
 have i2:=cT (zM s b)
 have c2:(zM s b).cells=[iv b.Credit,aT b.Subs,bM b.Entries,aD s.Desk.Queue.Waiting,.list 1 (aj bg s.Desk.Queue.Known),be s.Desk.Queue.Batches,cg s.Desk.Items,jf s.Cash.Claims,bD s.Cash.Incomes,fj s.Cash.Matches,.list 1 (aj bg s.Cash.Loose),bT s.Register.Securities,bz s.Register.Holdings,dZ s.Register.Moves,dq s.Ledger.Postings]:=rfl
 rw[cA]at nx po im ib
 rw[cA]at po
 rw[cE]at nx po ie
 rw[hS]
 refine ab Tryz.func149 rfl (by simp[Tryz.f149]) (by kernel_rfl) ?_
 intro E hP hr hs hW hN
 simp -dsimp -implicitDefEqProofs [-getElem?_pos,go_sem,hP,gL]
 refine qX (fun i=>decide (i<2)) [16] [10,11] hP (by kernel_rfl) (by kernel_rfl) ?_
 simp -dsimp -implicitDefEqProofs [-getElem?_pos,go_sem,hP,ax]
 refine gJ (nx.lift _ _) hP C7 (by simp[im,ar]) ⟨_,rfl,ie⟩ ?_
 rintro r rfl _
 simp -dsimp -implicitDefEqProofs [-getElem?_pos,go_sem,hP,ax]
 refine gJ (po.lift _ _) hP Dg (by simp[im,ie]) ⟨_,rfl,ak ib .sc⟩ ?_
 rintro r rfl _
 simp -dsimp -implicitDefEqProofs [-getElem?_pos,go_sem,hP,ax]
 refine⟨g7,?_⟩
 by_cases he:e=0
 ·subst he
  rw[if_pos rfl,P1]
  simp -dsimp -implicitDefEqProofs [-getElem?_pos,go_sem,hP]
  rw[c2]at i2⊢
  exact au (ak i2 .sc) rfl
 ·have d1:decide (e=0)=false:=decide_eq_false he
  rw[if_neg he,zG he]
  simp -dsimp -implicitDefEqProofs [-getElem?_pos,go_sem,hP,d1]
  exact aL (cs':=dh.cells) cS rfl
structure FitM (j:Nat) (s:TState):Prop where
 f:FitS j s
 s0:s.Register.Securities=jO
 mv:∀m,m∈s.Register.Moves→oC m
theorem nU (d:TDesk):d.cells=[iv d.Account.Credit,aT d.Account.Subs,bM d.Account.Entries,aD d.Queue.Waiting,.list 1 (aj bg d.Queue.Known),be d.Queue.Batches,cg d.Items]:=rfl
theorem qI {cs:List AV} {l:AV} {v:Value} (h1:Imm (.agg cs)) (h2:Imm l):Imm (.tup [.agg cs,l,.sc v]):=zH.2 fun a ha=>by
 simp only[List.mem_cons,List.not_mem_nil,or_false]at ha
 rcases ha with rfl|rfl|rfl
 ·exact h1
 ·exact h2
 ·exact .sc
theorem FU {cs ds:List AV} {v:Value} (h1:Imm (.agg cs)) (h2:Imm (.agg ds)):Imm (.tup [.agg cs,.agg ds,.sc v]):=qI h1 h2
set_option maxHeartbeats 16000000 in
theorem Gv {j:Nat} {s:TState} (d:TDeed) (h:FitM j s) (hj:j<399):PFun Tryz.prog none none 93 [.agg s.cells,.agg d.cells] (·= .tup [.agg (zS (doK s d)).1.cells,iv (zS (doK s d)).2]):=by
 have hf:=h.f
 have hd:=hf.d
 have hm:=hf.rm
 have id0:Imm (.agg s.Desk.cells):=az.2 s.Desk.imm
 have ic0:Imm (.agg s.Cash.cells):=az.2 s.Cash.imm
 have ir0:=gY s.Register
 have is0:=cT s
 obtain⟨R,hR⟩:∃R,R=doK s d:=⟨_,rfl⟩
 obtain⟨Q,hQ⟩:∃Q:AV→Prop,Q=(·= .tup [.agg (zS R).1.cells,iv (zS R).2]):=⟨_,rfl⟩
 rw[←hR,←hQ]
 have qo:∀x,R=(x,0)→Q (.tup [.agg x.cells,iv 0]):=fun x e=>by rw[hQ,e];rfl
 have qe:∀x e,R=(x,e)→e≠0→Q (.tup [.agg dh.cells,iv e]):=fun x e h1 h2=>by rw[hQ,h1,zG h2]
 have qs:Q (.tup [.agg (zS R).1.cells,iv (zS R).2]):=by rw[hQ]
 clear hQ
 have en:∀(x:TState) (day f t n:Int),FitD x.Desk→PFun Tryz.prog none none 149 [.agg x.cells,iv day,iv f,iv t,iv n] (·= .tup [.agg (zS (fH x day f t n)).1.cells,iv (zS (fH x day f t n)).2]):=fun x day f t n hx=>E6 x hx day f t n
 have cst:∀(D:TDesk) (C:TCash) (G:TRegister),(⟨D,C,G,s.Ledger⟩:TState).cells=[iv D.Account.Credit,aT D.Account.Subs,bM D.Account.Entries,aD D.Queue.Waiting,.list 1 (aj bg D.Queue.Known),be D.Queue.Batches,cg D.Items,jf C.Claims,bD C.Incomes,fj C.Matches,.list 1 (aj bg C.Loose),bT G.Securities,bz G.Holdings,dZ G.Moves,dq s.Ledger.Postings]:=fun D C G=>rfl
 have cst0:=gL s
 refine ab Tryz.func93 rfl (by simp[Tryz.f93]) (by kernel_rfl) ?_
 intro E hP hr hs hW hN
 have road:d.Kind=1∨d.Kind=2∨d.Kind=3∨d.Kind=4∨d.Kind=5∨d.Kind=6∨d.Kind=7∨d.Kind=8∨d.Kind=9∨(d.Kind≠1∧d.Kind≠2∧d.Kind≠3∧d.Kind≠4∧d.Kind≠5∧d.Kind≠6∧d.Kind≠7∧d.Kind≠8∧d.Kind≠9):=by omega
 rcases road with hk|hk|hk|hk|hk|hk|hk|hk|hk|hk
 ·have k1:decide (d.Kind=1)=true:=by rw[hk];rfl
  have hR2:R=fP s d:=by rw[hR,doK,if_pos hk]
  clear hR
  rw[fP]at hR2
  by_cases a1:d.Sub=1
  ·have b1:decide (d.Sub=1)=true:=decide_eq_true a1
   rw[if_pos a1]at hR2
   simp -dsimp -implicitDefEqProofs [-getElem?_pos,go_sem,hP,cst0,dH,k1,b1]
   exact aL (cs':=dh.cells) cS (qe s 60 hR2 (by omega))
  have b1:decide (d.Sub=1)=false:=decide_eq_false a1
  rw[if_neg a1]at hR2
  have tk:=Fx s.Cash.Incomes (yG s d) hf.cl
  rw[←hf.c]at tk
  have ici:=az.2 (yG s d).imm
  obtain⟨c',e,hT⟩:∃c' e,sv s.Cash.Incomes (yG s d)=(c',e):=⟨_,_,rfl⟩
  have hS:R=if e=0 then fH ⟨s.Desk,c',s.Register,s.Ledger⟩ d.Day 0 d.Sub d.Amount else (s,e):=by
   rw[hR2]
   rw[sv]at hT
   split at hT<;>rename_i ht<;>cases hT
   ·rw[if_pos ht,if_pos rfl]
   ·rw[if_neg ht,if_neg ht]
  clear hR2
  rw[hT]at tk
  have icr:=Ey c'
  have im:Imm (.list 3 []):=ij []
  have hin:(yG s d).cells=[iv (xW s.Cash),iv d.Day,iv d.Who,iv d.Amount,iv d.Ref]:=rfl
  have en1:=en ⟨s.Desk,c',s.Register,s.Ledger⟩ d.Day 0 d.Sub d.Amount hd
  have ien:=cT ⟨s.Desk,c',s.Register,s.Ledger⟩
  obtain⟨M,hM⟩:∃M,M=zS (fH ⟨s.Desk,c',s.Register,s.Ledger⟩ d.Day 0 d.Sub d.Amount):=⟨_,rfl⟩
  rw[←hM]at en1
  have iM:=cT M.1
  rw[cst]at en1 ien
  rw[gL M.1]at en1 iM
  rw[hin]at tk ici
  rw[JP]at tk ic0 icr
  rw[JP]at tk
  have fin1:e=0→Q (.tup [.agg M.1.cells,iv M.2]):=fun he=>by
   rw[if_pos he]at hS
   rw[hM,←hS]
   exact qs
  rw[gL M.1]at fin1
  rcases hlast:s.Cash.Incomes.getLast? with _|x
  ·have e0:s.Cash.Incomes=[]:=List.getLast?_eq_none_iff.1 hlast
   have n1:xW s.Cash=1:=by rw[xW,hlast]
   have l0:(s.Cash.Incomes.length:Int)=0:=by rw[e0];rfl
   have l1:s.Cash.Incomes.length=0:=by rw[e0];rfl
   rw[n1]at tk ici
   simp -dsimp -implicitDefEqProofs [-getElem?_pos,go_sem,hP,cst0,dH,k1,b1,al,l0,l1]
   refine ae (tk.lift _ _) hP J3 (by simp[ic0,ici]) (qI icr im) ?_
   by_cases he:e=0
   ·have fin:=fin1 he
    subst he
    simp -dsimp -implicitDefEqProofs [-getElem?_pos,go_sem,hP]
    refine ae (en1.lift _ _) hP u9 (by simp[ien,ar]) (ak iM .sc) ?_
    simp -dsimp -implicitDefEqProofs [-getElem?_pos,go_sem,hP]
    exact au (ak iM .sc) fin
   ·have de:decide (e=0)=false:=decide_eq_false he
    rw[if_neg he]at hS
    simp -dsimp -implicitDefEqProofs [-getElem?_pos,go_sem,hP,de]
    exact aL (cs':=dh.cells) cS (qe s e hS he)
  ·have n1:xW s.Cash=IntKind.i64.wrap (x.Number+1):=by rw[xW,hlast]
   obtain⟨k,e0,ex⟩:∃k,s.Cash.Incomes.length=k+1∧s.Cash.Incomes[k]?=some x:=by
    rw[List.getLast?_eq_getElem?]at hlast
    refine⟨s.Cash.Incomes.length-1,?_,hlast⟩
    have:=(gsI hlast)
    omega
   have d0:decide ((0:Int)<(s.Cash.Incomes.length:Int))=true:=decide_eq_true (by omega)
   have d0':0<s.Cash.Incomes.length:=by omega
   have hil:=hf.cl.2
   have wj:IntKind.i64.wrap ((s.Cash.Incomes.length:Int)-1)=(k:Int):=by rw[af _ (by omega)];omega
   rw[n1]at tk ici
   simp -dsimp -implicitDefEqProofs [-getElem?_pos,go_sem,hP,cst0,dH,k1,b1,al,d0,d0',wj,ex,Ki]
   refine ae (tk.lift _ _) hP J3 (by simp[ic0,ici]) (qI icr im) ?_
   by_cases he:e=0
   ·have fin:=fin1 he
    subst he
    simp -dsimp -implicitDefEqProofs [-getElem?_pos,go_sem,hP]
    refine ae (en1.lift _ _) hP u9 (by simp[ien,ar]) (ak iM .sc) ?_
    simp -dsimp -implicitDefEqProofs [-getElem?_pos,go_sem,hP]
    exact au (ak iM .sc) fin
   ·have de:decide (e=0)=false:=decide_eq_false he
    rw[if_neg he]at hS
    simp -dsimp -implicitDefEqProofs [-getElem?_pos,go_sem,hP,de]
    exact aL (cs':=dh.cells) cS (qe s e hS he)
 ·have k1:decide (d.Kind=1)=false:=by rw[hk];rfl
  have k2:decide (d.Kind=2)=true:=by rw[hk];rfl
  have hR2:R=fk s (cY s.Desk (sV d)).1 (cY s.Desk (sV d)).2:=by
   rw[hR,doK]
   rw[if_neg (by omega)]
   rw[if_pos hk]
  have cd:=CE s.Desk (sV d) hd
  obtain⟨D,e,hD⟩:∃D e,cY s.Desk (sV d)=(D,e):=⟨_,_,rfl⟩
  rw[hD]at cd hR2
  simp only[fk]at hR2
  have iD:Imm (.agg D.cells):=az.2 D.imm
  have i2:=cT (dQ s D)
  rw[nU]at cd id0 iD
  rw[nU]at cd
  have ip:=az.2 (sV d).imm
  have hp:(sV d).cells=[iv d.Ref,iv d.Who,iv d.Amount,iv d.Due,iv d.Sub]:=rfl
  rw[hp]at cd ip
  rw[dQ,cst]at i2
  simp -dsimp -implicitDefEqProofs [-getElem?_pos,go_sem,hP,cst0,dH,k1,k2]
  refine ae (cd.lift _ _) hP N8 (by simp[id0,ar,ip]) (ak iD .sc) ?_
  by_cases he:e=0
  ·subst he
   rw[if_pos rfl]at hR2
   have fin:=qo _ hR2
   rw[dQ,cst]at fin
   simp -dsimp -implicitDefEqProofs [-getElem?_pos,go_sem,hP]
   exact au (ak i2 .sc) fin
  ·have de:decide (e=0)=false:=decide_eq_false he
   rw[if_neg he]at hR2
   simp -dsimp -implicitDefEqProofs [-getElem?_pos,go_sem,hP,de]
   exact aL (cs':=dh.cells) cS (qe s e hR2 he)
 ·have k1:decide (d.Kind=1)=false:=by rw[hk];rfl
  have k2:decide (d.Kind=2)=false:=by rw[hk];rfl
  have k3:decide (d.Kind=3)=true:=by rw[hk];rfl
  have hR2:R=fk s (dw s.Desk d.Day).1 (dw s.Desk d.Day).2.2:=by
   rw[hR,doK]
   rw[if_neg (by omega)]
   rw[if_neg (by omega)]
   rw[if_pos hk]
  have cd:=Gs s.Desk d.Day hd
  obtain⟨D,Z,e,hD⟩:∃D Z e,dw s.Desk d.Day=(D,Z,e):=⟨_,_,_,rfl⟩
  rw[hD]at cd hR2
  simp only[fk]at hR2
  have iD:Imm (.agg D.cells):=az.2 D.imm
  have i2:=cT (dQ s D)
  rw[nU]at cd id0 iD
  rw[nU]at cd
  have iZ:=az.2 Z.imm
  rw[dQ,cst]at i2
  simp -dsimp -implicitDefEqProofs [-getElem?_pos,go_sem,hP,cst0,dH,k1,k2,k3]
  refine ae (cd.lift _ _) hP MG (by simp[id0,ar]) (FU iD iZ) ?_
  by_cases he:e=0
  ·subst he
   rw[if_pos rfl]at hR2
   have fin:=qo _ hR2
   rw[dQ,cst]at fin
   simp -dsimp -implicitDefEqProofs [-getElem?_pos,go_sem,hP]
   exact au (ak i2 .sc) fin
  ·have de:decide (e=0)=false:=decide_eq_false he
   rw[if_neg he]at hR2
   simp -dsimp -implicitDefEqProofs [-getElem?_pos,go_sem,hP,de]
   exact aL (cs':=dh.cells) cS (qe s e hR2 he)
 ·have k1:decide (d.Kind=1)=false:=by rw[hk];rfl
  have k2:decide (d.Kind=2)=false:=by rw[hk];rfl
  have k3:decide (d.Kind=3)=false:=by rw[hk];rfl
  have k4:decide (d.Kind=4)=true:=by rw[hk];rfl
  have hR2:R=fk s (dX s.Desk d.Ref).1 (dX s.Desk d.Ref).2:=by
   rw[hR,doK]
   rw[if_neg (by omega)]
   rw[if_neg (by omega)]
   rw[if_neg (by omega)]
   rw[if_pos hk]
  have cd:=As s.Desk d.Ref hd
  obtain⟨D,e,hD⟩:∃D e,dX s.Desk d.Ref=(D,e):=⟨_,_,rfl⟩
  rw[hD]at cd hR2
  simp only[fk]at hR2
  have iD:Imm (.agg D.cells):=az.2 D.imm
  have i2:=cT (dQ s D)
  rw[nU]at cd id0 iD
  rw[nU]at cd
  rw[dQ,cst]at i2
  simp -dsimp -implicitDefEqProofs [-getElem?_pos,go_sem,hP,cst0,dH,k1,k2,k3,k4]
  refine ae (cd.lift _ _) hP Nj (by simp[id0,ar]) (ak iD .sc) ?_
  by_cases he:e=0
  ·subst he
   rw[if_pos rfl]at hR2
   have fin:=qo _ hR2
   rw[dQ,cst]at fin
   simp -dsimp -implicitDefEqProofs [-getElem?_pos,go_sem,hP]
   exact au (ak i2 .sc) fin
  ·have de:decide (e=0)=false:=decide_eq_false he
   rw[if_neg he]at hR2
   simp -dsimp -implicitDefEqProofs [-getElem?_pos,go_sem,hP,de]
   exact aL (cs':=dh.cells) cS (qe s e hR2 he)
 ·have k1:decide (d.Kind=1)=false:=by rw[hk];rfl
  have k2:decide (d.Kind=2)=false:=by rw[hk];rfl
  have k3:decide (d.Kind=3)=false:=by rw[hk];rfl
  have k4:decide (d.Kind=4)=false:=by rw[hk];rfl
  have k5:decide (d.Kind=5)=true:=by rw[hk];rfl
  have hR2:R=fk s (dY s.Desk d.Ref d.Day).1 (dY s.Desk d.Ref d.Day).2:=by
   rw[hR,doK]
   rw[if_neg (by omega)]
   rw[if_neg (by omega)]
   rw[if_neg (by omega)]
   rw[if_neg (by omega)]
   rw[if_pos hk]
  have cd:=BT s.Desk d.Ref d.Day hd
  obtain⟨D,e,hD⟩:∃D e,dY s.Desk d.Ref d.Day=(D,e):=⟨_,_,rfl⟩
  rw[hD]at cd hR2
  simp only[fk]at hR2
  have iD:Imm (.agg D.cells):=az.2 D.imm
  have i2:=cT (dQ s D)
  rw[nU]at cd id0 iD
  rw[nU]at cd
  rw[dQ,cst]at i2
  simp -dsimp -implicitDefEqProofs [-getElem?_pos,go_sem,hP,cst0,dH,k1,k2,k3,k4,k5]
  refine ae (cd.lift _ _) hP Od (by simp[id0,ar]) (ak iD .sc) ?_
  by_cases he:e=0
  ·subst he
   rw[if_pos rfl]at hR2
   have fin:=qo _ hR2
   rw[dQ,cst]at fin
   simp -dsimp -implicitDefEqProofs [-getElem?_pos,go_sem,hP]
   exact au (ak i2 .sc) fin
  ·have de:decide (e=0)=false:=decide_eq_false he
   rw[if_neg he]at hR2
   simp -dsimp -implicitDefEqProofs [-getElem?_pos,go_sem,hP,de]
   exact aL (cs':=dh.cells) cS (qe s e hR2 he)
 ·have k1:decide (d.Kind=1)=false:=by rw[hk];rfl
  have k2:decide (d.Kind=2)=false:=by rw[hk];rfl
  have k3:decide (d.Kind=3)=false:=by rw[hk];rfl
  have k4:decide (d.Kind=4)=false:=by rw[hk];rfl
  have k5:decide (d.Kind=5)=false:=by rw[hk];rfl
  have k6:decide (d.Kind=6)=true:=by rw[hk];rfl
  have hR2:R=fk s (dV s.Desk d.Ref).1 (dV s.Desk d.Ref).2:=by
   rw[hR,doK]
   rw[if_neg (by omega)]
   rw[if_neg (by omega)]
   rw[if_neg (by omega)]
   rw[if_neg (by omega)]
   rw[if_neg (by omega)]
   rw[if_pos hk]
  have cd:=B0 s.Desk d.Ref hd
  obtain⟨D,e,hD⟩:∃D e,dV s.Desk d.Ref=(D,e):=⟨_,_,rfl⟩
  rw[hD]at cd hR2
  simp only[fk]at hR2
  have iD:Imm (.agg D.cells):=az.2 D.imm
  have i2:=cT (dQ s D)
  rw[nU]at cd id0 iD
  rw[nU]at cd
  rw[dQ,cst]at i2
  simp -dsimp -implicitDefEqProofs [-getElem?_pos,go_sem,hP,cst0,dH,k1,k2,k3,k4,k5,k6]
  refine ae (cd.lift _ _) hP MB (by simp[id0,ar]) (ak iD .sc) ?_
  by_cases he:e=0
  ·subst he
   rw[if_pos rfl]at hR2
   have fin:=qo _ hR2
   rw[dQ,cst]at fin
   simp -dsimp -implicitDefEqProofs [-getElem?_pos,go_sem,hP]
   exact au (ak i2 .sc) fin
  ·have de:decide (e=0)=false:=decide_eq_false he
   rw[if_neg he]at hR2
   simp -dsimp -implicitDefEqProofs [-getElem?_pos,go_sem,hP,de]
   exact aL (cs':=dh.cells) cS (qe s e hR2 he)
 ·have k1:decide (d.Kind=1)=false:=by rw[hk];rfl
  have k2:decide (d.Kind=2)=false:=by rw[hk];rfl
  have k3:decide (d.Kind=3)=false:=by rw[hk];rfl
  have k4:decide (d.Kind=4)=false:=by rw[hk];rfl
  have k5:decide (d.Kind=5)=false:=by rw[hk];rfl
  have k6:decide (d.Kind=6)=false:=by rw[hk];rfl
  have k7:decide (d.Kind=7)=true:=by rw[hk];rfl
  have hR2:R=jB s (IG s d) (sM s.Register (IG s d)) 0 1 d.Amount:=by
   rw[hR,doK]
   rw[if_neg (by omega)]
   rw[if_neg (by omega)]
   rw[if_neg (by omega)]
   rw[if_neg (by omega)]
   rw[if_neg (by omega)]
   rw[if_neg (by omega)]
   rw[if_pos hk]
  have cd:=GJ s.Register d.Day d.Ref d.Who d.Amount hf.r h.s0 h.mv (by omega)
  obtain⟨m,hmv⟩:∃m,m=IG s d:=⟨_,rfl⟩
  have hmd:m.Day=d.Day:=by rw[hmv];rfl
  have hmv2:eU s.Register d.Day 1 d.Ref 0 d.Who d.Amount=m:=hmv.symm
  rw[hmv2]at cd
  rw[←hmv]at hR2
  clear hmv hmv2
  unfold uC at cd
  unfold jB at hR2
  obtain⟨e,hee⟩:∃e,e=sM s.Register m:=⟨_,rfl⟩
  rw[←hee]at cd hR2
  obtain⟨G,hG⟩:∃G,G=(if e=0 then jc s.Register m else Ex):=⟨_,rfl⟩
  rw[←hG]at cd
  have iG:=gY G
  have en1:=en ⟨s.Desk,s.Cash,G,s.Ledger⟩ d.Day 0 1 d.Amount hd
  have ien:=cT ⟨s.Desk,s.Cash,G,s.Ledger⟩
  obtain⟨M,hM⟩:∃M,M=zS (fH ⟨s.Desk,s.Cash,G,s.Ledger⟩ d.Day 0 1 d.Amount):=⟨_,rfl⟩
  rw[←hM]at en1
  have iM:=cT M.1
  rw[cst]at en1 ien
  rw[gL M.1]at en1 iM
  rw[dU]at cd ir0 iG
  rw[dU]at cd
  have fin1:e=0→Q (.tup [.agg M.1.cells,iv M.2]):=fun he=>by
   rw[if_pos he,hmd]at hR2
   rw[if_pos he]at hG
   rw[hM,hG,←hR2]
   exact qs
  rw[gL M.1]at fin1
  simp -dsimp -implicitDefEqProofs [-getElem?_pos,go_sem,hP,cst0,dH,k1,k2,k3,k4,k5,k6,k7]
  refine ae (cd.lift _ _) hP NH (by simp[ir0,ar]) (ak iG .sc) ?_
  by_cases he:e=0
  ·have fin:=fin1 he
   clear hG hee
   subst he
   simp -dsimp -implicitDefEqProofs [-getElem?_pos,go_sem,hP]
   refine ae (en1.lift _ _) hP u9 (by simp[ien,ar]) (ak iM .sc) ?_
   simp -dsimp -implicitDefEqProofs [-getElem?_pos,go_sem,hP]
   exact au (ak iM .sc) fin
  ·have de:decide (e=0)=false:=decide_eq_false he
   rw[if_neg he]at hR2
   simp -dsimp -implicitDefEqProofs [-getElem?_pos,go_sem,hP,de]
   exact aL (cs':=dh.cells) cS (qe s e hR2 he)
 ·have k1:decide (d.Kind=1)=false:=by rw[hk];rfl
  have k2:decide (d.Kind=2)=false:=by rw[hk];rfl
  have k3:decide (d.Kind=3)=false:=by rw[hk];rfl
  have k4:decide (d.Kind=4)=false:=by rw[hk];rfl
  have k5:decide (d.Kind=5)=false:=by rw[hk];rfl
  have k6:decide (d.Kind=6)=false:=by rw[hk];rfl
  have k7:decide (d.Kind=7)=false:=by rw[hk];rfl
  have k8:decide (d.Kind=8)=true:=by rw[hk];rfl
  have hR2:R=jB s (IQ s d) (sM s.Register (IQ s d)) 1 0 d.Amount:=by
   rw[hR,doK]
   rw[if_neg (by omega)]
   rw[if_neg (by omega)]
   rw[if_neg (by omega)]
   rw[if_neg (by omega)]
   rw[if_neg (by omega)]
   rw[if_neg (by omega)]
   rw[if_neg (by omega)]
   rw[if_pos hk]
  have cd:=DP s.Register d.Day d.Ref d.Who d.Amount hf.r h.s0 h.mv (by omega)
  obtain⟨m,hmv⟩:∃m,m=IQ s d:=⟨_,rfl⟩
  have hmd:m.Day=d.Day:=by rw[hmv];rfl
  have hmv2:eU s.Register d.Day 3 d.Ref d.Who 0 d.Amount=m:=hmv.symm
  rw[hmv2]at cd
  rw[←hmv]at hR2
  clear hmv hmv2
  unfold uC at cd
  unfold jB at hR2
  obtain⟨e,hee⟩:∃e,e=sM s.Register m:=⟨_,rfl⟩
  rw[←hee]at cd hR2
  obtain⟨G,hG⟩:∃G,G=(if e=0 then jc s.Register m else Ex):=⟨_,rfl⟩
  rw[←hG]at cd
  have iG:=gY G
  have en1:=en ⟨s.Desk,s.Cash,G,s.Ledger⟩ d.Day 1 0 d.Amount hd
  have ien:=cT ⟨s.Desk,s.Cash,G,s.Ledger⟩
  obtain⟨M,hM⟩:∃M,M=zS (fH ⟨s.Desk,s.Cash,G,s.Ledger⟩ d.Day 1 0 d.Amount):=⟨_,rfl⟩
  rw[←hM]at en1
  have iM:=cT M.1
  rw[cst]at en1 ien
  rw[gL M.1]at en1 iM
  rw[dU]at cd ir0 iG
  rw[dU]at cd
  have fin1:e=0→Q (.tup [.agg M.1.cells,iv M.2]):=fun he=>by
   rw[if_pos he,hmd]at hR2
   rw[if_pos he]at hG
   rw[hM,hG,←hR2]
   exact qs
  rw[gL M.1]at fin1
  simp -dsimp -implicitDefEqProofs [-getElem?_pos,go_sem,hP,cst0,dH,k1,k2,k3,k4,k5,k6,k7,k8]
  refine ae (cd.lift _ _) hP NW (by simp[ir0,ar]) (ak iG .sc) ?_
  by_cases he:e=0
  ·have fin:=fin1 he
   clear hG hee
   subst he
   simp -dsimp -implicitDefEqProofs [-getElem?_pos,go_sem,hP]
   refine ae (en1.lift _ _) hP u9 (by simp[ien,ar]) (ak iM .sc) ?_
   simp -dsimp -implicitDefEqProofs [-getElem?_pos,go_sem,hP]
   exact au (ak iM .sc) fin
  ·have de:decide (e=0)=false:=decide_eq_false he
   rw[if_neg he]at hR2
   simp -dsimp -implicitDefEqProofs [-getElem?_pos,go_sem,hP,de]
   exact aL (cs':=dh.cells) cS (qe s e hR2 he)
 ·have k1:decide (d.Kind=1)=false:=by rw[hk];rfl
  have k2:decide (d.Kind=2)=false:=by rw[hk];rfl
  have k3:decide (d.Kind=3)=false:=by rw[hk];rfl
  have k4:decide (d.Kind=4)=false:=by rw[hk];rfl
  have k5:decide (d.Kind=5)=false:=by rw[hk];rfl
  have k6:decide (d.Kind=6)=false:=by rw[hk];rfl
  have k7:decide (d.Kind=7)=false:=by rw[hk];rfl
  have k8:decide (d.Kind=8)=false:=by rw[hk];rfl
  have k9:decide (d.Kind=9)=true:=by rw[hk];rfl
  have hR2:R=if d.Sub=0∨d.Who=0 then (s,60)else fH s d.Day d.Sub d.Who d.Amount:=by
   rw[hR,doK]
   rw[if_neg (by omega)]
   rw[if_neg (by omega)]
   rw[if_neg (by omega)]
   rw[if_neg (by omega)]
   rw[if_neg (by omega)]
   rw[if_neg (by omega)]
   rw[if_neg (by omega)]
   rw[if_neg (by omega)]
   rw[if_pos hk]
  by_cases a1:d.Sub=0
  ·have b1:decide (d.Sub=0)=true:=decide_eq_true a1
   rw[if_pos (.inl a1)]at hR2
   simp -dsimp -implicitDefEqProofs [-getElem?_pos,go_sem,hP,cst0,dH,k1,k2,k3,k4,k5,k6,k7,k8,k9,b1]
   exact aL (cs':=dh.cells) cS (qe s 60 hR2 (by omega))
  have b1:decide (d.Sub=0)=false:=decide_eq_false a1
  by_cases a2:d.Who=0
  ·have b2:decide (d.Who=0)=true:=decide_eq_true a2
   rw[if_pos (.inr a2)]at hR2
   simp -dsimp -implicitDefEqProofs [-getElem?_pos,go_sem,hP,cst0,dH,k1,k2,k3,k4,k5,k6,k7,k8,k9,b1,b2]
   exact aL (cs':=dh.cells) cS (qe s 60 hR2 (by omega))
  have b2:decide (d.Who=0)=false:=decide_eq_false a2
  rw[if_neg (by omega)]at hR2
  have en1:=en s d.Day d.Sub d.Who d.Amount hd
  rw[←hR2]at en1
  have iM:=cT (zS R).1
  rw[cst0]at en1 is0
  rw[gL (zS R).1]at en1 iM qs
  simp -dsimp -implicitDefEqProofs [-getElem?_pos,go_sem,hP,cst0,dH,k1,k2,k3,k4,k5,k6,k7,k8,k9,b1,b2]
  refine ae (en1.lift _ _) hP u9 (by simp[is0,ar]) (ak iM .sc) ?_
  simp -dsimp -implicitDefEqProofs [-getElem?_pos,go_sem,hP]
  exact au (ak iM .sc) qs
 ·obtain⟨n1,n2,n3,n4,n5,n6,n7,n8,n9⟩:=hk
  have k1:decide (d.Kind=1)=false:=decide_eq_false n1
  have k2:decide (d.Kind=2)=false:=decide_eq_false n2
  have k3:decide (d.Kind=3)=false:=decide_eq_false n3
  have k4:decide (d.Kind=4)=false:=decide_eq_false n4
  have k5:decide (d.Kind=5)=false:=decide_eq_false n5
  have k6:decide (d.Kind=6)=false:=decide_eq_false n6
  have k7:decide (d.Kind=7)=false:=decide_eq_false n7
  have k8:decide (d.Kind=8)=false:=decide_eq_false n8
  have k9:decide (d.Kind=9)=false:=decide_eq_false n9
  have hR2:R=(s,91):=by rw[hR,doK,if_neg n1,if_neg n2,if_neg n3,if_neg n4,if_neg n5,if_neg n6,if_neg n7,if_neg n8,if_neg n9]
  simp -dsimp -implicitDefEqProofs [-getElem?_pos,go_sem,hP,cst0,dH,k1,k2,k3,k4,k5,k6,k7,k8,k9]
  exact aL (cs':=dh.cells) cS (qe s 91 hR2 (by omega))
set_option maxHeartbeats 4000000 in
theorem M7 {j:Nat} {s:TState} (d:TDeed) (h:FitM j s) (hj:j<399):PFun Tryz.prog none none 43 [.agg s.cells,.agg d.cells] (·= .tup [.agg (doS s d).1.cells,iv (doS s d).2]):=by
 have hf:=h.f
 have cc:=Gv d h hj
 have ist:=cT s
 have ide:=az.2 d.imm
 have kp:=fun h=>HE (d:=d) hf (by omega) h
 obtain⟨R,hR⟩:∃R,R=doS s d:=⟨_,rfl⟩
 rw[←hR]
 obtain⟨t,e,hK⟩:∃t e,doK s d=(t,e):=⟨_,_,rfl⟩
 rw[hK]at cc kp
 have itt:=cT (zS (t,e)).1
 rw[gL (zS (t,e)).1]at cc itt
 rw[gL s]at cc ist⊢
 rw[dH]at cc ide
 by_cases he:e=0
 rotate_left
 ·have hS:R=(dh,e):=by rw[hR,doS,hK,if_neg he]
  have de:decide (e=0)=false:=decide_eq_false he
  have z2:(zS (t,e)).2=e:=by rw[zG he]
  rw[z2]at cc
  refine ab Tryz.func43 rfl (by simp[Tryz.f43]) (by kernel_rfl) ?_
  intro E hP hr hs hW hN
  simp -dsimp -implicitDefEqProofs [-getElem?_pos,go_sem,hP,dH,al]
  refine ae (cc.lift _ _) hP Ml (by simp[ist,ide]) (ak itt .sc) ?_
  simp -dsimp -implicitDefEqProofs [-getElem?_pos,go_sem,hP,de]
  rw[hS]
  exact aL (cs':=dh.cells) cS rfl
 subst he
 have kf:=kp rfl
 have z1:(zS (t,0))=(t,0):=rfl
 rw[z1]at cc itt
 have bk:=C6 t kf.f.d kf.f.l kf.e
 have hS:R=zS (oe t s.Desk.Account.Entries.length):=by rw[hR,doS,hK,if_pos rfl];rfl
 rw[←hS]at bk
 have iR:=cT R.1
 rw[gL t]at bk
 rw[gL R.1]at bk iR⊢
 refine ab Tryz.func43 rfl (by simp[Tryz.f43]) (by kernel_rfl) ?_
 intro E hP hr hs hW hN
 simp -dsimp -implicitDefEqProofs [-getElem?_pos,go_sem,hP,dH,al]
 refine ae (cc.lift _ _) hP Ml (by simp[ist,ide]) (ak itt .sc) ?_
 simp -dsimp -implicitDefEqProofs [-getElem?_pos,go_sem,hP]
 refine ae (bk.lift _ _) hP PM (by simp[itt,ar]) (ak iR .sc) ?_
 simp -dsimp -implicitDefEqProofs [-getElem?_pos,go_sem,hP]
 exact au (ak iR .sc) rfl
theorem qL (s:TState) (day f t n:Int):(fH s day f t n).1.Register=s.Register:=by
 unfold fH
 split<;>rfl
theorem kY (s:TState) (d:TDesk) (e:Int):(fk s d e).1.Register=s.Register:=by
 unfold fk
 split<;>rfl
theorem xd {s:TState} {m:TMove} {e f t n:Int} (hm:oC m):(jB s m e f t n).1.Register.Securities=s.Register.Securities∧((∀m,m∈s.Register.Moves→oC m)→∀x,x∈(jB s m e f t n).1.Register.Moves→oC x):=by
 unfold jB
 split
 ·rw[qL]
  refine⟨rfl,fun h x hx=>?_⟩
  rcases List.mem_append.1 hx with hx|hx
  ·exact h x hx
  ·simp at hx
   subst hx
   exact hm
 ·exact⟨rfl,fun h=>h⟩
theorem LJ (s:TState) (d:TDeed):(doK s d).1.Register.Securities=s.Register.Securities∧((∀m,m∈s.Register.Moves→oC m)→∀x,x∈(doK s d).1.Register.Moves→oC x):=by
 have same:∀{t:TState},t.Register=s.Register→t.Register.Securities=s.Register.Securities∧((∀m,m∈s.Register.Moves→oC m)→∀x,x∈t.Register.Moves→oC x):=fun e=>by rw[e];exact⟨rfl,fun h=>h⟩
 unfold doK
 split
 ·unfold fP
  split
  ·exact same rfl
  ·split
   ·exact same (qL _ _ _ _ _)
   ·exact same rfl
 split
 ·exact same (kY _ _ _)
 split
 ·exact same (kY _ _ _)
 split
 ·exact same (kY _ _ _)
 split
 ·exact same (kY _ _ _)
 split
 ·exact same (kY _ _ _)
 split
 ·exact xd (.inl ⟨rfl,rfl⟩)
 split
 ·exact xd (.inr ⟨rfl,rfl⟩)
 split
 ·split
  ·exact same rfl
  ·exact same (qL _ _ _ _ _)
 ·exact same rfl
theorem Hx {j:Nat} {s:TState} {d:TDeed} (h:FitM j s) (hj:j<400) (he:(doS s d).2=0):FitM (j+1) (doS s d).1:=by
 have f2:=Me h.f hj he
 obtain⟨k1,k2⟩:=LJ s d
 have er:(doS s d).1.Register=(doK s d).1.Register:=by
  unfold doS at he⊢
  split at he
  ·rename_i h1
   rw[if_pos h1]
   split at he
   ·rename_i h2
    rw[if_pos h2]
    rfl
   ·rename_i h2
    exact absurd he h2
  ·rename_i h1
   exact absurd he h1
 exact⟨f2,by rw[er,k1];exact h.s0,by rw[er];exact k2 h.mv⟩
end Go.Proofs.YtaenimpfelpafaaGreatDoor
set_option maxRecDepth 100000
namespace Go.Proofs.YtaenimpfelpafaaGreatDoor
open Go.PA
open Go.RowKit
def PG:=yp []
def PH:FuncId→Nat→DH:=qK [(92,12,⟨[14],[],[]⟩)]
theorem Ci (row src:Option Nat):PFun Tryz.prog row src 42 [aC [1,2,3,7],iv 0,bT jO] (·= .tup [.agg (du 0).cells,iv 0]):=
 xg (kL (mz (l:=[]) fun x hx=>by cases hx) PH PG 10000 60 (by kernel_rfl) (by kernel_rfl) row src) (ak (cT _) .sc) (tM 0)
theorem Bo (row src:Option Nat):PFun Tryz.prog row src 42 [aC [1,2,3,7],iv 50,bT jO] (·= .tup [.agg (du 50).cells,iv 0]):=
 xg (kL (mz (l:=[]) fun x hx=>by cases hx) PH PG 10000 60 (by kernel_rfl) (by kernel_rfl) row src) (ak (cT _) .sc) (tM 50)
theorem E2 (row src:Option Nat) {c:Int} (h:c=0∨c=50):PFun Tryz.prog row src 42 [aC [1,2,3,7],iv c,bT jO] (·= .tup [.agg (du c).cells,iv 0]):=by
 rcases h with rfl|rfl
 ·exact Ci row src
 ·exact Bo row src
open Go.PA
open Go.RowKit
theorem rV {c:Int} (h:c=0∨c=50):CleanS (du c):=by
 rcases h with rfl|rfl
 ·exact⟨dF.1 (by kernel_rfl),by kernel_rfl,rfl,rfl,rfl⟩
 ·exact⟨dF.1 (by kernel_rfl),by kernel_rfl,rfl,rfl,rfl⟩
theorem Ek (c:Int):FitM 0 (du c):=⟨xC c,rfl,by simp[du]⟩
def Mu (n:Nat) (x:AV):Prop:=∃s:TState,x= .agg s.cells∧FitM n s∧CleanS s
theorem I7 (n:Nat):∃r,Mu n r∧Imm r:=⟨_,⟨du 0,rfl,⟨(xC 0).mono (by omega),rfl,by simp[du]⟩,rV (.inl rfl)⟩,cT _⟩
abbrev stO (s:TState):AObj:=⟨50,15,[[iv s.Desk.Account.Credit,aT s.Desk.Account.Subs,bM s.Desk.Account.Entries,aD s.Desk.Queue.Waiting,.list 1 (aj bg s.Desk.Queue.Known),be s.Desk.Queue.Batches,cg s.Desk.Items,jf s.Cash.Claims,bD s.Cash.Incomes,fj s.Cash.Matches,.list 1 (aj bg s.Cash.Loose),bT s.Register.Securities,bz s.Register.Holdings,dZ s.Register.Moves,dq s.Ledger.Postings]]⟩
set_option maxHeartbeats 4000000 in
theorem KQ (p:Nat) (src:Option Nat) (n:Nat) (hn:n≤100):PFun Tryz.prog (some p) src 16 [sp p,iv n] (Mu n):=by
 obtain⟨sl,hsl⟩:∃sl,sl=jO:=⟨_,rfl⟩
 have ss:=Jn p src
 rw[←hsl]at ss
 have isl:=iH sl
 refine ab Tryz.func16 rfl (by simp[Tryz.f16]) (by kernel_rfl) ?_
 intro E hP hr hs hW hN
 have up:∀{f:FuncId} {args:List AV} {Q:AV→Prop},PFun Tryz.prog (some p) src f args Q→PFun Tryz.prog E.row E.src f args Q:=fun h=>hr▸hs▸h
 simp -dsimp -implicitDefEqProofs [-getElem?_pos,go_sem,hP]
 refine aZ (up (Bi p src [0,50] (by simp))) hP uQ (by simp -dsimp[-getElem?_pos,go_sem]) (mW (by simp)) ?_
 rintro r ⟨c,rfl,hc⟩ _
 have hc:c=0∨c=50:=by simpa using hc
 have st:=E2 E.row E.src hc
 have f0:=Ek c
 have c0:=rV hc
 obtain⟨x0,hx0⟩:∃x0,x0=du c:=⟨_,rfl⟩
 rw[←hsl,←hx0]at st
 rw[←hx0]at f0 c0
 have i0:=cT x0
 rw[gL]at st i0
 simp -dsimp -implicitDefEqProofs [-getElem?_pos,go_sem,hP]
 refine ae (up ss) hP Pf (by simp -dsimp[-getElem?_pos,go_sem]) isl ?_
 simp -dsimp -implicitDefEqProofs [-getElem?_pos,go_sem,hP]
 refine ae st hP Ot (by have:=fu [1,2,3,7];simpa[isl,aC,ar]using this) (ak i0 .sc) ?_
 simp -dsimp -implicitDefEqProofs [-getElem?_pos,go_sem,hP]
 refine aZ (up (Fb p src n hn)) hP Ox (by simp -dsimp[-getElem?_pos,go_sem]) (Fi _) ?_
 rintro r ⟨l,rfl,ll⟩ _
 have il:=qM l
 simp -dsimp -implicitDefEqProofs [-getElem?_pos,go_sem,hP,al]
 obtain⟨I,hI⟩:∃I:Nat→St→Prop,I=fun m s=>∃(k:Nat) (x:TState),k≤l.length∧m=l.length-k∧FitM k x∧CleanS x∧s.t 4= .ref 0 0 0∧s.t 5= .ref 1 0 0∧s.t 23=yz l∧s.t 24=iv l.length∧s.t 25=iv k∧s.H[1]?=some (some (stO x))∧s.H[0]?=some (some zO):=⟨_,rfl⟩
 refine ay I (l.length) (by rw[hN];rfl) ?_ ?_
 ·rw[hI]
  exact⟨0,x0,by omega,by omega,f0,c0,by simp -dsimp[-getElem?_pos,go_sem],by simp -dsimp[-getElem?_pos,go_sem],by simp -dsimp[-getElem?_pos,go_sem],by simp -dsimp[-getElem?_pos,go_sem],by simp -dsimp[-getElem?_pos,go_sem],by simp -dsimp[-getElem?_pos,go_sem],by simp -dsimp[-getElem?_pos,go_sem]⟩
 intro m s hs'
 rw[hI]at hs'
 obtain⟨k,x,hk,hm,hf,hcl,t4,t5,t23,t24,t25,g1,g0⟩:=hs'
 have l1:=(gsI g1)
 have l0:=(gsI g0)
 have ix:=cT x
 rw[gL]at ix
 simp -dsimp -implicitDefEqProofs [-getElem?_pos,go_sem,hP,t24,t25]
 refine aB (fun hq=>?_) (fun hq=>?_)
 ·have hk:k<l.length:=by simpa using hq
  obtain⟨d,hd⟩:∃d,l[k]?=some d:=⟨_,List.getElem?_eq_getElem hk⟩
  have wk:=af ((k:Int)+1) (by omega)
  have cd:=M7 d hf (by omega)
  have fx:=fun h=>Hx (d:=d) hf (by omega) h
  have cx:=fun h=>FD (d:=d) hcl h
  obtain⟨y,e,hy⟩:∃y e,doS x d=(y,e):=⟨_,_,rfl⟩
  rw[hy]at cd fx cx
  simp only at cd fx cx
  have iy:=cT y
  have idd:=az.2 d.imm
  rw[gL,gL y,dH]at cd
  rw[gL]at iy
  rw[dH]at idd
  have g1':∀Y:List (Option AObj),(s.H++Y)[1]?=some (some (stO x)):=fun Y=>by rw[List.getElem?_append_left l1];exact g1
  have g0':∀Y:List (Option AObj),(s.H++Y)[0]?=some (some zO):=fun Y=>by rw[List.getElem?_append_left l0];exact g0
  have l11:1<s.H.length+1:=by omega
  simp -dsimp -implicitDefEqProofs [-getElem?_pos,go_sem,hP,t23,t25,hd,dH]
  simp -dsimp -implicitDefEqProofs [-getElem?_pos,go_sem,hP,t5,g1',l1,l11,t23]
  refine ae (cd.lift _ _) hP On (by simp[ix,idd]) (ak iy .sc) ?_
  by_cases he:e=0
  ·subst he
   simp -dsimp -implicitDefEqProofs [-getElem?_pos,go_sem,hP,t5,g1',l1,l11,t25,wk]
   refine⟨l.length-(k+1),by omega,?_⟩
   rw[hI]
   refine⟨k+1,y,by omega,rfl,fx rfl,cx rfl,by simp -dsimp[-getElem?_pos,go_sem,t4],by simp -dsimp[-getElem?_pos,go_sem,t5],by simp -dsimp[-getElem?_pos,go_sem,t23],by simp -dsimp[-getElem?_pos,go_sem,t24],by simp -dsimp[-getElem?_pos,go_sem],?_,?_⟩
   ·simp -dsimp -implicitDefEqProofs [-getElem?_pos,go_sem,l1,l11]
   ·dsimp only
    rw[List.getElem?_append_left (by simp;omega),List.getElem?_set_ne (by omega)]
    exact g0
  ·have de:decide (e=0)=false:=decide_eq_false he
   simp -dsimp -implicitDefEqProofs [-getElem?_pos,go_sem,hP,de,t5,g1',l1,l11,t25,wk]
   refine⟨l.length-(k+1),by omega,?_⟩
   rw[hI]
   refine⟨k+1,x,by omega,rfl,⟨hf.f.mono (by omega),hf.s0,hf.mv⟩,hcl,by simp -dsimp[-getElem?_pos,go_sem,t4],by simp -dsimp[-getElem?_pos,go_sem,t5],by simp -dsimp[-getElem?_pos,go_sem,t23],by simp -dsimp[-getElem?_pos,go_sem,t24],by simp -dsimp[-getElem?_pos,go_sem],?_,?_⟩
   ·simp -dsimp -implicitDefEqProofs [-getElem?_pos,go_sem,g1',l1,l11]
   ·simp -dsimp -implicitDefEqProofs [-getElem?_pos,go_sem,g0',l1,l11]
 ·simp -dsimp -implicitDefEqProofs [-getElem?_pos,go_sem,hP,t4,t5,g1,g0,l0,l1]
  refine au ix ⟨x,by rw[gL],⟨hf.f.mono (by omega),hf.s0,hf.mv⟩,hcl⟩
open Go.PA
open Go.RowKit
def j6 (w:Int) (p:TPosting):Int:=if p.Ref=w then (if p.Credit=110 then p.Amount else -p.Amount)else 0
def lr (w:Int) (l:List TPosting):Int:=(l.map (j6 w)).sum
theorem FI (w:Int) (l:List TPosting) (p:TPosting):lr w (l++[p])=lr w l+j6 w p:=by simp[lr]
def sW (w:Int) (e:TEntry):Int:=if e.Ref=w∧jb e=true then (if e.To=0 then e.Amount else -e.Amount)else 0
theorem DL {w:Int} (hw:w≠0) (e:TEntry) (n:Int) (ho:jb e=true):j6 w (gB e n)=sW w e:=by
 have h1:(gB e n).Credit=if fe e=true∧e.From=0 then 230 else if e.To=0 then 110 else 410:=rfl
 have h2:(gB e n).Ref=e.Ref:=rfl
 have h3:(gB e n).Amount=e.Amount:=rfl
 unfold j6 sW
 rw[h1,h2,h3]
 by_cases c:e.Ref=w
 ·have hs:fe e=false:=by
   have:¬e.Ref=0:=fun h=>hw (c.symm.trans h)
   simp[fe,this]
  by_cases c2:e.To=0<;>simp[c,ho,hs,c2]
 ·simp[c]
theorem xm {w:Int} (hw:w≠0) (b:Int):∀(es:List TEntry) (out:List TPosting),lr w (cB b out es)=lr w out+Ea (sW w) es
 |[],out=>by simp[cB,Ea]
 |e::es,out=>by
  rw[cB,xm hw b es,xe]
  cases ho:jb e
  ·have:sW w e=0:=by simp[sW,ho]
   rw[if_neg (by simp),this]
   omega
  ·rw[if_pos rfl,FI,DL hw e _ ho]
   omega
theorem xG {p:TPayment} (hs:p.Sub≠0):∀es:List TEntry,(∀e,e∈es→e.Ref=p.Warrant→e.Amount=p.Amount∧(e.From=p.Sub∧e.To=0∨e.From=0∧e.To=p.Sub))→
  Ea (sW p.Warrant) es=p.Amount*((es.countP (cV p):Int)-(es.countP (inE p):Int))
 |[],_=>by simp[Ea]
 |e::es,h=>by
  have ih:=xG hs es fun x hx=>h x (by simp[hx])
  rw[xe,ih,List.countP_cons,List.countP_cons]
  by_cases c:e.Ref=p.Warrant
  ·obtain⟨h1,h2|h2⟩:=h e (by simp) c
   ·have a:cV p e=true:=by simp[cV,c,h2]
    have b:inE p e=false:=by
     have:¬p.Sub=0:=hs
     simp[inE,h2,this]
    have pe:sW p.Warrant e=p.Amount:=by simp[sW,c,jb,h2,h1]
    rw[a,b,pe,if_pos rfl,if_neg (by simp)]
    push_cast
    rw[show (es.countP (cV p):Int)+1-((es.countP (inE p):Int)+0)=((es.countP (cV p):Int)-(es.countP (inE p):Int))+1 from by omega,Int.mul_add,Int.mul_one]
    omega
   ·have a:cV p e=false:=by
     have:¬(0:Int)=p.Sub:=fun e=>hs e.symm
     simp[cV,h2,this]
    have b:inE p e=true:=by simp[inE,c,h2]
    have pe:sW p.Warrant e= -p.Amount:=by
     have:¬p.Sub=0:=hs
     simp[sW,c,jb,h2,h1,this]
    rw[a,b,pe,if_pos rfl,if_neg (by simp)]
    push_cast
    rw[show (es.countP (cV p):Int)+0-((es.countP (inE p):Int)+1)=((es.countP (cV p):Int)-(es.countP (inE p):Int))+(-1)from by omega,Int.mul_add,Int.mul_neg,Int.mul_one]
    omega
  ·have a:cV p e=false:=by simp[cV,c]
   have b:inE p e=false:=by simp[inE,c]
   have pe:sW p.Warrant e=0:=by simp[sW,c]
   rw[a,b,pe]
   simp
theorem CleanS.pays {s:TState} (h:CleanS s) {x:TItem} (hx:x∈s.Desk.Items):lr x.Payment.Warrant s.Ledger.Postings=if fM x=true then x.Payment.Amount else 0:=by
 have io:=h.d.io hx
 have hw:=io.pay.warrant.1
 have hs:=io.pay.sub.1
 rw[h.fp,xm (by omega),xG (by omega) _ io.all]
 have o:=io.outs
 have i:=io.ins
 show 0+_=_
 unfold dB at i
 split at i
 ·rename_i g
  rw[if_pos g,show ((s.Desk.Account.Entries.countP (cV x.Payment):Int)-(s.Desk.Account.Entries.countP (inE x.Payment):Int))=1 from by omega]
  omega
 ·rename_i g
  rw[if_neg g,show ((s.Desk.Account.Entries.countP (cV x.Payment):Int)-(s.Desk.Account.Entries.countP (inE x.Payment):Int))=0 from by omega]
  omega
end Go.Proofs.YtaenimpfelpafaaGreatDoor
set_option maxRecDepth 100000
namespace Go.Proofs.YtaenimpfelpafaaGreatDoor
open Go.PA
open Go.RowKit
theorem Hy {row src:Option Nat} (H:ac):MFun Tryz.prog row src 63 [.list 5 []] H (IsL (NT 81 5 H)):=by
 have own:MFun Tryz.prog row src 63 [.list 5 []] H (fun r H'=>(r= .nil∧H'=H)∨(r= .sref (H.length+1) 0 0∧H'=H++[none]++[some ⟨81,5,[]⟩])):=by
  refine kz fun A c=>?_
  refine aG Tryz.func63 rfl (by simp[Tryz.f63]) (by kernel_rfl) ⟨.nil,H,.inl ⟨rfl,rfl⟩⟩ ?_
  intro E hP hr hs hN
  cases A with
  |none=>simp -dsimp -implicitDefEqProofs [-getElem?_pos,go_sem,hP]
  |some a=>simp -dsimp -implicitDefEqProofs [-getElem?_pos,go_sem,hP,Ai]
 refine (own.ownNil 81 5).mono ?_
 rintro r H' (⟨H0,h0,rfl,rfl⟩|⟨hne,h⟩)
 ·rcases h0 with⟨_,rfl⟩|⟨h,_⟩
  ·exact .head _
  ·cases h
 ·rcases h with⟨h,_⟩|⟨rfl,rfl⟩
  ·exact absurd h hne
  ·exact .tail _ (.head _)
def PW:List (FuncId×TypeId×Nat):=[(63,81,5)]
theorem dI:iF Tryz.prog (HN PW):=mz fun x hx H row src=>by
 simp only[PW,List.mem_cons,List.not_mem_nil,or_false]at hx
 subst hx
 exact Hy H
def my:=yp [(52,9,100),(120,6,132),(82,5,132),(132,1,194),(109,16,165),(165,1,66),(165,1,67),(165,1,68),(165,1,64),(120,10,62),(73,12,114),(114,1,65),(122,20,173),(173,1,63),(173,1,64),(122,17,183),(122,21,183),(81,12,69),(123,9,114),(29,1,62),(29,1,86)]
def mr:FuncId→Nat→DH:=qK [(25,7,⟨[],[7],[]⟩),(26,4,⟨[],[6],[]⟩),(70,7,⟨[],[15],[]⟩),(73,19,⟨[],[11,12],[]⟩),(80,1,⟨[],[19,20],[]⟩),(25,12,⟨[13],[],[]⟩),(125,2,⟨[28],[],[]⟩),(24,10,⟨[10],[],[]⟩),(73,34,⟨[3],[],[4]⟩),(122,23,⟨[8,9],[],[]⟩),(73,24,⟨[7],[],[]⟩),(25,5,⟨[20],[],[]⟩),(72,14,⟨[9,11],[],[]⟩),(114,1,⟨[10],[],[]⟩),(177,1,⟨[9],[],[]⟩),(110,11,⟨[4],[],[]⟩),(81,12,⟨[7],[],[]⟩),(120,10,⟨[13],[],[]⟩),(185,11,⟨[6,7,9,10],[],[0]⟩),(194,5,⟨[12,9],[],[]⟩),(109,35,⟨[12],[],[]⟩),(109,18,⟨[19,22],[],[]⟩),(24,15,⟨[8,11],[],[]⟩),(57,1,⟨[10],[],[]⟩),(24,14,⟨[26,29,32,35],[],[]⟩),(24,3,⟨[14,17],[],[]⟩),(24,2,⟨[14,17],[],[]⟩)]
theorem sk0:KOk Tryz.prog []:=Lc
def sl1:KL:=(51,[.list 1 [[iv 1],[iv 2]]],bv true)::[]
theorem sk1:KOk Tryz.prog sl1:=iu dI sk0 mr my (by kernel_rfl) (by kernel_rfl)
def sl2:KL:=(129,[.agg [iv 1,iv 0,iv 1,iv 110,iv 410,iv 100,iv 0,iv 0]],bv true)::sl1
theorem sk2:KOk Tryz.prog sl2:=iu dI sk1 mr my (by kernel_rfl) (by kernel_rfl)
def sl3:KL:=(12,[.agg [iv 0,.list 2 [[iv 1,iv 0],[iv 2,iv 0]],.nil,.nil,.nil,.nil,.nil,.nil,.nil,.nil,.nil,.nil,.nil,.nil,.nil],.agg [iv 1,iv 0,iv 2,iv 1,iv 0,iv 100,iv 0]],.tup [.agg [iv 0,.list 2 [[iv 1,iv 0],[iv 2,iv 100]],.list 6 [[iv 1,iv 0,iv 0,iv 2,iv 100,iv 0]],.nil,.nil,.nil,.nil,.nil,.list 5 [[iv 1,iv 0,iv 1,iv 100,iv 0]],.nil,.list 1 [[iv 100]],.nil,.nil,.nil,.list 8 [[iv 1,iv 0,iv 1,iv 110,iv 410,iv 100,iv 0,iv 0]]],iv 0])::sl2
theorem sk3:KOk Tryz.prog sl3:=iu dI sk2 mr my (by kernel_rfl) (by kernel_rfl)
def sl4:KL:=(82,[.agg [iv 0,.list 2 [[iv 1,iv 0],[iv 2,iv 100]],.list 6 [[iv 1,iv 0,iv 0,iv 2,iv 100,iv 0]]]],iv 0)::sl3
theorem sk4:KOk Tryz.prog sl4:=iu dI sk3 mr my (by kernel_rfl) (by kernel_rfl)
def sl5:KL:=(171,[.agg [iv 5,iv 1,iv 60,iv 0,iv 2]],bv true)::sl4
theorem sk5:KOk Tryz.prog sl5:=iu dI sk4 mr my (by kernel_rfl) (by kernel_rfl)
def sl6:KL:=(135,[.agg [.list 5 [[iv 5,iv 1,iv 60,iv 0,iv 2]],.list 1 [[iv 5]],.nil]],iv 0)::sl5
theorem sk6:KOk Tryz.prog sl6:=iu dI sk5 mr my (by kernel_rfl) (by kernel_rfl)
def sl7:KL:=(73,[.agg [iv 0,.list 2 [[iv 1,iv 0],[iv 2,iv 100]],.list 6 [[iv 1,iv 0,iv 0,iv 2,iv 100,iv 0]],.list 5 [[iv 5,iv 1,iv 60,iv 0,iv 2]],.list 1 [[iv 5]],.nil,.list 7 [[iv 5,iv 1,iv 60,iv 0,iv 2,iv 1,iv 0]]],iv 0],.tup [.agg [iv 0,.list 2 [[iv 1,iv 0],[iv 2,iv 40]],.list 6 [[iv 1,iv 0,iv 0,iv 2,iv 100,iv 0],[iv 2,iv 0,iv 2,iv 0,iv 60,iv 5]],.list 5 [],.list 1 [[iv 5]],.list 3 [[iv 1,iv 0,.list 5 [[iv 5,iv 1,iv 60,iv 0,iv 2]]]],.list 7 [[iv 5,iv 1,iv 60,iv 0,iv 2,iv 2,iv 1]]],.agg [iv 1,iv 0,.list 5 [[iv 5,iv 1,iv 60,iv 0,iv 2]]],iv 0])::sl6
theorem sk7:KOk Tryz.prog sl7:=iu dI sk6 mr my (by kernel_rfl) (by kernel_rfl)
def sl8:KL:=(129,[.agg [iv 2,iv 0,iv 1,iv 510,iv 110,iv 60,iv 0,iv 5]],bv true)::sl7
theorem sk8:KOk Tryz.prog sl8:=iu dI sk7 mr my (by kernel_rfl) (by kernel_rfl)
def sl9:KL:=(82,[.agg [iv 0,.list 2 [[iv 1,iv 0],[iv 2,iv 40]],.list 6 [[iv 1,iv 0,iv 0,iv 2,iv 100,iv 0],[iv 2,iv 0,iv 2,iv 0,iv 60,iv 5]]]],iv 0)::sl8
theorem sk9:KOk Tryz.prog sl9:=iu dI sk8 mr my (by kernel_rfl) (by kernel_rfl)
def O3:KL:=(199,[.agg [.list 5 [],.list 1 [[iv 5]],.list 3 [[iv 1,iv 0,.list 5 [[iv 5,iv 1,iv 60,iv 0,iv 2]]]]]],bv true)::sl9
theorem Rg:KOk Tryz.prog O3:=iu dI sk9 mr my (by kernel_rfl) (by kernel_rfl)
def OC:KL:=(136,[.agg [iv 0,.list 2 [[iv 1,iv 0],[iv 2,iv 40]],.list 6 [[iv 1,iv 0,iv 0,iv 2,iv 100,iv 0],[iv 2,iv 0,iv 2,iv 0,iv 60,iv 5]],.list 5 [],.list 1 [[iv 5]],.list 3 [[iv 1,iv 0,.list 5 [[iv 5,iv 1,iv 60,iv 0,iv 2]]]],.list 7 [[iv 5,iv 1,iv 60,iv 0,iv 2,iv 2,iv 1]]],.agg [iv 5,iv 1,iv 60,iv 0,iv 2,iv 2,iv 1]],bv true)::O3
theorem Ri:KOk Tryz.prog OC:=iu dI Rg mr my (by kernel_rfl) (by kernel_rfl)
def Oq:KL:=(173,[.agg [.list 5 [],.list 1 [[iv 5]],.list 3 [[iv 1,iv 0,.list 5 [[iv 5,iv 1,iv 60,iv 0,iv 2]]]]]],.agg [.list 5 [],.list 1 [[iv 5]],.list 3 [[iv 1,iv 0,.list 5 [[iv 5,iv 1,iv 60,iv 0,iv 2]]]]])::OC
theorem R9:KOk Tryz.prog Oq:=iu dI Ri mr my (by kernel_rfl) (by kernel_rfl)
def Pp:KL:=(120,[.agg [iv 0,.list 2 [[iv 1,iv 0],[iv 2,iv 40]],.list 6 [[iv 1,iv 0,iv 0,iv 2,iv 100,iv 0],[iv 2,iv 0,iv 2,iv 0,iv 60,iv 5]]],.agg [iv 3,iv 1,iv 0,iv 2,iv 60,iv 5]],.tup [.agg [iv 0,.list 2 [[iv 1,iv 0],[iv 2,iv 100]],.list 6 [[iv 1,iv 0,iv 0,iv 2,iv 100,iv 0],[iv 2,iv 0,iv 2,iv 0,iv 60,iv 5],[iv 3,iv 1,iv 0,iv 2,iv 60,iv 5]]],iv 0])::Oq
theorem Sl:KOk Tryz.prog Pp:=iu dI R9 mr my (by kernel_rfl) (by kernel_rfl)
def OO:KL:=(12,[.agg [iv 0,.list 2 [[iv 1,iv 0],[iv 2,iv 40]],.list 6 [[iv 1,iv 0,iv 0,iv 2,iv 100,iv 0],[iv 2,iv 0,iv 2,iv 0,iv 60,iv 5]],.list 5 [],.list 1 [[iv 5]],.list 3 [[iv 1,iv 0,.list 5 [[iv 5,iv 1,iv 60,iv 0,iv 2]]]],.list 7 [[iv 5,iv 1,iv 60,iv 0,iv 2,iv 2,iv 1]],.nil,.list 5 [[iv 1,iv 0,iv 1,iv 100,iv 0]],.nil,.list 1 [[iv 100]],.nil,.nil,.nil,.list 8 [[iv 1,iv 0,iv 1,iv 110,iv 410,iv 100,iv 0,iv 0],[iv 2,iv 0,iv 1,iv 510,iv 110,iv 60,iv 0,iv 5]]],.agg [iv 5,iv 1,iv 0,iv 0,iv 5,iv 0,iv 0]],.tup [.agg [iv 0,.list 2 [[iv 1,iv 0],[iv 2,iv 100]],.list 6 [[iv 1,iv 0,iv 0,iv 2,iv 100,iv 0],[iv 2,iv 0,iv 2,iv 0,iv 60,iv 5],[iv 3,iv 1,iv 0,iv 2,iv 60,iv 5]],.list 5 [],.list 1 [[iv 5]],.list 3 [[iv 1,iv 0,.list 5 [[iv 5,iv 1,iv 60,iv 0,iv 2]]]],.list 7 [[iv 5,iv 1,iv 60,iv 0,iv 2,iv 4,iv 1]],.nil,.list 5 [[iv 1,iv 0,iv 1,iv 100,iv 0]],.nil,.list 1 [[iv 100]],.nil,.nil,.nil,.list 8 [[iv 1,iv 0,iv 1,iv 110,iv 410,iv 100,iv 0,iv 0],[iv 2,iv 0,iv 1,iv 510,iv 110,iv 60,iv 0,iv 5],[iv 3,iv 1,iv 1,iv 110,iv 410,iv 60,iv 0,iv 5]]],iv 0])::Pp
theorem S9:KOk Tryz.prog OO:=iu dI Sl mr my (by kernel_rfl) (by kernel_rfl)
def P0:KL:=(41,[.agg [iv 0,.list 2 [[iv 1,iv 0],[iv 2,iv 0]],.nil,.nil,.nil,.nil,.nil,.nil,.nil,.nil,.nil,.nil,.nil,.nil,.nil],.list 7 [[iv 1,iv 0,iv 2,iv 1,iv 0,iv 100,iv 0],[iv 2,iv 0,iv 2,iv 1,iv 5,iv 60,iv 0],[iv 3,iv 0,iv 0,iv 0,iv 0,iv 0,iv 0],[iv 5,iv 1,iv 0,iv 0,iv 5,iv 0,iv 0]]],.tup [.agg [iv 0,.list 2 [[iv 1,iv 0],[iv 2,iv 100]],.list 6 [[iv 1,iv 0,iv 0,iv 2,iv 100,iv 0],[iv 2,iv 0,iv 2,iv 0,iv 60,iv 5],[iv 3,iv 1,iv 0,iv 2,iv 60,iv 5]],.list 5 [],.list 1 [[iv 5]],.list 3 [[iv 1,iv 0,.list 5 [[iv 5,iv 1,iv 60,iv 0,iv 2]]]],.list 7 [[iv 5,iv 1,iv 60,iv 0,iv 2,iv 4,iv 1]],.nil,.list 5 [[iv 1,iv 0,iv 1,iv 100,iv 0]],.nil,.list 1 [[iv 100]],.nil,.nil,.nil,.list 8 [[iv 1,iv 0,iv 1,iv 110,iv 410,iv 100,iv 0,iv 0],[iv 2,iv 0,iv 1,iv 510,iv 110,iv 60,iv 0,iv 5],[iv 3,iv 1,iv 1,iv 110,iv 410,iv 60,iv 0,iv 5]]],iv 4,iv 0])::OO
theorem Sn:KOk Tryz.prog P0:=iu dI S9 mr my (by kernel_rfl) (by kernel_rfl)
def PI:KL:=(82,[.agg [iv 0,.list 2 [[iv 1,iv 0],[iv 2,iv 100]],.list 6 [[iv 1,iv 0,iv 0,iv 2,iv 100,iv 0],[iv 2,iv 0,iv 2,iv 0,iv 60,iv 5],[iv 3,iv 1,iv 0,iv 2,iv 60,iv 5]]]],iv 0)::P0
theorem Rb:KOk Tryz.prog PI:=iu dI Sn mr my (by kernel_rfl) (by kernel_rfl)
def SD:KL:=(14,[.agg [iv 0,.list 2 [[iv 1,iv 0],[iv 2,iv 100]],.list 6 [[iv 1,iv 0,iv 0,iv 2,iv 100,iv 0],[iv 2,iv 0,iv 2,iv 0,iv 60,iv 5],[iv 3,iv 1,iv 0,iv 2,iv 60,iv 5]],.list 5 [],.list 1 [[iv 5]],.list 3 [[iv 1,iv 0,.list 5 [[iv 5,iv 1,iv 60,iv 0,iv 2]]]],.list 7 [[iv 5,iv 1,iv 60,iv 0,iv 2,iv 4,iv 1]],.nil,.list 5 [[iv 1,iv 0,iv 1,iv 100,iv 0]],.nil,.list 1 [[iv 100]],.nil,.nil,.nil,.list 8 [[iv 1,iv 0,iv 1,iv 110,iv 410,iv 100,iv 0,iv 0],[iv 2,iv 0,iv 1,iv 510,iv 110,iv 60,iv 0,iv 5],[iv 3,iv 1,iv 1,iv 110,iv 410,iv 60,iv 0,iv 5]]]],.nil)::PI
theorem SN:KOk Tryz.prog SD:=iu dI Rb mr my (by kernel_rfl) (by kernel_rfl)
theorem G3 (row src:Option Nat):PFun Tryz.prog row src 15 [] (·=bv true):=kL (yn dI (BL SN)) mr my 10000 60 (by kernel_rfl) (by kernel_rfl) row src
open Go.PA
open Go.RowKit
theorem EJ {w:Int}:∀{l:List TPosting},(∀p,p∈l→1≤p.Amount∧p.Amount≤1000000000000)→ -(1000000000000*(l.length:Int))≤lr w l∧lr w l≤1000000000000*(l.length:Int)
 |[],_=>by simp[lr]
 |x::l,h=>by
  have h1:=h x (by simp)
  have h2:=EJ (w:=w) (l:=l) fun y hy=>h y (by simp[hy])
  have e:lr w (x::l)=j6 w x+lr w l:=by simp[lr]
  have b: -1000000000000≤j6 w x∧j6 w x≤1000000000000:=by
   unfold j6
   split
   ·split<;>omega
   ·omega
  rw[e]
  simp only[List.length_cons,Int.natCast_add,Int.natCast_one]
  omega
theorem SA (x:TItem):x.cells=[iv x.Payment.Warrant,iv x.Payment.Payee,iv x.Payment.Amount,iv x.Payment.Due,iv x.Payment.Sub,iv x.State,iv x.Attempts]:=rfl
set_option maxHeartbeats 4000000 in
theorem Ft (xs:List Int) (hx:Mg xs) (hl:xs.length≤9223372036854775807):PFun Tryz.prog none none 6 [aC xs] (·=bv true):=by
 refine eO Tryz.func6 rfl (by simp[Tryz.f6]) ?_
 intro E hP hr hs hW hN
 refine bF (by rw[hN];kernel_rfl) ?_
 simp[go_sem,hP]
 refine bF (by rw[hN];kernel_rfl) ?_
 simp[go_sem,hP]
 have hnew:K5 Tryz.prog E.row E.src 7 [aC xs] 85 2 (·=[[aC (xs.take 900),iv 0]]):=by rw[hr,hs];exact MM xs hl
 refine Fw hnew hP SK (ai (by simp[go_sem,aC])) (by simp[eW,go_sem,aC]) ⟨_,rfl⟩ ?_
 rintro es rfl
 simp[go_sem,hP]
 refine G4 3 (ty:=85) (xs:=xs.take 900) (at_:=0) hr hs hW (by simp[go_sem]) (by simp[go_sem,aC]) (by omega) (by simp;omega) (fun x hx'=>hx x (List.mem_of_mem_take hx')) (by rw[hN];kernel_rfl) ?_
 intro E' p hP' hr' hN' hW'
 rw[hP]at hP'
 rw[hN]at hN'
 clear hnew hP hr hs hW hN E
 rename Env=>E
 rename E.P=_=>hP
 rename E.row=_=>hr
 rename E.N=_=>hN
 rename (∀b,¬E.W b)=>hW
 obtain⟨src,hs⟩:∃src,E.src=src:=⟨_,rfl⟩
 have up:∀{f:FuncId} {args:List AV} {Q:AV→Prop},PFun Tryz.prog (some p) src f args Q→PFun Tryz.prog E.row E.src f args Q:=fun h=>hr▸hs▸h
 simp -dsimp -implicitDefEqProofs [-getElem?_pos,go_sem,hP]
 refine aZ (up (KQ p src 18 (by omega))) hP PY (by simp -dsimp[-getElem?_pos,go_sem]) (I7 18) ?_
 rintro r ⟨x,rfl,hf,hcl⟩ ix
 have hF:=hf.f
 have ck:=FE x (hcl.aud hF)
 have py:=fun (y:TItem) (hy:y∈x.Desk.Items)=>hcl.pays hy
 have cp:=(nw hcl.cp).2.1
 have hpl:=hF.l
 have hil:=hF.d.i
 have part:∀(w:Int) (k:Nat), -1000000000000000≤lr w (x.Ledger.Postings.take k)∧lr w (x.Ledger.Postings.take k)≤1000000000000000:=fun w k=>by
  have:=EJ (w:=w) (l:=x.Ledger.Postings.take k) fun y hy=>(cp y (List.mem_of_mem_take hy)).amt
  rw[List.length_take]at this
  omega
 rw[gL]at ck ix
 simp -dsimp -implicitDefEqProofs [-getElem?_pos,go_sem,hP,gL]
 refine ae (ck.lift _ _) hP Pq (by simpa using ix) .sc ?_
 simp -dsimp -implicitDefEqProofs [-getElem?_pos,go_sem,hP,al]
 obtain⟨I,hI⟩:∃I:Nat→St→Prop,I=fun m s=>∃k:Nat,k≤x.Desk.Items.length∧m=x.Desk.Items.length-k∧s.t 4= .ref 1 0 0∧s.t 20=cg x.Desk.Items∧s.t 21=iv x.Desk.Items.length∧s.t 22=iv k∧s.H[1]?=some (some (stO x)):=⟨_,rfl⟩
 refine ay I (x.Desk.Items.length) (by rw[hN];rfl) ?_ ?_
 ·rw[hI]
  exact⟨0,by omega,by omega,by simp -dsimp[-getElem?_pos,go_sem],by simp -dsimp[-getElem?_pos,go_sem],by simp -dsimp[-getElem?_pos,go_sem],by simp -dsimp[-getElem?_pos,go_sem],by simp -dsimp[-getElem?_pos,go_sem]⟩
 intro m s hs'
 rw[hI]at hs'
 obtain⟨k,hk,hm,t4,t20,t21,t22,g1⟩:=hs'
 have l1:=(gsI g1)
 simp -dsimp -implicitDefEqProofs [-getElem?_pos,go_sem,hP,t21,t22]
 refine aB (fun hq=>?_) (fun hq=>?_)
 rotate_left
 ·simp -dsimp -implicitDefEqProofs [-getElem?_pos,go_sem,hP]
  refine ae (G3 _ _) hP PT (by simp) .sc ?_
  simp -dsimp -implicitDefEqProofs [-getElem?_pos,go_sem,hP]
 have hk:k<x.Desk.Items.length:=by simpa using hq
 obtain⟨i,hi⟩:∃i,x.Desk.Items[k]?=some i:=⟨_,List.getElem?_eq_getElem hk⟩
 have wk:=af ((k:Int)+1) (by omega)
 have pi:=py i (List.mem_of_getElem? hi)
 obtain⟨w,hw⟩:∃w,w=i.Payment.Warrant:=⟨_,rfl⟩
 rw[←hw]at pi
 have part:=part w
 obtain⟨N,hN0⟩:∃N,N=s.H.length:=⟨_,rfl⟩
 obtain⟨H1,hH1⟩:∃H1:ac,H1=s.H++[some ⟨83,7,[[iv i.Payment.Warrant,iv i.Payment.Payee,iv i.Payment.Amount,iv i.Payment.Due,iv i.Payment.Sub,iv i.State,iv i.Attempts]]⟩]:=⟨_,rfl⟩
 have g1':H1[1]?=some (some (stO x)):=by rw[hH1];exact (List.getElem?_append_left l1).trans g1
 have gN:H1[N]?=some (some ⟨83,7,[[iv i.Payment.Warrant,iv i.Payment.Payee,iv i.Payment.Amount,iv i.Payment.Due,iv i.Payment.Sub,iv i.State,iv i.Attempts]]⟩):=by rw[hH1,hN0];simp
 have ln1:=(List.getElem?_eq_some_iff.1 g1').1
 simp -dsimp -implicitDefEqProofs [-getElem?_pos,go_sem,hP,t20,t22,hi,SA,t4]
 rw[←hH1,←hN0]
 simp -dsimp -implicitDefEqProofs [-getElem?_pos,go_sem,hP,g1',ln1,t4,al]
 obtain⟨J,hJ⟩:∃I:Nat→St→Prop,I=fun m s=>∃q:Nat,q≤x.Ledger.Postings.length∧m=x.Ledger.Postings.length-q∧s.t 4= .ref 1 0 0∧s.t 6= .ref N 0 0∧s.t 7=iv (lr w (x.Ledger.Postings.take q))∧s.t 20=cg x.Desk.Items∧s.t 21=iv x.Desk.Items.length∧s.t 22=iv k∧s.t 28=dq x.Ledger.Postings∧s.t 29=iv x.Ledger.Postings.length∧s.t 30=iv q∧s.H[1]?=some (some (stO x))∧s.H[N]?=some (some ⟨83,7,[[iv i.Payment.Warrant,iv i.Payment.Payee,iv i.Payment.Amount,iv i.Payment.Due,iv i.Payment.Sub,iv i.State,iv i.Attempts]]⟩):=⟨_,rfl⟩
 refine ay J (x.Ledger.Postings.length) (by rw[hN];rfl) ?_ ?_
 ·rw[hJ]
  exact⟨0,by omega,by omega,by simp -dsimp[-getElem?_pos,go_sem,t4],by simp -dsimp[-getElem?_pos,go_sem],by simp -dsimp[-getElem?_pos,go_sem];rfl,by simp -dsimp[-getElem?_pos,go_sem,t20],by simp -dsimp[-getElem?_pos,go_sem,t21],by simp -dsimp[-getElem?_pos,go_sem,t22],by simp -dsimp[-getElem?_pos,go_sem],by simp -dsimp[-getElem?_pos,go_sem],by simp -dsimp[-getElem?_pos,go_sem],by simp -dsimp[-getElem?_pos,go_sem,g1'],by simp -dsimp[-getElem?_pos,go_sem,gN]⟩
 clear t4 t20 t21 t22 g1 l1 g1' gN ln1 hH1 H1 hN0 s
 intro m s hs'
 rw[hJ]at hs'
 obtain⟨q,hqk,hm,t4,t6,t7,t20,t21,t22,t28,t29,t30,g1,gN⟩:=hs'
 have l1:=(gsI g1)
 have lN:=(gsI gN)
 simp -dsimp -implicitDefEqProofs [-getElem?_pos,go_sem,hP,t29,t30]
 refine aB (fun hq=>?_) (fun hq=>?_)
 ·have hqk:q<x.Ledger.Postings.length:=by simpa using hq
  obtain⟨y,hy⟩:∃y,x.Ledger.Postings[q]?=some y:=⟨_,List.getElem?_eq_getElem hqk⟩
  have wq:=af ((q:Int)+1) (by omega)
  have es:lr w (x.Ledger.Postings.take (q+1))=lr w (x.Ledger.Postings.take q)+j6 w y:=by
   rw[List.take_add_one,hy]
   simp[lr]
  have p1:=part (q+1)
  have g1':∀Y:List (Option AObj),(s.H++Y)[1]?=some (some (stO x)):=fun Y=>by rw[List.getElem?_append_left l1];exact g1
  have gN':∀Y:List (Option AObj),(s.H++Y)[N]?=_:=fun Y=>(List.getElem?_append_left lN).trans gN
  have lN1:N<s.H.length+1:=by omega
  have nN:¬s.H.length=N:=by omega
  have nN':¬N=s.H.length:=by omega
  by_cases c1:y.Ref=w
  rotate_left
  ·have d1:decide (y.Ref=w)=false:=decide_eq_false c1
   rw[show j6 w y=0 from if_neg c1,Int.add_zero]at es
   simp -dsimp -implicitDefEqProofs [-getElem?_pos,go_sem,hP,t28,t30,hy,cP,t6,gN',lN1,nN,nN',←hw,d1,wq]
   refine⟨x.Ledger.Postings.length-(q+1),by omega,?_⟩
   rw[hJ]
   exact⟨q+1,by omega,rfl,by simp -dsimp[-getElem?_pos,go_sem,t4],by simp -dsimp[-getElem?_pos,go_sem,t6],by simp -dsimp[-getElem?_pos,go_sem,es,t7],by simp -dsimp[-getElem?_pos,go_sem,t20],by simp -dsimp[-getElem?_pos,go_sem,t21],by simp -dsimp[-getElem?_pos,go_sem,t22],by simp -dsimp[-getElem?_pos,go_sem,t28],by simp -dsimp[-getElem?_pos,go_sem,t29],by simp -dsimp[-getElem?_pos,go_sem],by simp -dsimp[-getElem?_pos,go_sem,g1'],by simp -dsimp[-getElem?_pos,go_sem,gN']⟩
  have d1:decide (y.Ref=w)=true:=decide_eq_true c1
  by_cases c2:y.Credit=110
  ·have d2:decide (y.Credit=110)=true:=decide_eq_true c2
   rw[show j6 w y=y.Amount from by rw[j6,if_pos c1,if_pos c2]]at es
   have w1:=af (lr w (x.Ledger.Postings.take q)+y.Amount) (by omega)
   simp -dsimp -implicitDefEqProofs [-getElem?_pos,go_sem,hP,t28,t30,hy,cP,t6,gN',lN1,nN,nN',←hw,d1,d2,t7,w1,wq]
   refine⟨x.Ledger.Postings.length-(q+1),by omega,?_⟩
   rw[hJ]
   exact⟨q+1,by omega,rfl,by simp -dsimp[-getElem?_pos,go_sem,t4],by simp -dsimp[-getElem?_pos,go_sem,t6],by simp -dsimp[-getElem?_pos,go_sem,es],by simp -dsimp[-getElem?_pos,go_sem,t20],by simp -dsimp[-getElem?_pos,go_sem,t21],by simp -dsimp[-getElem?_pos,go_sem,t22],by simp -dsimp[-getElem?_pos,go_sem,t28],by simp -dsimp[-getElem?_pos,go_sem,t29],by simp -dsimp[-getElem?_pos,go_sem],by simp -dsimp[-getElem?_pos,go_sem,g1'],by simp -dsimp[-getElem?_pos,go_sem,gN']⟩
  ·have d2:decide (y.Credit=110)=false:=decide_eq_false c2
   rw[show j6 w y= -y.Amount from by rw[j6,if_pos c1,if_neg c2]]at es
   have w1:=af (lr w (x.Ledger.Postings.take q)-y.Amount) (by omega)
   simp -dsimp -implicitDefEqProofs [-getElem?_pos,go_sem,hP,t28,t30,hy,cP,t6,gN',lN1,nN,nN',←hw,d1,d2,t7,w1,wq]
   refine⟨x.Ledger.Postings.length-(q+1),by omega,?_⟩
   rw[hJ]
   exact⟨q+1,by omega,rfl,by simp -dsimp[-getElem?_pos,go_sem,t4],by simp -dsimp[-getElem?_pos,go_sem,t6],by simp -dsimp[-getElem?_pos,go_sem,es,Int.sub_eq_add_neg],by simp -dsimp[-getElem?_pos,go_sem,t20],by simp -dsimp[-getElem?_pos,go_sem,t21],by simp -dsimp[-getElem?_pos,go_sem,t22],by simp -dsimp[-getElem?_pos,go_sem,t28],by simp -dsimp[-getElem?_pos,go_sem,t29],by simp -dsimp[-getElem?_pos,go_sem],by simp -dsimp[-getElem?_pos,go_sem,g1'],by simp -dsimp[-getElem?_pos,go_sem,gN']⟩
 have hq:q=x.Ledger.Postings.length:=by simp at hq;omega
 subst hq
 rw[List.take_length,pi]at t7
 have nxt:∀s3:St,(s3.t 4= .ref 1 0 0∧s3.t 20=cg x.Desk.Items∧s3.t 21=iv x.Desk.Items.length∧s3.t 22=iv ((k:Int)+1))→s3.H[1]?=some (some (stO x))→I (x.Desk.Items.length-(k+1)) s3:=by
  rintro s3 ⟨a1,a2,a3,a4⟩ a5
  rw[hI]
  exact⟨k+1,by omega,rfl,a1,a2,a3,a4,a5⟩
 unfold fM at t7
 by_cases s2:i.State=2
 ·have d2:decide (i.State=2)=true:=decide_eq_true s2
  rw[d2,Bool.true_or,if_pos rfl]at t7
  by_cases z:i.Payment.Amount=0
  ·have dz:decide (i.Payment.Amount=0)=true:=decide_eq_true z
   simp -dsimp -implicitDefEqProofs [-getElem?_pos,go_sem,hP,t6,t7,gN,lN,d2,dz,t22,wk]
   refine⟨x.Desk.Items.length-(k+1),by omega,?_⟩
   exact nxt _ ⟨by simp -dsimp[-getElem?_pos,go_sem,t4],by simp -dsimp[-getElem?_pos,go_sem,t20],by simp -dsimp[-getElem?_pos,go_sem,t21],by simp -dsimp[-getElem?_pos,go_sem]⟩ (by simp -dsimp[-getElem?_pos,go_sem,g1])
  ·have dz:decide (i.Payment.Amount=0)=false:=decide_eq_false z
   simp -dsimp -implicitDefEqProofs [-getElem?_pos,go_sem,hP,t6,t7,gN,lN,d2,dz,t22,wk]
   refine⟨x.Desk.Items.length-(k+1),by omega,?_⟩
   exact nxt _ ⟨by simp -dsimp[-getElem?_pos,go_sem,t4],by simp -dsimp[-getElem?_pos,go_sem,t20],by simp -dsimp[-getElem?_pos,go_sem,t21],by simp -dsimp[-getElem?_pos,go_sem]⟩ (by simp -dsimp[-getElem?_pos,go_sem,g1])
 have d2:decide (i.State=2)=false:=decide_eq_false s2
 by_cases s3:i.State=3
 ·have d3:decide (i.State=3)=true:=decide_eq_true s3
  rw[d2,d3,Bool.false_or,if_pos rfl]at t7
  by_cases z:i.Payment.Amount=0
  ·have dz:decide (i.Payment.Amount=0)=true:=decide_eq_true z
   simp -dsimp -implicitDefEqProofs [-getElem?_pos,go_sem,hP,t6,t7,gN,lN,d2,d3,dz,t22,wk]
   refine⟨x.Desk.Items.length-(k+1),by omega,?_⟩
   exact nxt _ ⟨by simp -dsimp[-getElem?_pos,go_sem,t4],by simp -dsimp[-getElem?_pos,go_sem,t20],by simp -dsimp[-getElem?_pos,go_sem,t21],by simp -dsimp[-getElem?_pos,go_sem]⟩ (by simp -dsimp[-getElem?_pos,go_sem,g1])
  ·have dz:decide (i.Payment.Amount=0)=false:=decide_eq_false z
   simp -dsimp -implicitDefEqProofs [-getElem?_pos,go_sem,hP,t6,t7,gN,lN,d2,d3,dz,t22,wk]
   refine⟨x.Desk.Items.length-(k+1),by omega,?_⟩
   exact nxt _ ⟨by simp -dsimp[-getElem?_pos,go_sem,t4],by simp -dsimp[-getElem?_pos,go_sem,t20],by simp -dsimp[-getElem?_pos,go_sem,t21],by simp -dsimp[-getElem?_pos,go_sem]⟩ (by simp -dsimp[-getElem?_pos,go_sem,g1])
 have d3:decide (i.State=3)=false:=decide_eq_false s3
 rw[d2,d3,Bool.or_false,if_neg (by simp)]at t7
 simp -dsimp -implicitDefEqProofs [-getElem?_pos,go_sem,hP,t6,t7,gN,lN,d2,d3,t22,wk]
 refine⟨x.Desk.Items.length-(k+1),by omega,?_⟩
 exact nxt _ ⟨by simp -dsimp[-getElem?_pos,go_sem,t4],by simp -dsimp[-getElem?_pos,go_sem,t20],by simp -dsimp[-getElem?_pos,go_sem,t21],by simp -dsimp[-getElem?_pos,go_sem]⟩ (by simp -dsimp[-getElem?_pos,go_sem,g1])
end Go.Proofs.YtaenimpfelpafaaGreatDoor
