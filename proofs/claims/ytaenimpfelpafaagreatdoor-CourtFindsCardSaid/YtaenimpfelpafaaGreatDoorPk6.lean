/- Several texts of this claim, joined: Bat13 Bat14 Bat15 Bat16 Rec2 Rec3 Rec4 Rec5 Rec6 Rec7 AccNet Rec9 Rec10 Rec8 Key1 Reg1 Reg2 Reg3 PaCut. -/
import Derived.Test.YtaenimpfelpafaaGreatDoorPk5
set_option linter.unusedSimpArgs false
set_option linter.unusedVariables false
set_option maxRecDepth 4000
namespace Go.Proofs.YtaenimpfelpafaaGreatDoor
open Go.PA
open Go.RowKit
theorem DZ (q:TQueue) (day:Int) (hf:FitQ q):PFun Tryz.prog none none 220 [.agg q.cells,iv day] (·=aC (fU q day)):=by
 refine ab Tryz.func220 rfl (by simp[Tryz.f220]) (by kernel_rfl) ?_
 intro E hP hr hs hW hN
 have ck:=jf q hf
 have iq:=dr q
 have ip:=cg q.Waiting
 have i2:=fG q.Known
 have i3:=jc q.Batches
 rw[cQu]at ck iq
 simp only[aF]at i2 ck iq
 simp -dsimp -implicitDefEqProofs [-getElem?_pos,go_sem,hP,cQu,aF]
 refine ae (ck.lift _ _) hP vU (by simpa using iq) .sc ?_
 by_cases c1:cT q=0
 rotate_left
 ·have:fU q day=[]:=by rw[fU,if_neg c1]
  simp -dsimp -implicitDefEqProofs [-getElem?_pos,go_sem,hP,c1]
  exact gy .nil (cN.2 (by simp)) (.nil 5) (by rw[this];rfl)
 have hrd:fU q day=q.Waiting.filter (fun p=>decide (p.Due≤day)):=by rw[fU,if_pos c1]
 rw[hrd]
 obtain⟨l,hl⟩:∃l,l=q.Waiting:=⟨_,rfl⟩
 have lw:=hf.w
 rw[←hl]at lw⊢
 simp -dsimp -implicitDefEqProofs [-getElem?_pos,go_sem,hP,c1]
 refine eJ 5 81 5 (by simp -dsimp[-getElem?_pos,go_sem]) ?_
 obtain⟨I,hI⟩:∃I:Nat→St→Prop,I=fun m s=>∃(k id:Nat) (ys:List TPayment),k≤l.length∧m=l.length-k∧ys=(l.take k).filter (fun p=>decide (p.Due≤day))∧ys.length≤k∧s.t 1=iv day∧s.t 12=aC l∧s.t 13=iv l.length∧s.t 14=iv k∧s.t 5= .sref id 0 ys.length∧s.H[id]?=some (some ⟨81,5,aj TPayment.cells ys⟩):=⟨_,rfl⟩
 refine zQ 5 hW I (l.length) (by rw[hN];rfl) ?_ ?_
 ·rw[hI]
  exact⟨0,1,[],by omega,by omega,by simp,by simp,by simp -dsimp[-getElem?_pos,go_sem],by simp -dsimp[-getElem?_pos,go_sem,hl],by simp -dsimp[-getElem?_pos,go_sem,hl],by simp -dsimp[-getElem?_pos,go_sem],by simp -dsimp[-getElem?_pos,go_sem],by simp -dsimp[-getElem?_pos,go_sem]⟩
 intro m s hs'
 rw[hI]at hs'
 obtain⟨k,id,ys,hk,hm,hys,hyl,t1,t12,t13,t14,t5,hH⟩:=hs'
 have hlt:=(gsI hH)
 simp -dsimp -implicitDefEqProofs [-getElem?_pos,go_sem,hP,t13,t14]
 refine aB (fun h=>?_) (fun h=>?_)
 ·have hk:k<l.length:=by simpa using h
  obtain⟨x,hx⟩:∃x,l[k]?=some x:=⟨_,List.getElem?_eq_getElem hk⟩
  have wk:=af ((k:Int)+1) (by omega)
  have nx:(l.take (k+1)).filter (fun p=>decide (p.Due≤day))=if x.Due≤day then ys++[x]else ys:=by
   rw[bV hx,List.filter_append,←hys]
   by_cases c:x.Due≤day<;>simp[c]
  by_cases c:x.Due≤day
  ·rw[if_pos c]at nx
   have d:decide (x.Due≤day)=true:=decide_eq_true c
   have nid:¬id=s.H.length:=by omega
   simp -dsimp -implicitDefEqProofs [-getElem?_pos,go_sem,hP,t14,t12,hx,cPy,t1,d,wk,t5,hH,hlt]
   refine⟨by omega,by omega,?_⟩
   refine⟨l.length-(k+1),by omega,?_⟩
   rw[hI]
   exact⟨k+1,s.H.length+1,ys++[x],by omega,rfl,nx.symm,by simp;omega,by simp -dsimp[-getElem?_pos,go_sem,t1],by simp -dsimp[-getElem?_pos,go_sem,t12],by simp -dsimp[-getElem?_pos,go_sem,t13],by simp -dsimp[-getElem?_pos,go_sem],by simp -dsimp[-getElem?_pos,go_sem],by rw[←ba];simp -dsimp -implicitDefEqProofs [-getElem?_pos,go_sem,cPy]⟩
  ·rw[if_neg c]at nx
   have d:decide (x.Due≤day)=false:=decide_eq_false c
   simp -dsimp -implicitDefEqProofs [-getElem?_pos,go_sem,hP,t14,t12,hx,cPy,t1,d,wk]
   refine⟨l.length-(k+1),by omega,?_⟩
   rw[hI]
   exact⟨k+1,id,ys,by omega,rfl,nx.symm,by omega,by simp -dsimp[-getElem?_pos,go_sem,t1],by simp -dsimp[-getElem?_pos,go_sem,t12],by simp -dsimp[-getElem?_pos,go_sem,t13],by simp -dsimp[-getElem?_pos,go_sem],by simp -dsimp[-getElem?_pos,go_sem,t5],by simp -dsimp[-getElem?_pos,go_sem,hH,hlt]⟩
 ·have hk:k=l.length:=by simp at h;omega
  subst hk
  rw[List.take_length]at hys
  refine frz id _ 81 5 (aj TPayment.cells ys) t5 hH (by rw[al]) (cg _) ?_
  simp -dsimp -implicitDefEqProofs [-getElem?_pos,go_sem,hP]
  exact aw (cg _) (by rw[hys])
open Go.PA
open Go.RowKit
theorem wP {α:Type} {lt:α→α→Bool} {x a:α} {l:List α} (h:lt x a=true):ins lt (x::l) a=x::ins lt l a:=by
 simp[ins,h]
theorem vT {α:Type} {lt:α→α→Bool} {x a:α} {l:List α} (h:lt x a=false):ins lt (x::l) a=a::x::l:=by
 simp[ins,h]
theorem zr {α:Type} {lt:α→α→Bool} {a:α}:ins lt [] a=[a]:=rfl
set_option maxHeartbeats 1000000 in
theorem IA (q:TQueue) (p:TPayment) (hf:FitQ q):PFun Tryz.prog none none 276 [.agg q.cells,.agg p.cells] (·= .agg (TQueue.mk (ins iX q.Waiting p) q.Known q.Batches).cells):=by
 refine eV Tryz.func276 rfl (by simp[Tryz.f276]) ?_
 intro E hP hr hs hW hN
 obtain⟨l,K,bs⟩:=q
 have lw:l.length≤100000:=hf.w
 have ip:=cg l
 have i2:=fG K
 have i3:=jc bs
 have ipp:=fq p
 simp only[aF]at i2
 rw[cPy]at ipp
 simp only[cQu,aF]
 refine bG (by rw[hN];kernel_rfl) ?_
 simp -dsimp -implicitDefEqProofs [-getElem?_pos,go_sem,hP,cQu,cPy,aF]
 refine bG (by rw[hN];kernel_rfl) ?_
 simp -dsimp -implicitDefEqProofs [-getElem?_pos,go_sem,hP]
 obtain⟨Inv,hInv⟩:∃Inv:St→Prop,Inv=fun s=>∃k:Nat,k≤l.length∧ins iX l p=l.take k++p::l.drop k∧s.t 2= .ref 0 0 0∧s.t 3= .ref 1 0 0∧s.t 4= .ref 2 0 0∧s.t 5=iv k∧s.H=[some ⟨32,3,[[aC l,.list 1 (K.map fun x=>[iv x]),aX bs]]⟩,some ⟨81,5,[[iv p.Warrant,iv p.Payee,iv p.Amount,iv p.Due,iv p.Sub]]⟩,some ⟨32,3,[[.nil,.nil,.nil]]⟩]:=⟨_,rfl⟩
 refine fI Inv (by rw[hN];kernel_rfl) ?_ ?_
 rotate_left
 ·intro s hs'
  rw[hInv]at hs'
  obtain⟨k,hk,hi,t2,t3,t4,t5,hH⟩:=hs'
  refine bU _ _ _ (by rw[hN];kernel_rfl) ?_
  simp -dsimp -implicitDefEqProofs [-getElem?_pos,go_sem,hP]
  refine ao (fun i=>decide (i<3)) [14] hP (by kernel_rfl) (by kernel_rfl) ?_
  have D:∀i,decide (i<3)=true→i=0∨i=1∨i=2:=fun i hi=>by
   simp only[decide_eq_true_eq]at hi
   omega
  obtain⟨A,hA⟩:∃A,A=l.take k:=⟨_,rfl⟩
  obtain⟨B,hB⟩:∃B,B=l.drop k:=⟨_,rfl⟩
  have lA:A.length=k:=by rw[hA,List.length_take];omega
  have lB:B.length=l.length-k:=by rw[hB,List.length_drop]
  rw[←hA,←hB]at hi
  simp -dsimp -implicitDefEqProofs [-getElem?_pos,go_sem,hP,t2,t3,t5,hH,bg,cK,cD,hk,eX,du,←hA,←hB,lA,lB]
  refine⟨by omega,by omega,fun i hi=>?_,by omega,by omega,fun i hi=>?_,by omega,by omega,fun i hi=>?_,?_⟩
  ·rcases D i hi with rfl|rfl|rfl<;>rfl
  ·rcases D i hi with rfl|rfl|rfl<;>rfl
  ·rcases D i hi with rfl|rfl|rfl<;>rfl
  simp -dsimp -implicitDefEqProofs [-getElem?_pos,go_sem,hP,t4]
  refine AQ (cs':=(TQueue.mk (ins iX l p) K bs).cells) ?_ rfl
  refine da (ty:=81) (es:=aj TPayment.cells (ins iX l p)) ?_ (by rw[al,hi,List.length_append,List.length_cons];omega) (cg _) (di i2 (di i3 .nil))
  simp -dsimp -implicitDefEqProofs [-getElem?_pos,go_sem,hi]
  simp[aj,cPy]
 simp -dsimp -implicitDefEqProofs [-getElem?_pos,go_sem,hP]
 obtain⟨I,hI⟩:∃I:Nat→St→Prop,I=fun m s=>∃k:Nat,k≤l.length∧m=l.length-k∧ins iX l p=l.take k++ins iX (l.drop k) p∧s.t 2= .ref 0 0 0∧s.t 3= .ref 1 0 0∧s.t 4= .ref 2 0 0∧s.t 5=iv k∧s.H=[some ⟨32,3,[[aC l,.list 1 (K.map fun x=>[iv x]),aX bs]]⟩,some ⟨81,5,[[iv p.Warrant,iv p.Payee,iv p.Amount,iv p.Due,iv p.Sub]]⟩,some ⟨32,3,[[.nil,.nil,.nil]]⟩]:=⟨_,rfl⟩
 refine ay I (l.length) (by rw[hN];rfl) ?_ ?_
 ·rw[hI]
  exact⟨0,by omega,by omega,by simp,by simp -dsimp[-getElem?_pos,go_sem],by simp -dsimp[-getElem?_pos,go_sem],by simp -dsimp[-getElem?_pos,go_sem],by simp -dsimp[-getElem?_pos,go_sem],by simp -dsimp[-getElem?_pos,go_sem]⟩
 intro m s hs'
 rw[hI]at hs'
 obtain⟨k,hk,hm,hi,t2,t3,t4,t5,hH⟩:=hs'
 simp -dsimp -implicitDefEqProofs [-getElem?_pos,go_sem,hP]
 refine ao (fun _=>true) [] hP (by kernel_rfl) (by kernel_rfl) ?_
 have ag:∀X:ac,X=s.H→Agree (fun _=>true) s.H X:=fun X e i _=>by rw[e]
 by_cases c:k<l.length
 ·obtain⟨x,hx⟩:∃x,l[k]?=some x:=⟨_,List.getElem?_eq_getElem c⟩
  have d:decide ((k:Int)<(l.length:Int))=true:=decide_eq_true (by omega)
  have ix:=fq x
  have bf:=wY x p
  rw[cPy,cPy]at bf
  rw[cPy]at ix
  rw[cU hx]at hi
  have wk:=af ((k:Int)+1) (by omega)
  simp -dsimp -implicitDefEqProofs [-getElem?_pos,go_sem,hP,t2,t5,t3,hH,d,c,hx,cPy]
  refine ae (bf.lift _ _) hP KM (by simpa using⟨ix,ipp⟩) .sc ?_
  cases cb:iX x p
  rotate_left
  ·rw[wP cb]at hi
   simp -dsimp -implicitDefEqProofs [-getElem?_pos,go_sem,hP,cb,t5,wk]
   refine⟨ag _ hH.symm,?_⟩
   refine⟨l.length-(k+1),by omega,?_⟩
   rw[hI]
   exact⟨k+1,by omega,rfl,by rw[hi,bV hx];simp,by simp -dsimp[-getElem?_pos,go_sem,t2],by simp -dsimp[-getElem?_pos,go_sem,t3],by simp -dsimp[-getElem?_pos,go_sem,t4],by simp -dsimp[-getElem?_pos,go_sem],by simp -dsimp[-getElem?_pos,go_sem,hH]⟩
  ·rw[vT cb,←cU hx]at hi
   simp -dsimp -implicitDefEqProofs [-getElem?_pos,go_sem,hP,cb,t5]
   refine⟨ag _ hH.symm,?_⟩
   refine⟨_,Weaker.refl _,?_⟩
   rw[hInv]
   exact⟨k,hk,hi,by simp -dsimp[-getElem?_pos,go_sem,t2],by simp -dsimp[-getElem?_pos,go_sem,t3],by simp -dsimp[-getElem?_pos,go_sem,t4],by simp -dsimp[-getElem?_pos,go_sem,t5],by simp -dsimp[-getElem?_pos,go_sem,hH]⟩
 ·have hk:k=l.length:=by omega
  have d:decide ((k:Int)<(l.length:Int))=false:=decide_eq_false (by omega)
  rw[List.drop_of_length_le (by omega),zr]at hi
  simp -dsimp -implicitDefEqProofs [-getElem?_pos,go_sem,hP,t2,t5,t3,hH,d,c]
  refine⟨_,Weaker.refl _,?_⟩
  rw[hInv]
  exact⟨k,by omega,by rw[hi,List.drop_of_length_le (by omega)],by simp -dsimp[-getElem?_pos,go_sem,t2],by simp -dsimp[-getElem?_pos,go_sem,t3],by simp -dsimp[-getElem?_pos,go_sem,t4],by simp -dsimp[-getElem?_pos,go_sem,t5],by simp -dsimp[-getElem?_pos,go_sem,hH]⟩
set_option maxHeartbeats 1000000 in
theorem H8 (q:TQueue) (w:Int) (hf:FitQ q):PFun Tryz.prog none none 225 [.agg q.cells,iv w] (·= .tup [.agg (fR q w).1.cells,iv (fR q w).2]):=by
 refine ab Tryz.func225 rfl (by simp[Tryz.f225]) (by kernel_rfl) ?_
 intro E hP hr hs hW hN
 have ck:=jf q hf
 have iq:=dr q
 have ip:=cg q.Waiting
 have i2:=fG q.Known
 have i3:=jc q.Batches
 have wt:=xV q w (by have:=hf.w;omega)
 rw[cQu]at ck iq wt
 simp only[aF]at i2 ck iq wt
 simp -dsimp -implicitDefEqProofs [-getElem?_pos,go_sem,hP,cQu,aF]
 refine ae (ck.lift _ _) hP vU (by simpa using iq) .sc ?_
 by_cases c1:cT q=0
 rotate_left
 ·have:fR q w=(dz,cT q):=by rw[fR,if_neg c1]
  simp -dsimp -implicitDefEqProofs [-getElem?_pos,go_sem,hP,c1]
  refine gx ?_
  rw[this]
 have hq:=dI.1 c1
 simp -dsimp -implicitDefEqProofs [-getElem?_pos,go_sem,hP,c1]
 refine ae (wt.lift _ _) hP JG (by simpa[ar]using iq) .sc ?_
 by_cases c2:ge q w<0
 ·have d2:decide (ge q w<0)=true:=decide_eq_true c2
  have:fR q w=(dz,6):=by rw[fR,if_pos c1,if_pos c2]
  simp -dsimp -implicitDefEqProofs [-getElem?_pos,go_sem,hP,d2]
  refine gx ?_
  rw[this]
 have d2:decide (ge q w<0)=false:=decide_eq_false c2
 obtain⟨i,p,hi,hip,hpw,hil⟩:=mm c2
 have hdr:fR q w=(⟨q.Waiting.eraseIdx i,q.Known,q.Batches⟩,0):=by rw[fR,if_pos c1,if_neg c2,hi];rfl
 rw[hdr]
 rw[hi]at d2
 have lw:=hq.lw
 have w1:=af ((i:Int)+1) (by omega)
 obtain⟨K,hK⟩:∃K,K=q.Known:=⟨_,rfl⟩
 obtain⟨bs,hbs⟩:∃bs,bs=q.Batches:=⟨_,rfl⟩
 obtain⟨l,hl⟩:∃l,l=q.Waiting:=⟨_,rfl⟩
 rw[←hK,←hbs,←hl]
 rw[←hl]at hil lw ip
 rw[←hK]at i2
 rw[←hbs]at i3
 simp -dsimp -implicitDefEqProofs [-getElem?_pos,go_sem,hP,hi,d2]
 refine ao (fun i=>decide (i<2)) [12] hP (by kernel_rfl) (by kernel_rfl) ?_
 have D:∀i,decide (i<2)=true→i=0∨i=1:=fun i hi=>by
  simp only[decide_eq_true_eq]at hi
  omega
 obtain⟨A,hA⟩:∃A,A=l.take i:=⟨_,rfl⟩
 obtain⟨B,hB⟩:∃B,B=l.drop (i+1):=⟨_,rfl⟩
 have lA:A.length=i:=by rw[hA,List.length_take];omega
 have lB:B.length=l.length-(i+1):=by rw[hB,List.length_drop]
 have he:l.eraseIdx i=A++B:=by rw[hA,hB];exact List.eraseIdx_eq_take_drop_succ _ _
 have g1:i≤l.length:=by omega
 have g2:(i:Int)+1≤l.length:=by omega
 have g3:(0:Int)≤(i:Int)+1:=by omega
 have g4:((i:Int)+1).toNat=i+1:=by omega
 simp -dsimp -implicitDefEqProofs [-getElem?_pos,go_sem,hP,hi,bg,cK,cD,←hl,w1,g1,g2,g3,g4,eX,du,←hA,←hB,lA,lB]
 refine⟨by omega,by omega,fun i hi=>?_,by omega,by omega,fun i hi=>?_,?_⟩
 ·rcases D i hi with rfl|rfl<;>rfl
 ·rcases D i hi with rfl|rfl<;>rfl
 refine aP (cs':=(TQueue.mk (l.eraseIdx i) K bs).cells) ?_ rfl
 refine da (ty:=81) (es:=aj TPayment.cells (l.eraseIdx i)) ?_ (by rw[al,he,List.length_append];omega) (cg _) (di i2 (di i3 .nil))
 simp -dsimp -implicitDefEqProofs [-getElem?_pos,go_sem,he,lr]
set_option maxHeartbeats 1000000 in
theorem JO (q:TQueue) (p:TPayment) (hf:FitQ q):PFun Tryz.prog none none 217 [.agg q.cells,.agg p.cells] (·= .tup [.agg (jh q p).1.cells,iv (jh q p).2]):=by
 refine eV Tryz.func217 rfl (by simp[Tryz.f217]) ?_
 intro E hP hr hs hW hN
 have ck:=jf q hf
 have iq:=dr q
 have ipp:=fq p
 have ip:=cg q.Waiting
 have i2:=fG q.Known
 have i3:=jc q.Batches
 have ct:=xU q p.Warrant (by have:=hf.k;omega)
 have py:=Ab p
 have pt:cT q=0→_:=fun c=>IA ⟨q.Waiting,ins ltB q.Known p.Warrant,q.Batches⟩ p ⟨hf.w,by have:=(dI.1 c).lk;simp only[qP];omega,hf.b,hf.each⟩
 have iq2:=dr ⟨q.Waiting,ins ltB q.Known p.Warrant,q.Batches⟩
 have iqq:=dr ⟨ins iX q.Waiting p,ins ltB q.Known p.Warrant,q.Batches⟩
 rw[cPy]at py
 simp only[cQu,cPy,aF]at ck iq iq2 ct pt ipp iqq i2
 refine bG (by rw[hN];kernel_rfl) ?_
 simp -dsimp -implicitDefEqProofs [-getElem?_pos,go_sem,hP,cQu,cPy,aF]
 refine bG (by rw[hN];kernel_rfl) ?_
 simp -dsimp -implicitDefEqProofs [-getElem?_pos,go_sem,hP]
 refine ae (ck.lift _ _) hP vU (by simpa using iq) .sc ?_
 by_cases c1:cT q=0
 rotate_left
 ·have:jh q p=(dz,cT q):=by rw[jh,if_neg c1]
  simp -dsimp -implicitDefEqProofs [-getElem?_pos,go_sem,hP,c1]
  refine gx ?_
  rw[this];rfl
 have hq:=dI.1 c1
 have pt:=pt c1
 simp -dsimp -implicitDefEqProofs [-getElem?_pos,go_sem,hP,c1]
 refine bG (by rw[hN];kernel_rfl) ?_
 simp -dsimp -implicitDefEqProofs [-getElem?_pos,go_sem,hP]
 refine ae (py.lift _ _) hP C7 (by simpa using ipp) .sc ?_
 cases c2:gz p
 ·have:jh q p=(dz,64):=by rw[jh,if_pos c1,if_neg (by simp[c2])]
  simp -dsimp -implicitDefEqProofs [-getElem?_pos,go_sem,hP,c2]
  refine gx ?_
  rw[this];rfl
 simp -dsimp -implicitDefEqProofs [-getElem?_pos,go_sem,hP,c2]
 refine ae (ct.lift _ _) hP IL (by simpa[ar]using iq) .sc ?_
 by_cases c3:p.Warrant∈q.Known
 ·have:jh q p=(dz,65):=by rw[jh,if_pos c1,if_pos c2,if_pos c3]
  simp -dsimp -implicitDefEqProofs [-getElem?_pos,go_sem,hP,c2,c3]
  refine gx ?_
  rw[this];rfl
 by_cases c4:q.Waiting.length=100
 ·have d4:decide ((q.Waiting.length:Int)=100)=true:=decide_eq_true (by omega)
  have:jh q p=(dz,3):=by rw[jh,if_pos c1,if_pos c2,if_neg c3,if_pos (.inl c4)]
  simp -dsimp -implicitDefEqProofs [-getElem?_pos,go_sem,hP,c2,c3,d4]
  refine gx ?_
  rw[this];rfl
 have d4:decide ((q.Waiting.length:Int)=100)=false:=decide_eq_false (by omega)
 by_cases c5:q.Known.length=200
 ·have d5:decide ((q.Known.length:Int)=200)=true:=decide_eq_true (by omega)
  have:jh q p=(dz,3):=by rw[jh,if_pos c1,if_pos c2,if_neg c3,if_pos (.inr c5)]
  simp -dsimp -implicitDefEqProofs [-getElem?_pos,go_sem,hP,c2,c3,d4,d5]
  refine gx ?_
  rw[this];rfl
 have d5:decide ((q.Known.length:Int)=200)=false:=decide_eq_false (by omega)
 have hadd:jh q p=(⟨ins iX q.Waiting p,ins ltB q.Known p.Warrant,q.Batches⟩,0):=by rw[jh,if_pos c1,if_pos c2,if_neg c3,if_neg (by omega)]
 rw[hadd]
 simp -dsimp -implicitDefEqProofs [-getElem?_pos,go_sem,hP,c2,c3,d4,d5]
 refine bG (by rw[hN];kernel_rfl) ?_
 simp -dsimp -implicitDefEqProofs [-getElem?_pos,go_sem,hP]
 obtain⟨l,hl⟩:∃l,l=q.Known:=⟨_,rfl⟩
 obtain⟨W,hWt⟩:∃W,W=q.Waiting:=⟨_,rfl⟩
 obtain⟨bs,hbs⟩:∃bs,bs=q.Batches:=⟨_,rfl⟩
 have lw:l.length≤100000:=by rw[hl];exact hf.k
 simp only[←hl,←hWt,←hbs]at*
 obtain⟨Inv,hInv⟩:∃Inv:St→Prop,Inv=fun s=>∃k:Nat,k≤l.length∧ins ltB l p.Warrant=l.take k++p.Warrant::l.drop k∧s.t 2= .ref 0 0 0∧s.t 3= .ref 1 0 0∧s.t 4= .ref 2 0 0∧s.t 7=iv k∧s.H=[some ⟨32,3,[[aC W,.list 1 (l.map fun x=>[iv x]),aX bs]]⟩,some ⟨81,5,[[iv p.Warrant,iv p.Payee,iv p.Amount,iv p.Due,iv p.Sub]]⟩,some ⟨32,3,[[.nil,.nil,.nil]]⟩]:=⟨_,rfl⟩
 refine fI Inv (by rw[hN];kernel_rfl) ?_ ?_
 rotate_left
 ·intro s hs'
  rw[hInv]at hs'
  obtain⟨k,hk,hi,t2,t3,t4,t7,hH⟩:=hs'
  refine bU _ _ _ (by rw[hN];kernel_rfl) ?_
  simp -dsimp -implicitDefEqProofs [-getElem?_pos,go_sem,hP]
  refine ao (fun i=>decide (i<3)) [15] hP (by kernel_rfl) (by kernel_rfl) ?_
  have D:∀i,decide (i<3)=true→i=0∨i=1∨i=2:=fun i hi=>by
   simp only[decide_eq_true_eq]at hi
   omega
  obtain⟨A,hA⟩:∃A,A=l.take k:=⟨_,rfl⟩
  obtain⟨B,hB⟩:∃B,B=l.drop k:=⟨_,rfl⟩
  have lA:A.length=k:=by rw[hA,List.length_take];omega
  have lB:B.length=l.length-k:=by rw[hB,List.length_drop]
  have eA:(l.map fun x=>[iv x]).take k=A.map fun x=>[iv x]:=by rw[hA,List.map_take]
  have eB:(l.map fun x=>[iv x]).drop k=B.map fun x=>[iv x]:=by rw[hB,List.map_drop]
  rw[←hA,←hB]at hi
  simp -dsimp -implicitDefEqProofs [-getElem?_pos,go_sem,hP,t2,t3,t7,hH,bg,cK,cD,hk,eA,eB,lA,lB]
  refine⟨by omega,by omega,fun i hi=>?_,by omega,by omega,fun i hi=>?_,by omega,by omega,fun i hi=>?_,?_⟩
  ·rcases D i hi with rfl|rfl|rfl<;>rfl
  ·rcases D i hi with rfl|rfl|rfl<;>rfl
  ·rcases D i hi with rfl|rfl|rfl<;>rfl
  have eAB:(A.map fun x=>[iv x])++[iv p.Warrant]::(B.map fun x=>[iv x])=oa (ins ltB l p.Warrant):=by rw[hi];simp[oa]
  have lI:k+1+(l.length-k)=(oa (ins ltB l p.Warrant)).length:=by rw[Bw,qP];omega
  rw[eAB]
  generalize hH6:(_::_:ac)=H6
  have b5:H6[5]?=some (some ⟨3,1,oa (ins ltB l p.Warrant)⟩):=by rw[←hH6];rfl
  have b2:H6[2]?=some (some ⟨32,3,[[.nil,.nil,.nil]]⟩):=by rw[←hH6];rfl
  refine F1 (pt.lift _ _) hP hW NP (wI (di ip (da b5 lI (fG _) (di i3 .nil))) (aH ipp (be.2 trivial))) iqq ?_
  generalize hH7:qA _ H6=H7
  have f2:H7[2]?=some (some ⟨32,3,[[.nil,.nil,.nil]]⟩):=by
   rw[←hH7]
   show (H6.set 5 none)[2]?=_
   rw[List.getElem?_set_ne (by omega),b2]
  have lt2:=(gsI f2)
  simp -dsimp -implicitDefEqProofs [-getElem?_pos,go_sem,hP,t4,f2,lt2]
  exact aw (ak iqq .sc) rfl
 simp -dsimp -implicitDefEqProofs [-getElem?_pos,go_sem,hP]
 obtain⟨I,hI⟩:∃I:Nat→St→Prop,I=fun m s=>∃k:Nat,k≤l.length∧m=l.length-k∧ins ltB l p.Warrant=l.take k++ins ltB (l.drop k) p.Warrant∧s.t 2= .ref 0 0 0∧s.t 3= .ref 1 0 0∧s.t 4= .ref 2 0 0∧s.t 7=iv k∧s.H=[some ⟨32,3,[[aC W,.list 1 (l.map fun x=>[iv x]),aX bs]]⟩,some ⟨81,5,[[iv p.Warrant,iv p.Payee,iv p.Amount,iv p.Due,iv p.Sub]]⟩,some ⟨32,3,[[.nil,.nil,.nil]]⟩]:=⟨_,rfl⟩
 refine ay I (l.length) (by rw[hN];rfl) ?_ ?_
 ·rw[hI]
  exact⟨0,by omega,by omega,by simp,by simp -dsimp[-getElem?_pos,go_sem],by simp -dsimp[-getElem?_pos,go_sem],by simp -dsimp[-getElem?_pos,go_sem],by simp -dsimp[-getElem?_pos,go_sem],by simp -dsimp[-getElem?_pos,go_sem]⟩
 intro m s hs'
 rw[hI]at hs'
 obtain⟨k,hk,hm,hi,t2,t3,t4,t7,hH⟩:=hs'
 simp -dsimp -implicitDefEqProofs [-getElem?_pos,go_sem,hP]
 refine ao (fun _=>true) [] hP (by kernel_rfl) (by kernel_rfl) ?_
 by_cases c:k<l.length
 ·obtain⟨x,hx⟩:∃x,l[k]?=some x:=⟨_,List.getElem?_eq_getElem c⟩
  have d:decide ((k:Int)<(l.length:Int))=true:=decide_eq_true (by omega)
  rw[cU hx]at hi
  have wk:=af ((k:Int)+1) (by omega)
  by_cases cb:x<p.Warrant
  ·have db:decide (x<p.Warrant)=true:=decide_eq_true cb
   rw[wP ((Kt _ _).2 cb)]at hi
   simp -dsimp -implicitDefEqProofs [-getElem?_pos,go_sem,hP,t2,t7,t3,hH,d,c,hx,db,wk]
   refine⟨l.length-(k+1),by omega,?_⟩
   rw[hI]
   exact⟨k+1,by omega,rfl,by rw[hi,bV hx];simp,by simp -dsimp[-getElem?_pos,go_sem,t2],by simp -dsimp[-getElem?_pos,go_sem,t3],by simp -dsimp[-getElem?_pos,go_sem,t4],by simp -dsimp[-getElem?_pos,go_sem],by simp -dsimp[-getElem?_pos,go_sem,hH]⟩
  ·have db:decide (x<p.Warrant)=false:=decide_eq_false cb
   rw[vT (show ltB x p.Warrant=false from db),←cU hx]at hi
   simp -dsimp -implicitDefEqProofs [-getElem?_pos,go_sem,hP,t2,t7,t3,hH,d,c,hx,db]
   refine⟨_,Weaker.refl _,?_⟩
   rw[hInv]
   exact⟨k,hk,hi,by simp -dsimp[-getElem?_pos,go_sem,t2],by simp -dsimp[-getElem?_pos,go_sem,t3],by simp -dsimp[-getElem?_pos,go_sem,t4],by simp -dsimp[-getElem?_pos,go_sem,t7],by simp -dsimp[-getElem?_pos,go_sem,hH]⟩
 ·have hk:k=l.length:=by omega
  have d:decide ((k:Int)<(l.length:Int))=false:=decide_eq_false (by omega)
  rw[List.drop_of_length_le (by omega),zr]at hi
  simp -dsimp -implicitDefEqProofs [-getElem?_pos,go_sem,hP,t2,t7,t3,hH,d,c]
  refine⟨_,Weaker.refl _,?_⟩
  rw[hInv]
  exact⟨k,by omega,by rw[hi,List.drop_of_length_le (by omega)],by simp -dsimp[-getElem?_pos,go_sem,t2],by simp -dsimp[-getElem?_pos,go_sem,t3],by simp -dsimp[-getElem?_pos,go_sem,t4],by simp -dsimp[-getElem?_pos,go_sem,t7],by simp -dsimp[-getElem?_pos,go_sem,hH]⟩
open Go.PA
open Go.RowKit
open Go.PA
open Go.RowKit
set_option maxHeartbeats 4000000 in
theorem Ie (q:TQueue) (day:Int) (ws:List Int) (hf:FitQ q) (hw:ws.length≤100000):PFun Tryz.prog none none 221 [.agg q.cells,iv day,aF ws] (·= .tup [.agg (cC q day ws).1.cells,.agg (cC q day ws).2.1.cells,iv (cC q day ws).2.2]):=by
 refine eV Tryz.func221 rfl (by simp[Tryz.f221]) ?_
 intro E hP hr hs hW hN
 have ck:=jf q hf
 have iq:=dr q
 have ip:=cg q.Waiting
 have i2:=fG q.Known
 have i3:=jc q.Batches
 have iw:=fG ws
 have lb:=hf.b
 have lw:=hf.w
 rw[cQu]at ck iq
 simp only[aF]at i2 ck iq iw
 refine bG (by rw[hN];kernel_rfl) ?_
 simp -dsimp -implicitDefEqProofs [-getElem?_pos,go_sem,hP,cQu,aF]
 refine bG (by rw[hN];kernel_rfl) ?_
 simp -dsimp -implicitDefEqProofs [-getElem?_pos,go_sem,hP]
 refine ae (ck.lift _ _) hP vU (by simpa using iq) .sc ?_
 by_cases c1:cT q=0
 rotate_left
 ·have:cC q day ws=(dz,dy,cT q):=by rw[cC,if_neg c1]
  simp -dsimp -implicitDefEqProofs [-getElem?_pos,go_sem,hP,c1]
  refine cz ?_
  rw[this];rfl
 have hq:=dI.1 c1
 simp -dsimp -implicitDefEqProofs [-getElem?_pos,go_sem,hP,c1]
 refine bG (by rw[hN];kernel_rfl) ?_
 simp -dsimp -implicitDefEqProofs [-getElem?_pos,go_sem,hP]
 obtain⟨Inv,hInv⟩:∃Inv:St→Prop,Inv=fun s=>gW day=true∧¬day<fQ q∧¬ws.length=0∧¬10<ws.length∧¬200≤q.Batches.length∧s.t 1=iv day∧s.t 2= .list 1 (ws.map fun x=>[iv x])∧s.t 3= .ref 0 0 0∧s.t 6= .ref 1 0 0∧s.t 7= .ref 2 0 0∧s.t 10=iv q.Batches.length∧s.H=[some ⟨32,3,[[aC q.Waiting,.list 1 (q.Known.map fun x=>[iv x]),aX q.Batches]]⟩,some ⟨32,3,[[.nil,.nil,.nil]]⟩,some ⟨140,3,[[iv 0,iv 0,.nil]]⟩]:=⟨_,rfl⟩
 refine fI Inv (by rw[hN];kernel_rfl) ?_ ?_
 rotate_left
 ·intro s hs'
  rw[hInv]at hs'
  obtain⟨c2,c3,c4,c5,c6,t1,t2,t3,t6,t7,t10,hH⟩:=hs'
  have wl:=af ((q.Batches.length:Int)+1) (by omega)
  have f6:zK q day ws=false→cC q day ws=(dz,dy,6):=fun h=>by rw[cC,if_pos c1,if_pos c2,if_neg c3,if_neg c4,if_neg (by omega),if_neg (by simp[h])]
  refine bG (by rw[hN];kernel_rfl) ?_
  simp -dsimp -implicitDefEqProofs [-getElem?_pos,go_sem,hP,t10,t1,wl,hH]
  obtain⟨Inv1,hInv1⟩:∃Inv:St→Prop,Inv=fun s=>zK q day ws=true∧s.t 1=iv day∧s.t 2= .list 1 (ws.map fun x=>[iv x])∧s.t 3= .ref 0 0 0∧s.t 6= .ref 1 0 0∧s.t 7= .ref 2 0 0∧s.t 11= .ref 3 0 0∧s.H=[some ⟨32,3,[[aC q.Waiting,.list 1 (q.Known.map fun x=>[iv x]),aX q.Batches]]⟩,some ⟨32,3,[[.nil,.nil,.nil]]⟩,some ⟨140,3,[[iv 0,iv 0,.nil]]⟩,some ⟨140,3,[[iv ((q.Batches.length:Int)+1),iv day,.nil]]⟩]:=⟨_,rfl⟩
  refine fI Inv1 (by rw[hN];kernel_rfl) ?_ ?_
  rotate_left
  ·intro s hs'
   rw[hInv1]at hs'
   obtain⟨hdue,t1,t2,t3,t6,t7,t11,hH⟩:=hs'
   have htk:cC q day ws=(⟨q.Waiting.filter (fun p=>!bN ws p),q.Known,q.Batches++[p9 q day ws]⟩,p9 q day ws,0):=by rw[cC,if_pos c1,if_pos c2,if_neg c3,if_neg c4,if_neg (by omega),if_pos hdue]
   rw[htk,p9]
   obtain⟨W,hWt⟩:∃W,W=q.Waiting:=⟨_,rfl⟩
   obtain⟨Kn,hKn⟩:∃Kn,Kn=q.Known:=⟨_,rfl⟩
   obtain⟨bs,hbs⟩:∃bs,bs=q.Batches:=⟨_,rfl⟩
   rw[←hWt,←hKn,←hbs]at hH⊢
   rw[←hWt]at lw ip
   rw[←hbs]at lb i3 wl
   rw[←hKn]at i2
   refine bG (by rw[hN];kernel_rfl) ?_
   simp -dsimp -implicitDefEqProofs [-getElem?_pos,go_sem,hP]
   obtain⟨Inv2,hInv2⟩:∃Inv:St→Prop,Inv=fun s=>∃(id:Nat) (ys zs:List TPayment),ys=W.filter (fun p=>!bN ws p)∧zs=W.filter (bN ws)∧4≤id∧s.t 1=iv day∧s.t 3= .ref 0 0 0∧s.t 6= .ref 1 0 0∧s.t 7= .ref 2 0 0∧s.t 11= .ref 3 0 0∧s.t 17= .sref id 0 ys.length∧s.H[0]?=some (some ⟨32,3,[[aC W,.list 1 (Kn.map fun x=>[iv x]),aX bs]]⟩)∧s.H[1]?=some (some ⟨32,3,[[.nil,.nil,.nil]]⟩)∧s.H[2]?=some (some ⟨140,3,[[iv 0,iv 0,.nil]]⟩)∧s.H[3]?=some (some ⟨140,3,[[iv ((bs.length:Int)+1),iv day,aC zs]]⟩)∧s.H[id]?=some (some ⟨81,5,aj TPayment.cells ys⟩):=⟨_,rfl⟩
   refine fI Inv2 (by rw[hN];kernel_rfl) ?_ ?_
   rotate_left
   ·intro s hs'
    rw[hInv2]at hs'
    obtain⟨id,ys,zs,hys,hzs,hid,t1,t3,t6,t7,t11,t17,h0,h1,h2,h3,hi⟩:=hs'
    have lt0:=(gsI h0)
    have lt1:=(gsI h1)
    have lt2:=(gsI h2)
    have lt3:=(gsI h3)
    have lti:=(gsI hi)
    refine bU _ _ _ (by rw[hN];kernel_rfl) ?_
    simp -dsimp -implicitDefEqProofs [-getElem?_pos,go_sem,hP,t17,t3,h0,lt0]
    refine ao (fun i=>decide (i<4)) [7] hP (by kernel_rfl) (by kernel_rfl) ?_
    have D:∀i,decide (i<4)=true→i<4:=fun i hi=>by simpa using hi
    simp -dsimp -implicitDefEqProofs [-getElem?_pos,go_sem,hP,t3,t11,h3,lt3,lt0]
    refine⟨by omega,by omega,fun i hi=>?_,by omega,by omega,fun i hi=>?_,?_⟩
    ·have:=D i hi
     rw[List.getElem?_append_left (by simp;omega)]
    ·have:=D i hi
     rw[List.getElem?_append_left (by simp;omega),List.getElem?_append_left (by simp;omega)]
    have en:aj TBatch.cells bs++[[iv ((bs.length:Int)+1),iv day,aC zs]]=aj TBatch.cells (bs++[⟨bs.length+1,day,zs⟩]):=ba TBatch.cells bs ⟨bs.length+1,day,zs⟩
    rw[en]
    generalize hH9:(_++_:ac)=H9
    obtain⟨b',hb'⟩:∃b',b'=s.H.length+1:=⟨_,rfl⟩
    have y0:H9[0]?=some (some ⟨32,3,[[.sref id 0 ys.length,.list 1 (Kn.map fun x=>[iv x]),.sref b' 0 (bs.length+1)]]⟩):=by rw[←hH9,List.getElem?_append_left (by simp;omega),List.getElem?_set_self lt0,hb']
    have y1:H9[1]?=s.H[1]?:=by rw[←hH9,List.getElem?_append_left (by simp;omega),List.getElem?_set_ne (by omega)]
    have y2:H9[2]?=s.H[2]?:=by rw[←hH9,List.getElem?_append_left (by simp;omega),List.getElem?_set_ne (by omega)]
    have y3:H9[3]?=s.H[3]?:=by rw[←hH9,List.getElem?_append_left (by simp;omega),List.getElem?_set_ne (by omega)]
    have yi:H9[id]?=s.H[id]?:=by rw[←hH9,List.getElem?_append_left (by simp;omega),List.getElem?_set_ne (by omega)]
    have yb:H9[b']?=some (some ⟨140,3,aj TBatch.cells (bs++[⟨bs.length+1,day,zs⟩])⟩):=by rw[←hH9,hb',List.getElem?_append_right (by simp)];simp
    rw[h1]at y1
    rw[h2]at y2
    rw[h3]at y3
    rw[hi]at yi
    clear hH9
    have r0:=(gsI y0)
    have r1:=(gsI y1)
    have r2:=(gsI y2)
    have r3:=(gsI y3)
    refine ao (fun i=>decide (i=0)||decide (i=3)) [] hP (by kernel_rfl) (by kernel_rfl) ?_
    simp -dsimp -implicitDefEqProofs [-getElem?_pos,go_sem,hP,t3,t11,t6,t7,y0,y1,y2,y3,r0,r1,r2,r3]
    refine⟨fun i hi=>?_,fun i hi=>?_,?_⟩
    ·simp only[Bool.or_eq_true,decide_eq_true_eq]at hi
     rw[List.getElem?_set_ne (by omega)]
    ·simp only[Bool.or_eq_true,decide_eq_true_eq]at hi
     rw[List.getElem?_set_ne (by omega)]
    have iB:=Fz ⟨bs.length+1,day,zs⟩
    refine nV (cs':=(TQueue.mk ys Kn (bs++[⟨bs.length+1,day,zs⟩])).cells) (ds':=(TBatch.mk (bs.length+1) day zs).cells) ?_ (uo (az.1 iB)) (by rw[hys,hzs];rfl)
    refine da (ty:=81) (es:=aj TPayment.cells ys) ?_ (by rw[al]) (cg _) (di i2 (da (ty:=140) (es:=aj TBatch.cells (bs++[⟨bs.length+1,day,zs⟩])) ?_ (by rw[al];simp) (jc _) .nil))
    ·rw[List.getElem?_set_ne (by omega),List.getElem?_set_ne (by omega),yi]
    ·rw[List.getElem?_set_ne (by omega),List.getElem?_set_ne (by omega),yb]
   have zne:W.filter (bN ws)≠[]:=fun h=>by
    have:=yK hq.asc.nd hdue
    rw[←hWt,h]at this
    exact c4 this.symm
   simp -dsimp -implicitDefEqProofs [-getElem?_pos,go_sem,hP,t3,hH]
   refine eJ 17 81 5 (by simp -dsimp[-getElem?_pos,go_sem]) ?_
   obtain⟨I,hI⟩:∃I:Nat→St→Prop,I=fun m s=>∃(k id:Nat) (x:AV) (ys zs:List TPayment),k≤W.length∧m=W.length-k∧ys=(W.take k).filter (fun p=>!bN ws p)∧zs=(W.take k).filter (bN ws)∧ys.length≤k∧zs.length≤k∧4≤id∧s.t 1=iv day∧s.t 2= .list 1 (ws.map fun x=>[iv x])∧s.t 3= .ref 0 0 0∧s.t 6= .ref 1 0 0∧s.t 7= .ref 2 0 0∧s.t 11= .ref 3 0 0∧s.t 123=aC W∧s.t 124=iv W.length∧s.t 125=iv k∧s.t 17= .sref id 0 ys.length∧s.H[0]?=some (some ⟨32,3,[[aC W,.list 1 (Kn.map fun x=>[iv x]),aX bs]]⟩)∧s.H[1]?=some (some ⟨32,3,[[.nil,.nil,.nil]]⟩)∧s.H[2]?=some (some ⟨140,3,[[iv 0,iv 0,.nil]]⟩)∧s.H[3]?=some (some ⟨140,3,[[iv ((bs.length:Int)+1),iv day,x]]⟩)∧s.H[id]?=some (some ⟨81,5,aj TPayment.cells ys⟩)∧((x= .nil∧zs=[])∨∃jd,4≤jd∧jd≠id∧x= .sref jd 0 zs.length∧s.H[jd]?=some (some ⟨81,5,aj TPayment.cells zs⟩)):=⟨_,rfl⟩
   refine ay I (W.length) (by rw[hN];rfl) ?_ ?_
   ·rw[hI]
    exact⟨0,4,.nil,[],[],by omega,by omega,by simp,by simp,by simp,by simp,by omega,by simp -dsimp[-getElem?_pos,go_sem,t1],by simp -dsimp[-getElem?_pos,go_sem,t2],by simp -dsimp[-getElem?_pos,go_sem,t3],by simp -dsimp[-getElem?_pos,go_sem,t6],by simp -dsimp[-getElem?_pos,go_sem,t7],by simp -dsimp[-getElem?_pos,go_sem,t11],by simp -dsimp[-getElem?_pos,go_sem],by simp -dsimp[-getElem?_pos,go_sem],by simp -dsimp[-getElem?_pos,go_sem],by simp -dsimp[-getElem?_pos,go_sem,hH],by simp -dsimp[-getElem?_pos,go_sem,hH],by simp -dsimp[-getElem?_pos,go_sem,hH],by simp -dsimp[-getElem?_pos,go_sem,hH],by simp -dsimp[-getElem?_pos,go_sem,hH],by simp -dsimp[-getElem?_pos,go_sem,hH],.inl ⟨rfl,rfl⟩⟩
   clear t1 t2 t3 t6 t7 t11 hH
   intro m s hs'
   rw[hI]at hs'
   obtain⟨k,id,x,ys,zs,hk,hm,hys,hzs,hyl,hzl,hid,t1,t2,t3,t6,t7,t11,t123,t124,t125,t17,h0,h1,h2,h3,hi,hx⟩:=hs'
   have lt0:=(gsI h0)
   have lt3:=(gsI h3)
   have lti:=(gsI hi)
   simp -dsimp -implicitDefEqProofs [-getElem?_pos,go_sem,hP,t124,t125]
   refine aB (fun hh=>?_) (fun hh=>?_)
   rotate_left
   ·have hk:k=W.length:=by simp at hh;omega
    subst hk
    rw[List.take_length]at hys hzs
    rcases hx with⟨rfl,hx⟩|⟨jd,hj4,hji,rfl,hjo⟩
    ·exact absurd (hzs▸hx) zne
    have ltj:=(gsI hjo)
    simp -dsimp -implicitDefEqProofs [-getElem?_pos,go_sem,hP]
    refine⟨_,fE (o:=3) (id:=jd) (r:=0) (c:=2) (ty:=140) (k:=3) (es:=[[iv ((bs.length:Int)+1),iv day,.sref jd 0 zs.length]]) (e:=[iv ((bs.length:Int)+1),iv day,.sref jd 0 zs.length]) (ty':=81) (kk:=5) (fs:=aj TPayment.cells zs) (n:=zs.length) hW (by simp -dsimp[-getElem?_pos,go_sem,h3]) (by omega) rfl rfl (by simp -dsimp[-getElem?_pos,go_sem,hjo]) (by rw[al]) (cg _) (by omega),?_⟩
    rw[hInv2]
    refine⟨id,ys,zs,hys,hzs,hid,by simp -dsimp[-getElem?_pos,go_sem,t1],by simp -dsimp[-getElem?_pos,go_sem,t3],by simp -dsimp[-getElem?_pos,go_sem,t6],by simp -dsimp[-getElem?_pos,go_sem,t7],by simp -dsimp[-getElem?_pos,go_sem,t11],by simp -dsimp[-getElem?_pos,go_sem,t17],?_,?_,?_,?_,?_⟩
    ·dsimp only
     rw[List.getElem?_set_ne (by omega),List.getElem?_set_ne (by omega),h0]
    ·dsimp only
     rw[List.getElem?_set_ne (by omega),List.getElem?_set_ne (by omega),h1]
    ·dsimp only
     rw[List.getElem?_set_ne (by omega),List.getElem?_set_ne (by omega),h2]
    ·dsimp only
     rw[List.getElem?_set_self (by simp;omega)]
     rfl
    ·dsimp only
     rw[List.getElem?_set_ne (by omega),List.getElem?_set_ne (by omega),hi]
   have hk:k<W.length:=by simpa using hh
   obtain⟨p,hp⟩:∃p,W[k]?=some p:=⟨_,List.getElem?_eq_getElem hk⟩
   have wk:=af ((k:Int)+1) (by omega)
   have ny:(W.take (k+1)).filter (fun p=>!bN ws p)=if bN ws p then ys else ys++[p]:=by
    rw[bV hp,List.filter_append,←hys]
    cases ht:bN ws p<;>simp[ht]
   have nz:(W.take (k+1)).filter (bN ws)=if bN ws p then zs++[p]else zs:=by
    rw[bV hp,List.filter_append,←hzs]
    cases ht:bN ws p<;>simp[ht]
   simp -dsimp -implicitDefEqProofs [-getElem?_pos,go_sem,hP,t125,t123,hp,cPy,t2]
   generalize hH1:s.H++_=H1
   obtain⟨n,hn⟩:∃n,n=s.H.length:=⟨_,rfl⟩
   have kk:Kept [] s.H H1:=by rw[←hH1];exact aK _ _ _
   have ep:H1[n]?=some (some ⟨81,5,[[iv p.Warrant,iv p.Payee,iv p.Amount,iv p.Due,iv p.Sub]]⟩):=by rw[←hH1,hn];simp
   have e0:=kk _ _ (by simp) h0
   have e1:=kk _ _ (by simp) h1
   have e2:=kk _ _ (by simp) h2
   have e3:=kk _ _ (by simp) h3
   have ei:=kk _ _ (by simp) hi
   have ltp:=(gsI ep)
   have ll1:H1.length=n+1:=by rw[←hH1,hn];simp
   obtain⟨J,hJ⟩:∃I:Nat→St→Prop,I=fun m s=>∃(j:Nat),j≤ws.length∧m=ws.length-j∧s.t 20=bv (decide (p.Warrant∈ws.take j))∧s.t 1=iv day∧s.t 2= .list 1 (ws.map fun x=>[iv x])∧s.t 3= .ref 0 0 0∧s.t 6= .ref 1 0 0∧s.t 7= .ref 2 0 0∧s.t 11= .ref 3 0 0∧s.t 123=aC W∧s.t 124=iv W.length∧s.t 125=iv k∧s.t 17= .sref id 0 ys.length∧s.t 19= .ref n 0 0∧s.t 129= .list 1 (ws.map fun x=>[iv x])∧s.t 130=iv ws.length∧s.t 131=iv j∧s.H=H1:=⟨_,rfl⟩
   refine ay J (ws.length) (by rw[hN];rfl) ?_ ?_
   ·rw[hJ]
    exact⟨0,by omega,by omega,by simp -dsimp[-getElem?_pos,go_sem],by simp -dsimp[-getElem?_pos,go_sem,t1],by simp -dsimp[-getElem?_pos,go_sem,t2],by simp -dsimp[-getElem?_pos,go_sem,t3],by simp -dsimp[-getElem?_pos,go_sem,t6],by simp -dsimp[-getElem?_pos,go_sem,t7],by simp -dsimp[-getElem?_pos,go_sem,t11],by simp -dsimp[-getElem?_pos,go_sem,t123],by simp -dsimp[-getElem?_pos,go_sem,t124],by simp -dsimp[-getElem?_pos,go_sem,t125],by simp -dsimp[-getElem?_pos,go_sem,t17],by simp -dsimp[-getElem?_pos,go_sem,hn],by simp -dsimp[-getElem?_pos,go_sem],by simp -dsimp[-getElem?_pos,go_sem],by simp -dsimp[-getElem?_pos,go_sem],rfl⟩
   clear t1 t2 t3 t6 t7 t11 t123 t124 t125 t17
   intro m s hs'
   rw[hJ]at hs'
   obtain⟨j,hj,hm',t20,t1,t2,t3,t6,t7,t11,t123,t124,t125,t17,t19,t129,t130,t131,hH⟩:=hs'
   simp -dsimp -implicitDefEqProofs [-getElem?_pos,go_sem,hP,t130,t131]
   refine aB (fun hh=>?_) (fun hh=>?_)
   ·have hj:j<ws.length:=by simpa using hh
    obtain⟨w,hw'⟩:∃w,ws[j]?=some w:=⟨_,List.getElem?_eq_getElem hj⟩
    have wj:=af ((j:Int)+1) (by omega)
    have em:decide (p.Warrant∈ws.take (j+1))=(decide (p.Warrant∈ws.take j)||decide (w=p.Warrant)):=by
     rw[bV hw']
     by_cases c:p.Warrant∈ws.take j<;>simp[c,eq_comm]
    have fin:∀s':St,s'.t 20=bv (decide (p.Warrant∈ws.take (j+1)))→s'.t 1=s.t 1→s'.t 2=s.t 2→s'.t 3=s.t 3→s'.t 6=s.t 6→s'.t 7=s.t 7→s'.t 11=s.t 11→s'.t 123=s.t 123→s'.t 124=s.t 124→s'.t 125=s.t 125→s'.t 17=s.t 17→s'.t 19=s.t 19→s'.t 129=s.t 129→s'.t 130=s.t 130→s'.t 131=iv ((j:Int)+1)→s'.H=s.H→∃n',n'<m∧J n' s':=fun s' a1 a2 a3 a4 a5 a6 a7 a8 a9 a10 a11 a12 a13 a14 a15 a16=>by
     refine⟨ws.length-(j+1),by omega,?_⟩
     rw[hJ]
     exact⟨j+1,by omega,rfl,a1,by rw[a2,t1],by rw[a3,t2],by rw[a4,t3],by rw[a5,t6],by rw[a6,t7],by rw[a7,t11],by rw[a8,t123],by rw[a9,t124],by rw[a10,t125],by rw[a11,t17],by rw[a12,t19],by rw[a13,t129],by rw[a14,t130],by rw[a15];simp,by rw[a16,hH]⟩
    by_cases c9:p.Warrant∈ws.take j
    ·have d9:decide (p.Warrant∈ws.take j)=true:=decide_eq_true c9
     rw[d9]at em t20
     simp -dsimp -implicitDefEqProofs [-getElem?_pos,go_sem,hP,t131,t129,hw',t20,wj]
     exact fin _ (by rw[em];simp -dsimp -implicitDefEqProofs [-getElem?_pos,go_sem]) (by simp -dsimp[-getElem?_pos,go_sem]) (by simp -dsimp[-getElem?_pos,go_sem]) (by simp -dsimp[-getElem?_pos,go_sem]) (by simp -dsimp[-getElem?_pos,go_sem]) (by simp -dsimp[-getElem?_pos,go_sem]) (by simp -dsimp[-getElem?_pos,go_sem]) (by simp -dsimp[-getElem?_pos,go_sem]) (by simp -dsimp[-getElem?_pos,go_sem]) (by simp -dsimp[-getElem?_pos,go_sem]) (by simp -dsimp[-getElem?_pos,go_sem]) (by simp -dsimp[-getElem?_pos,go_sem]) (by simp -dsimp[-getElem?_pos,go_sem]) (by simp -dsimp[-getElem?_pos,go_sem]) (by simp -dsimp[-getElem?_pos,go_sem]) (by simp -dsimp[-getElem?_pos,go_sem])
    ·have d9:decide (p.Warrant∈ws.take j)=false:=decide_eq_false c9
     rw[d9,Bool.false_or]at em
     rw[d9]at t20
     simp -dsimp -implicitDefEqProofs [-getElem?_pos,go_sem,hP,t131,t129,hw',t20,wj,t19,hH,ep,ltp]
     exact fin _ (by rw[em];simp -dsimp -implicitDefEqProofs [-getElem?_pos,go_sem]) (by simp -dsimp[-getElem?_pos,go_sem]) (by simp -dsimp[-getElem?_pos,go_sem]) (by simp -dsimp[-getElem?_pos,go_sem]) (by simp -dsimp[-getElem?_pos,go_sem]) (by simp -dsimp[-getElem?_pos,go_sem]) (by simp -dsimp[-getElem?_pos,go_sem]) (by simp -dsimp[-getElem?_pos,go_sem]) (by simp -dsimp[-getElem?_pos,go_sem]) (by simp -dsimp[-getElem?_pos,go_sem]) (by simp -dsimp[-getElem?_pos,go_sem]) (by simp -dsimp[-getElem?_pos,go_sem]) (by simp -dsimp[-getElem?_pos,go_sem]) (by simp -dsimp[-getElem?_pos,go_sem]) (by simp -dsimp[-getElem?_pos,go_sem]) (by simp -dsimp[-getElem?_pos,go_sem,hH])
   have hj:j=ws.length:=by simp at hh;omega
   subst hj
   rw[List.take_length]at t20
   have etk:decide (p.Warrant∈ws)=bN ws p:=rfl
   rw[etk]at t20
   cases ht:bN ws p
   ·rw[ht]at ny nz t20
    have nid:¬id=n:=by omega
    simp -dsimp -implicitDefEqProofs [-getElem?_pos,go_sem,hP,t20,t17,t19,hH,ep,ltp,ei,nid,t125,wk]
    refine⟨by omega,by omega,?_⟩
    refine⟨W.length-(k+1),by omega,?_⟩
    rw[hI]
    refine⟨k+1,n+1,x,ys++[p],zs,by omega,rfl,ny.symm,nz.symm,by simp;omega,by omega,by omega,by simp -dsimp[-getElem?_pos,go_sem,t1],by simp -dsimp[-getElem?_pos,go_sem,t2],by simp -dsimp[-getElem?_pos,go_sem,t3],by simp -dsimp[-getElem?_pos,go_sem,t6],by simp -dsimp[-getElem?_pos,go_sem,t7],by simp -dsimp[-getElem?_pos,go_sem,t11],by simp -dsimp[-getElem?_pos,go_sem,t123],by simp -dsimp[-getElem?_pos,go_sem,t124],by simp -dsimp[-getElem?_pos,go_sem],by simp -dsimp[-getElem?_pos,go_sem,ll1],?_,?_,?_,?_,?_,?_⟩
    ·dsimp only
     rw[List.getElem?_append_left (by simp;omega),List.getElem?_set_ne (by omega),e0]
    ·dsimp only
     rw[List.getElem?_append_left (by simp;omega),List.getElem?_set_ne (by omega),e1]
    ·dsimp only
     rw[List.getElem?_append_left (by simp;omega),List.getElem?_set_ne (by omega),e2]
    ·dsimp only
     rw[List.getElem?_append_left (by simp;omega),List.getElem?_set_ne (by omega),e3]
    ·dsimp only
     rw[List.getElem?_append_right (by simp;omega),←ba]
     simp -dsimp -implicitDefEqProofs [-getElem?_pos,go_sem,ll1,cPy]
    ·rcases hx with hx|⟨jd,hj4,hji,rfl,hjo⟩
     ·exact .inl hx
     ·have hjo':=kk _ _ (by simp) hjo
      have ltj:=(gsI hjo)
      refine .inr ⟨jd,hj4,by omega,rfl,?_⟩
      dsimp only
      rw[List.getElem?_append_left (by simp;omega),List.getElem?_set_ne (by omega),hjo']
   ·rw[ht]at ny nz t20
    have l3:3<H1.length:=by omega
    have n3:¬n=3:=by omega
    rcases hx with⟨rfl,hx⟩|⟨jd,hj4,hji,rfl,hjo⟩
    ·rw[hx,List.nil_append]at nz
     simp -dsimp -implicitDefEqProofs [-getElem?_pos,go_sem,hP,t20,t19,t11,hH,ep,ltp,e3,t125,wk,l3]
     refine⟨W.length-(k+1),by omega,?_⟩
     rw[hI]
     refine⟨k+1,id,.sref (n+1) 0 1,ys,[p],by omega,rfl,ny.symm,nz.symm,by omega,by simp,by omega,by simp -dsimp[-getElem?_pos,go_sem,t1],by simp -dsimp[-getElem?_pos,go_sem,t2],by simp -dsimp[-getElem?_pos,go_sem,t3],by simp -dsimp[-getElem?_pos,go_sem,t6],by simp -dsimp[-getElem?_pos,go_sem,t7],by simp -dsimp[-getElem?_pos,go_sem,t11],by simp -dsimp[-getElem?_pos,go_sem,t123],by simp -dsimp[-getElem?_pos,go_sem,t124],by simp -dsimp[-getElem?_pos,go_sem],by simp -dsimp[-getElem?_pos,go_sem,t17],?_,?_,?_,?_,?_,.inr ⟨n+1,by omega,by omega,rfl,?_⟩⟩
     ·dsimp only
      rw[List.getElem?_append_left (by simp;omega)]
      repeat rw[List.getElem?_set_ne (by omega)]
      exact e0
     ·dsimp only
      rw[List.getElem?_append_left (by simp;omega)]
      repeat rw[List.getElem?_set_ne (by omega)]
      exact e1
     ·dsimp only
      rw[List.getElem?_append_left (by simp;omega)]
      repeat rw[List.getElem?_set_ne (by omega)]
      exact e2
     ·dsimp only
      rw[List.getElem?_append_left (by simp;omega),List.getElem?_set_self (by omega),ll1]
     ·dsimp only
      rw[List.getElem?_append_left (by simp;omega)]
      repeat rw[List.getElem?_set_ne (by omega)]
      exact ei
     ·dsimp only
      rw[List.getElem?_append_right (by simp;omega)]
      show _=some (some (⟨81,5,[p.cells]⟩:AObj))
      simp -dsimp -implicitDefEqProofs [-getElem?_pos,go_sem,ll1,cPy]
    ·have hjo':=kk _ _ (by simp) hjo
     have ltj:=(gsI hjo)
     have ltj1:=(List.getElem?_eq_some_iff.1 hjo').1
     have nj3:¬jd=3:=by omega
     have nj3':¬3=jd:=by omega
     simp -dsimp -implicitDefEqProofs [-getElem?_pos,go_sem,hP,t20,t19,t11,hH,ep,ltp,e3,t125,wk,hjo',ltj1,nj3,nj3',l3]
     refine⟨by omega,by omega,?_⟩
     refine⟨W.length-(k+1),by omega,?_⟩
     rw[hI]
     refine⟨k+1,id,.sref (n+1) 0 (zs.length+1),ys,(zs++[p]),by omega,rfl,ny.symm,nz.symm,by omega,by rw[List.length_append];simp;omega,by omega,by simp -dsimp[-getElem?_pos,go_sem,t1],by simp -dsimp[-getElem?_pos,go_sem,t2],by simp -dsimp[-getElem?_pos,go_sem,t3],by simp -dsimp[-getElem?_pos,go_sem,t6],by simp -dsimp[-getElem?_pos,go_sem,t7],by simp -dsimp[-getElem?_pos,go_sem,t11],by simp -dsimp[-getElem?_pos,go_sem,t123],by simp -dsimp[-getElem?_pos,go_sem,t124],by simp -dsimp[-getElem?_pos,go_sem],by simp -dsimp[-getElem?_pos,go_sem,t17],?_,?_,?_,?_,?_,.inr ⟨n+1,by omega,by omega,by rw[List.length_append];rfl,?_⟩⟩
     ·dsimp only
      rw[List.getElem?_append_left (by simp;omega)]
      repeat rw[List.getElem?_set_ne (by omega)]
      exact e0
     ·dsimp only
      rw[List.getElem?_append_left (by simp;omega)]
      repeat rw[List.getElem?_set_ne (by omega)]
      exact e1
     ·dsimp only
      rw[List.getElem?_append_left (by simp;omega)]
      repeat rw[List.getElem?_set_ne (by omega)]
      exact e2
     ·dsimp only
      rw[List.getElem?_append_left (by simp;omega),List.getElem?_set_self (by simp;omega),ll1]
     ·dsimp only
      rw[List.getElem?_append_left (by simp;omega)]
      repeat rw[List.getElem?_set_ne (by omega)]
      exact ei
     ·dsimp only
      rw[List.getElem?_append_right (by simp;omega)]
      rw[←ba]
      simp -dsimp -implicitDefEqProofs [-getElem?_pos,go_sem,ll1,cPy]
  simp -dsimp -implicitDefEqProofs [-getElem?_pos,go_sem,hP,t2]
  obtain⟨I,hI⟩:∃I:Nat→St→Prop,I=fun m s=>∃(k:Nat),k≤ws.length∧m=ws.length-k∧(ws.take k).Nodup∧(∀w,w∈ws.take k→∃p,p∈q.Waiting∧p.Warrant=w∧p.Due≤day)∧s.t 1=iv day∧s.t 2= .list 1 (ws.map fun x=>[iv x])∧s.t 3= .ref 0 0 0∧s.t 6= .ref 1 0 0∧s.t 7= .ref 2 0 0∧s.t 11= .ref 3 0 0∧s.t 83= .list 1 (ws.map fun x=>[iv x])∧s.t 84=iv ws.length∧s.t 85=iv k∧s.H=[some ⟨32,3,[[aC q.Waiting,.list 1 (q.Known.map fun x=>[iv x]),aX q.Batches]]⟩,some ⟨32,3,[[.nil,.nil,.nil]]⟩,some ⟨140,3,[[iv 0,iv 0,.nil]]⟩,some ⟨140,3,[[iv ((q.Batches.length:Int)+1),iv day,.nil]]⟩]:=⟨_,rfl⟩
  refine ay I (ws.length) (by rw[hN];rfl) ?_ ?_
  ·rw[hI]
   exact⟨0,by omega,by omega,by simp,by simp,by simp -dsimp[-getElem?_pos,go_sem,t1],by simp -dsimp[-getElem?_pos,go_sem,t2],by simp -dsimp[-getElem?_pos,go_sem,t3],by simp -dsimp[-getElem?_pos,go_sem,t6],by simp -dsimp[-getElem?_pos,go_sem,t7],by simp -dsimp[-getElem?_pos,go_sem],by simp -dsimp[-getElem?_pos,go_sem],by simp -dsimp[-getElem?_pos,go_sem],by simp -dsimp[-getElem?_pos,go_sem],by simp -dsimp[-getElem?_pos,go_sem]⟩
  clear t1 t2 t3 t6 t7 t10 hH
  intro m s hs'
  rw[hI]at hs'
  obtain⟨k,hk,hm,hnd,hall,t1,t2,t3,t6,t7,t11,t83,t84,t85,hH⟩:=hs'
  simp -dsimp -implicitDefEqProofs [-getElem?_pos,go_sem,hP,t84,t85]
  refine aB (fun hh=>?_) (fun hh=>?_)
  rotate_left
  ·have hk:k=ws.length:=by simp at hh;omega
   subst hk
   rw[List.take_length]at hnd hall
   simp -dsimp -implicitDefEqProofs [-getElem?_pos,go_sem,hP]
   refine⟨_,Weaker.refl _,?_⟩
   rw[hInv1]
   exact⟨lF.2 ⟨hnd,hall⟩,by simp -dsimp[-getElem?_pos,go_sem,t1],by simp -dsimp[-getElem?_pos,go_sem,t2],by simp -dsimp[-getElem?_pos,go_sem,t3],by simp -dsimp[-getElem?_pos,go_sem,t6],by simp -dsimp[-getElem?_pos,go_sem,t7],by simp -dsimp[-getElem?_pos,go_sem,t11],by simp -dsimp[-getElem?_pos,go_sem,hH]⟩
  have hk:k<ws.length:=by simpa using hh
  obtain⟨w,hw'⟩:∃w,ws[k]?=some w:=⟨_,List.getElem?_eq_getElem hk⟩
  have wk:=af ((k:Int)+1) (by omega)
  have wt:=xV q w (by omega)
  rw[cQu]at wt
  simp only[aF]at wt
  simp -dsimp -implicitDefEqProofs [-getElem?_pos,go_sem,hP,t85,t83,hw',t3,hH]
  refine ae (wt.lift _ _) hP JG (by simpa[ar]using iq) .sc ?_
  by_cases c7:ge q w<0
  ·have d7:decide (ge q w<0)=true:=decide_eq_true c7
   have:=f6 (Bool.eq_false_iff.2 fun h=>by
    obtain⟨p,hp,e,_⟩:=(lF.1 h).2 w (List.mem_of_getElem? hw')
    exact vj.1 c7 p hp e)
   simp -dsimp -implicitDefEqProofs [-getElem?_pos,go_sem,hP,d7,t6,t7,hH]
   refine cz ?_
   rw[this];rfl
  have d7:decide (ge q w<0)=false:=decide_eq_false c7
  obtain⟨i,p,hi,hip,hpw,hil⟩:=mm c7
  have d7':=d7
  rw[hi]at d7'
  by_cases c8:day<p.Due
  ·have d8:decide (day<p.Due)=true:=decide_eq_true c8
   have:=f6 (Bool.eq_false_iff.2 fun h=>by
    obtain⟨p',hp',e,hd⟩:=(lF.1 h).2 w (List.mem_of_getElem? hw')
    have:=wF hq.asc.nd hp' (List.mem_of_getElem? hip) (e.trans hpw.symm)
    subst this
    omega)
   simp -dsimp -implicitDefEqProofs [-getElem?_pos,go_sem,hP,hi,d7',t6,t7,hH,t3,hip,cPy,t1,d8]
   refine cz ?_
   rw[this];rfl
  have d8:decide (day<p.Due)=false:=decide_eq_false c8
  obtain⟨T,hT⟩:∃T,T=ws.take k:=⟨_,rfl⟩
  have g1:(ws.map fun x=>[iv x]).take k=T.map fun x=>[iv x]:=by rw[hT,List.map_take]
  have hk':k≤ws.length:=by omega
  have lk:T.length=k:=by rw[hT,List.length_take];omega
  simp -dsimp -implicitDefEqProofs [-getElem?_pos,go_sem,hP,hi,d7',hH,t3,hip,cPy,t1,d8,t2,bg,cK,cD,hk',g1,lk]
  obtain⟨J,hJ⟩:∃I:Nat→St→Prop,I=fun m s=>∃(j:Nat),j≤k∧m=k-j∧(∀x,x∈T.take j→x≠w)∧s.t 1=iv day∧s.t 2= .list 1 (ws.map fun x=>[iv x])∧s.t 3= .ref 0 0 0∧s.t 6= .ref 1 0 0∧s.t 7= .ref 2 0 0∧s.t 11= .ref 3 0 0∧s.t 13=iv w∧s.t 83= .list 1 (ws.map fun x=>[iv x])∧s.t 84=iv ws.length∧s.t 85=iv k∧s.t 109= .list 1 (T.map fun x=>[iv x])∧s.t 110=iv k∧s.t 111=iv j∧s.H=[some ⟨32,3,[[aC q.Waiting,.list 1 (q.Known.map fun x=>[iv x]),aX q.Batches]]⟩,some ⟨32,3,[[.nil,.nil,.nil]]⟩,some ⟨140,3,[[iv 0,iv 0,.nil]]⟩,some ⟨140,3,[[iv ((q.Batches.length:Int)+1),iv day,.nil]]⟩]:=⟨_,rfl⟩
  refine ay J (k) (by rw[hN];rfl) ?_ ?_
  ·rw[hJ]
   exact⟨0,by omega,by omega,by simp,by simp -dsimp[-getElem?_pos,go_sem,t1],by simp -dsimp[-getElem?_pos,go_sem,t2],by simp -dsimp[-getElem?_pos,go_sem,t3],by simp -dsimp[-getElem?_pos,go_sem,t6],by simp -dsimp[-getElem?_pos,go_sem,t7],by simp -dsimp[-getElem?_pos,go_sem,t11],by simp -dsimp[-getElem?_pos,go_sem],by simp -dsimp[-getElem?_pos,go_sem,t83],by simp -dsimp[-getElem?_pos,go_sem,t84],by simp -dsimp[-getElem?_pos,go_sem,t85],by simp -dsimp[-getElem?_pos,go_sem],by simp -dsimp[-getElem?_pos,go_sem,lk],by simp -dsimp[-getElem?_pos,go_sem],by simp -dsimp[-getElem?_pos,go_sem,hH]⟩
  clear t1 t2 t3 t6 t7 t11 t83 t84 t85 hH
  intro m s hs'
  rw[hJ]at hs'
  obtain⟨j,hj,hm,hne,t1,t2,t3,t6,t7,t11,t13,t83,t84,t85,t109,t110,t111,hH⟩:=hs'
  simp -dsimp -implicitDefEqProofs [-getElem?_pos,go_sem,hP,t110,t111]
  refine aB (fun hh=>?_) (fun hh=>?_)
  ·have hj:j<k:=by simpa using hh
   obtain⟨x,hx⟩:∃x,T[j]?=some x:=⟨_,List.getElem?_eq_getElem (by omega)⟩
   have wj:=af ((j:Int)+1) (by omega)
   by_cases c9:x=w
   ·have d9:decide (x=w)=true:=decide_eq_true c9
    have:=f6 (Bool.eq_false_iff.2 fun h=>by
     have hn:=(lF.1 h).1
     have e1:(ws.take (k+1)).Nodup:=hn.sublist (List.take_sublist _ _)
     rw[bV hw',←hT,List.nodup_append]at e1
     exact e1.2.2 x (List.mem_of_getElem? hx) w (by simp) c9)
    simp -dsimp -implicitDefEqProofs [-getElem?_pos,go_sem,hP,t111,t109,hx,t13,d9,c9,t6,t7,hH]
    refine cz ?_
    rw[this];rfl
   ·have d9:decide (x=w)=false:=decide_eq_false c9
    simp -dsimp -implicitDefEqProofs [-getElem?_pos,go_sem,hP,t111,t109,hx,t13,d9,c9,wj]
    refine⟨k-(j+1),by omega,?_⟩
    rw[hJ]
    refine⟨j+1,by omega,rfl,?_,by simp -dsimp[-getElem?_pos,go_sem,t1],by simp -dsimp[-getElem?_pos,go_sem,t2],by simp -dsimp[-getElem?_pos,go_sem,t3],by simp -dsimp[-getElem?_pos,go_sem,t6],by simp -dsimp[-getElem?_pos,go_sem,t7],by simp -dsimp[-getElem?_pos,go_sem,t11],by simp -dsimp[-getElem?_pos,go_sem,t13],by simp -dsimp[-getElem?_pos,go_sem,t83],by simp -dsimp[-getElem?_pos,go_sem,t84],by simp -dsimp[-getElem?_pos,go_sem,t85],by simp -dsimp[-getElem?_pos,go_sem,t109],by simp -dsimp[-getElem?_pos,go_sem,t110],by simp -dsimp[-getElem?_pos,go_sem],by simp -dsimp[-getElem?_pos,go_sem,hH]⟩
    intro y hy
    rw[bV hx]at hy
    rcases List.mem_append.1 hy with hy|hy
    ·exact hne y hy
    ·simp at hy;subst hy;exact c9
  ·have hj:j=k:=by simp at hh;omega
   subst hj
   rw[List.take_of_length_le (by omega)]at hne
   simp -dsimp -implicitDefEqProofs [-getElem?_pos,go_sem,hP,t85,wk]
   refine⟨ws.length-(j+1),by omega,?_⟩
   rw[hI]
   refine⟨j+1,by omega,rfl,?_,?_,by simp -dsimp[-getElem?_pos,go_sem,t1],by simp -dsimp[-getElem?_pos,go_sem,t2],by simp -dsimp[-getElem?_pos,go_sem,t3],by simp -dsimp[-getElem?_pos,go_sem,t6],by simp -dsimp[-getElem?_pos,go_sem,t7],by simp -dsimp[-getElem?_pos,go_sem,t11],by simp -dsimp[-getElem?_pos,go_sem,t83],by simp -dsimp[-getElem?_pos,go_sem,t84],by simp -dsimp[-getElem?_pos,go_sem],by simp -dsimp[-getElem?_pos,go_sem,hH]⟩
   ·rw[bV hw',←hT,List.nodup_append]
    refine⟨hT▸hnd,by simp,fun a ha b hb=>?_⟩
    simp at hb
    subst hb
    exact hne a ha
   ·intro y hy
    rw[bV hw']at hy
    rcases List.mem_append.1 hy with hy|hy
    ·exact hall y hy
    ·simp at hy;subst hy
     exact⟨p,List.mem_of_getElem? hip,hpw,by omega⟩
 have bad66:gW day=false→cC q day ws=(dz,dy,66):=fun c2=>by rw[cC,if_pos c1,if_neg (by simp[c2])]
 by_cases c2a:day<0
 ·have d2:decide (day<0)=true:=decide_eq_true c2a
  have:=bad66 (by rw[gW,eM (by omega)];rfl)
  simp -dsimp -implicitDefEqProofs [-getElem?_pos,go_sem,hP,d2]
  refine cz ?_
  rw[this];rfl
 have d2a:decide (day<0)=false:=decide_eq_false c2a
 by_cases c2b:36000<day
 ·have d2:decide (36000<day)=true:=decide_eq_true c2b
  have:=bad66 (by rw[gW,eM (by omega)];rfl)
  simp -dsimp -implicitDefEqProofs [-getElem?_pos,go_sem,hP,d2a,d2]
  refine cz ?_
  rw[this];rfl
 have d2b:decide (36000<day)=false:=decide_eq_false c2b
 simp -dsimp -implicitDefEqProofs [-getElem?_pos,go_sem,hP,d2a,d2b]
 refine ae ((j4 day).lift _ _) hP DP (by simp[ar]) .sc ?_
 cases c2:gW day
 ·have:=bad66 c2
  simp -dsimp -implicitDefEqProofs [-getElem?_pos,go_sem,hP,c2]
  refine cz ?_
  rw[this];rfl
 have c7:∀P:Prop,(q.Batches.length=0→day<fQ q→False):=fun _ h1 h2=>by
  have:q.Batches=[]:=List.eq_nil_of_length_eq_zero h1
  rw[fQ,this]at h2
  simp at h2
  omega
 by_cases c3:day<fQ q
 ·have:cC q day ws=(dz,dy,8):=by rw[cC,if_pos c1,if_pos c2,if_pos c3]
  have hpos:¬q.Batches.length=0:=fun h=>c7 True h c3
  obtain⟨b,hlast⟩:∃b,q.Batches.getLast?=some b:=⟨_,List.getLast?_eq_some_getLast (by intro h;simp[h]at hpos)⟩
  have l0:fQ q=b.Day:=by rw[fQ,hlast]
  have hb:q.Batches[q.Batches.length-1]?=some b:=by rw[←List.getLast?_eq_getElem?];exact hlast
  have d0:decide ((0:Int)<(q.Batches.length:Int))=true:=decide_eq_true (by omega)
  have w1:IntKind.i64.wrap ((q.Batches.length:Int)-1)=((q.Batches.length-1:Nat):Int):=by rw[af _ (by omega)];omega
  have d3:decide (day<b.Day)=true:=decide_eq_true (by omega)
  have hp0:0<q.Batches.length:=by omega
  simp -dsimp -implicitDefEqProofs [-getElem?_pos,go_sem,hP,c2,d0,w1,hb,cBt,d3,hp0]
  refine cz ?_
  rw[this];rfl
 by_cases c0:q.Batches.length=0
 ·have d0:decide ((0:Int)<(q.Batches.length:Int))=false:=decide_eq_false (by omega)
  have d0n:decide (0<q.Batches.length)=false:=decide_eq_false (by omega)
  by_cases c4:ws.length=0
  ·have d4:decide ((ws.length:Int)=0)=true:=decide_eq_true (by omega)
   have:cC q day ws=(dz,dy,10):=by rw[cC,if_pos c1,if_pos c2,if_neg c3,if_pos c4]
   simp -dsimp -implicitDefEqProofs [-getElem?_pos,go_sem,hP,c2,d0,d0n,d4,c4]
   refine cz ?_
   rw[this];rfl
  have d4:decide ((ws.length:Int)=0)=false:=decide_eq_false (by omega)
  by_cases c5:10<ws.length
  ·have d5:decide ((10:Int)<(ws.length:Int))=true:=decide_eq_true (by omega)
   have:cC q day ws=(dz,dy,3):=by rw[cC,if_pos c1,if_pos c2,if_neg c3,if_neg c4,if_pos (.inl c5)]
   simp -dsimp -implicitDefEqProofs [-getElem?_pos,go_sem,hP,c2,d0,d0n,d4,c4,d5]
   refine cz ?_
   rw[this];rfl
  have d5:decide ((10:Int)<(ws.length:Int))=false:=decide_eq_false (by omega)
  by_cases c6:200≤q.Batches.length
  ·have d6:decide ((200:Int)≤(q.Batches.length:Int))=true:=decide_eq_true (by omega)
   have:cC q day ws=(dz,dy,3):=by rw[cC,if_pos c1,if_pos c2,if_neg c3,if_neg c4,if_pos (.inr c6)]
   simp -dsimp -implicitDefEqProofs [-getElem?_pos,go_sem,hP,c2,d0,d0n,d4,c4,d5,d6]
   refine cz ?_
   rw[this];rfl
  have d6:decide ((200:Int)≤(q.Batches.length:Int))=false:=decide_eq_false (by omega)
  simp -dsimp -implicitDefEqProofs [-getElem?_pos,go_sem,hP,c2,d0,d0n,d4,c4,d5,d6]
  refine⟨_,Weaker.refl _,?_⟩
  rw[hInv]
  exact⟨c2,c3,c4,c5,c6,by simp -dsimp[-getElem?_pos,go_sem],by simp -dsimp[-getElem?_pos,go_sem],by simp -dsimp[-getElem?_pos,go_sem],by simp -dsimp[-getElem?_pos,go_sem],by simp -dsimp[-getElem?_pos,go_sem],by simp -dsimp[-getElem?_pos,go_sem],rfl⟩
 ·obtain⟨b,hlast⟩:∃b,q.Batches.getLast?=some b:=⟨_,List.getLast?_eq_some_getLast (by intro h;simp[h]at c0)⟩
  have l0:fQ q=b.Day:=by rw[fQ,hlast]
  have hb:q.Batches[q.Batches.length-1]?=some b:=by rw[←List.getLast?_eq_getElem?];exact hlast
  have d0:decide ((0:Int)<(q.Batches.length:Int))=true:=decide_eq_true (by omega)
  have w1:IntKind.i64.wrap ((q.Batches.length:Int)-1)=((q.Batches.length-1:Nat):Int):=by rw[af _ (by omega)];omega
  have d3:decide (day<b.Day)=false:=decide_eq_false (by omega)
  have hp0:0<q.Batches.length:=by omega
  by_cases c4:ws.length=0
  ·have d4:decide ((ws.length:Int)=0)=true:=decide_eq_true (by omega)
   have:cC q day ws=(dz,dy,10):=by rw[cC,if_pos c1,if_pos c2,if_neg c3,if_pos c4]
   simp -dsimp -implicitDefEqProofs [-getElem?_pos,go_sem,hP,c2,d0,w1,hb,cBt,d3,hp0,d4,c4]
   refine cz ?_
   rw[this];rfl
  have d4:decide ((ws.length:Int)=0)=false:=decide_eq_false (by omega)
  by_cases c5:10<ws.length
  ·have d5:decide ((10:Int)<(ws.length:Int))=true:=decide_eq_true (by omega)
   have:cC q day ws=(dz,dy,3):=by rw[cC,if_pos c1,if_pos c2,if_neg c3,if_neg c4,if_pos (.inl c5)]
   simp -dsimp -implicitDefEqProofs [-getElem?_pos,go_sem,hP,c2,d0,w1,hb,cBt,d3,hp0,d4,c4,d5]
   refine cz ?_
   rw[this];rfl
  have d5:decide ((10:Int)<(ws.length:Int))=false:=decide_eq_false (by omega)
  by_cases c6:200≤q.Batches.length
  ·have d6:decide ((200:Int)≤(q.Batches.length:Int))=true:=decide_eq_true (by omega)
   have:cC q day ws=(dz,dy,3):=by rw[cC,if_pos c1,if_pos c2,if_neg c3,if_neg c4,if_pos (.inr c6)]
   simp -dsimp -implicitDefEqProofs [-getElem?_pos,go_sem,hP,c2,d0,w1,hb,cBt,d3,hp0,d4,c4,d5,d6]
   refine cz ?_
   rw[this];rfl
  have d6:decide ((200:Int)≤(q.Batches.length:Int))=false:=decide_eq_false (by omega)
  simp -dsimp -implicitDefEqProofs [-getElem?_pos,go_sem,hP,c2,d0,w1,hb,cBt,d3,hp0,d4,c4,d5,d6]
  refine⟨_,Weaker.refl _,?_⟩
  rw[hInv]
  exact⟨c2,c3,c4,c5,c6,by simp -dsimp[-getElem?_pos,go_sem],by simp -dsimp[-getElem?_pos,go_sem],by simp -dsimp[-getElem?_pos,go_sem],by simp -dsimp[-getElem?_pos,go_sem],by simp -dsimp[-getElem?_pos,go_sem],by simp -dsimp[-getElem?_pos,go_sem],rfl⟩
open Go.PA
open Go.RowKit
theorem vS (l:List TEntry) (g:FuncId) (caps:List AV) (p:TEntry→Bool) (hl:l.length≤1000000) (hen:aa Tryz.prog g=true) (hcap:∀a,a∈caps→Imm a)
  (hg:∀a,a∈l→PFun Tryz.prog none none g (.agg (TEntry.cells a)::caps) (·=bv (p a))):
  PFun Tryz.prog none none 143 [.list 6 (aj TEntry.cells l),.fn g caps] (·=iv (fA p l)):=by
 refine ab Tryz.func143 rfl (by simp[Tryz.f143]) (by kernel_rfl) ?_
 intro E hP hr hs hW hN
 simp -dsimp -implicitDefEqProofs [-getElem?_pos,go_sem,hP]
 obtain⟨I,hI⟩:∃I:Nat→St→Prop,I=fun m s=>∃k:Nat,k≤l.length∧m=l.length-k∧fA p l=bE p k (l.drop k)∧s.t 0= .list 6 (aj TEntry.cells l)∧s.t 1= .fn g caps∧s.t 7=iv l.length∧s.t 8=iv k:=⟨_,rfl⟩
 refine ay I (l.length) (by rw[hN];rfl) ?_ ?_
 ·rw[hI]
  exact⟨0,by omega,by omega,by simp[fA],by simp -dsimp[-getElem?_pos,go_sem],by simp -dsimp[-getElem?_pos,go_sem],by simp -dsimp[-getElem?_pos,go_sem],by simp -dsimp[-getElem?_pos,go_sem]⟩
 intro m s hs'
 rw[hI]at hs'
 obtain⟨k,hk,hm,hi,t0,t1,t7,t8⟩:=hs'
 simp -dsimp -implicitDefEqProofs [-getElem?_pos,go_sem,hP,t7,t8]
 refine aB (fun h=>?_) (fun h=>?_)
 ·have hk:k<l.length:=by simpa using h
  obtain⟨a,ha⟩:∃a,l[k]?=some a:=⟨_,List.getElem?_eq_getElem hk⟩
  have wk:=af ((k:Int)+1) (by omega)
  have hz:(TEntry.cells a).take 6=TEntry.cells a:=List.take_of_length_le (by rw[TEntry.len];omega)
  have hd:l.drop k=a::l.drop (k+1):=by
   rw[List.getElem?_eq_getElem hk]at ha
   rw[List.drop_eq_getElem_cons hk,Option.some.inj ha]
  simp -dsimp -implicitDefEqProofs [-getElem?_pos,go_sem,hP,t8,t1,t0,ha,TEntry.len,hz]
  refine ae ((hg a (List.mem_of_getElem? ha)).lift _ _) hP hen (fun x hx=>?_) .sc ?_
  ·rcases List.mem_cons.1 hx with rfl|hx
   ·exact az.2 (TEntry.imm a)
   ·exact hcap x hx
  rw[hd]at hi
  simp only[bE]at hi
  simp -dsimp -implicitDefEqProofs [-getElem?_pos,go_sem,hP]
  refine aB (fun hp=>?_) (fun hp=>?_)
  ·rw[if_pos hp]at hi
   simp -dsimp -implicitDefEqProofs [-getElem?_pos,go_sem,hP]
   exact hi.symm
  ·rw[hp,if_neg (by simp)]at hi
   simp -dsimp -implicitDefEqProofs [-getElem?_pos,go_sem,hP,t8,wk]
   refine⟨l.length-(k+1),by omega,?_⟩
   rw[hI]
   exact⟨k+1,by omega,rfl,hi,by simp -dsimp[-getElem?_pos,go_sem,t0],by simp -dsimp[-getElem?_pos,go_sem,t1],by simp -dsimp[-getElem?_pos,go_sem,t7],by simp -dsimp[-getElem?_pos,go_sem]⟩
 ·have hk:k=l.length:=by simp at h;omega
  subst hk
  rw[List.drop_length]at hi
  simp -dsimp -implicitDefEqProofs [-getElem?_pos,go_sem,hP]
  exact hi.symm
theorem cQn (q:TQueue):q.cells=[aC q.Waiting,eU q.Known,aX q.Batches]:=rfl
theorem cDn (d:TDesk):d.cells=[iv d.Account.Credit,aL d.Account.Subs,bu d.Account.Entries,aC d.Queue.Waiting,eU d.Queue.Known,aX d.Queue.Batches,bI d.Items]:=rfl
theorem zP (a b:List Int) (ha:a.length≤100000) (hb:b.length≤100000):
  PFun Tryz.prog none none 137 [.list 1 (aj aS a),.list 1 (aj aS b)] (·=bv (decide (a=b))):=by
 refine ab Tryz.func137 rfl (by simp[Tryz.f137]) (by kernel_rfl) ?_
 intro E hP hr hs hW hN
 by_cases hlen:a.length=b.length
 rotate_left
 ·have hne:¬a=b:=fun h=>hlen (by rw[h])
  have hl:decide ((a.length:Int)=(b.length:Int))=false:=by simp;omega
  simp -dsimp -implicitDefEqProofs [-getElem?_pos,go_sem,hP,hl,hne]
 have hl:decide ((a.length:Int)=(b.length:Int))=true:=by simp;omega
 simp -dsimp -implicitDefEqProofs [-getElem?_pos,go_sem,hP,hl]
 obtain⟨I,hI⟩:∃I:Nat→St→Prop,I=fun m s=>∃k:Nat,k≤a.length∧m=a.length-k∧s.t 0= .list 1 (aj aS a)∧s.t 1= .list 1 (aj aS b)∧s.t 12=iv a.length∧s.t 13=iv k∧a.take k=b.take k:=⟨_,rfl⟩
 refine ay I (a.length) (by rw[hN];rfl) ?_ ?_
 ·rw[hI]
  exact⟨0,by omega,by omega,by simp -dsimp[-getElem?_pos,go_sem],by simp -dsimp[-getElem?_pos,go_sem],by simp -dsimp[-getElem?_pos,go_sem],by simp -dsimp[-getElem?_pos,go_sem],by simp⟩
 intro m s hs'
 rw[hI]at hs'
 obtain⟨k,hk,hm,t0,t1,t12,t13,heq⟩:=hs'
 simp -dsimp -implicitDefEqProofs [-getElem?_pos,go_sem,hP,t12,t13]
 refine aB (fun h=>?_) (fun h=>?_)
 ·have hk:k<a.length:=by simpa using h
  obtain⟨x,hx⟩:∃x,a[k]?=some x:=⟨_,List.getElem?_eq_getElem hk⟩
  obtain⟨y,hy⟩:∃y,b[k]?=some y:=⟨_,List.getElem?_eq_getElem (by omega)⟩
  have wk:=af ((k:Int)+1) (by omega)
  have tx:a.take (k+1)=a.take k++[x]:=by rw[List.take_add_one,hx];rfl
  have ty:b.take (k+1)=b.take k++[y]:=by rw[List.take_add_one,hy];rfl
  simp -dsimp -implicitDefEqProofs [-getElem?_pos,go_sem,hP,t13]
  refine ao (fun _=>true) [] hP (by kernel_rfl) (by kernel_rfl) ?_
  by_cases hxy:x=y
  ·subst hxy
   simp -dsimp -implicitDefEqProofs [-getElem?_pos,go_sem,hP,t0,t1,hx,hy,aS,t13,wk]
   refine⟨a.length-(k+1),by omega,?_⟩
   rw[hI]
   exact⟨k+1,by omega,rfl,by simp -dsimp[-getElem?_pos,go_sem,t0],by simp -dsimp[-getElem?_pos,go_sem,t1],by simp -dsimp[-getElem?_pos,go_sem,t12],by simp -dsimp[-getElem?_pos,go_sem],by rw[tx,ty,heq]⟩
  ·have hne:¬a=b:=fun h=>by
    subst h
    rw[hx]at hy
    exact hxy (Option.some.inj hy)
   have dxy:decide (x=y)=false:=decide_eq_false hxy
   simp -dsimp -implicitDefEqProofs [-getElem?_pos,go_sem,hP,t0,t1,hx,hy,aS,t13,wk,dxy,hne]
 ·have hk:k=a.length:=by simp at h;omega
  subst hk
  rw[List.take_length]at heq
  rw[hlen,List.take_length]at heq
  simp -dsimp -implicitDefEqProofs [-getElem?_pos,go_sem,hP,heq]
theorem AG (l:List TPayment) (v:TPayment) (hl:l.length≤1000000):PFun Tryz.prog none none 260 [aC l,.agg v.cells] (·=iv (fA (fun x=>decide (v=x)) l)):=by
 refine ab Tryz.func260 rfl (by simp[Tryz.f260]) (by kernel_rfl) ?_
 intro E hP hr hs hW hN
 simp -dsimp -implicitDefEqProofs [-getElem?_pos,go_sem,hP,cPy]
 obtain⟨I,hI⟩:∃I:Nat→St→Prop,I=fun m s=>∃k:Nat,k≤l.length∧m=l.length-k∧fA (fun x=>decide (v=x)) l=bE (fun x=>decide (v=x)) k (l.drop k)∧s.t 0=aC l∧s.t 3= .ref 0 0 0∧s.t 7=iv l.length∧s.t 8=iv k∧s.H[0]?=some (some ⟨81,5,[[iv v.Warrant,iv v.Payee,iv v.Amount,iv v.Due,iv v.Sub]]⟩):=⟨_,rfl⟩
 refine ay I (l.length) (by rw[hN];rfl) ?_ ?_
 ·rw[hI]
  exact⟨0,by omega,by omega,by simp[fA],by simp -dsimp[-getElem?_pos,go_sem],by simp -dsimp[-getElem?_pos,go_sem],by simp -dsimp[-getElem?_pos,go_sem],by simp -dsimp[-getElem?_pos,go_sem],by simp -dsimp[-getElem?_pos,go_sem]⟩
 intro m s hs'
 rw[hI]at hs'
 obtain⟨k,hk,hm,hi,t0,t3,t7,t8,h0⟩:=hs'
 have lt0:=(gsI h0)
 simp -dsimp -implicitDefEqProofs [-getElem?_pos,go_sem,hP,t7,t8]
 refine aB (fun h=>?_) (fun h=>?_)
 ·have hk:k<l.length:=by simpa using h
  obtain⟨a,ha⟩:∃a,l[k]?=some a:=⟨_,List.getElem?_eq_getElem hk⟩
  have wk:=af ((k:Int)+1) (by omega)
  rw[cU ha]at hi
  simp only[bE]at hi
  simp -dsimp -implicitDefEqProofs [-getElem?_pos,go_sem,hP,t8]
  refine ao (fun _=>true) [] hP (by kernel_rfl) (by kernel_rfl) ?_
  by_cases hp:v=a
  ·subst hp
   rw[if_pos (by simp)]at hi
   simp -dsimp -implicitDefEqProofs [-getElem?_pos,go_sem,hP,t8,t3,t0,ha,h0,lt0,cPy]
   exact hi.symm
  ·rw[if_neg (by simpa using hp)]at hi
   simp -dsimp -implicitDefEqProofs [-getElem?_pos,go_sem,hP,t8,t3,t0,ha,h0,lt0,cPy,wk]
   refine aB (fun h=>?_) (fun h=>?_)
   ·exact absurd (by cases v;cases a;simp at h;simp[h]) hp
   ·simp -dsimp -implicitDefEqProofs [-getElem?_pos,go_sem,hP,t8,wk]
    refine⟨l.length-(k+1),by omega,?_⟩
    rw[hI]
    exact⟨k+1,by omega,rfl,hi,by simp -dsimp[-getElem?_pos,go_sem,t0],by simp -dsimp[-getElem?_pos,go_sem,t3],by simp -dsimp[-getElem?_pos,go_sem,t7],by simp -dsimp[-getElem?_pos,go_sem],by simp -dsimp[-getElem?_pos,go_sem,h0]⟩
 ·have hk:k=l.length:=by simp at h;omega
  subst hk
  rw[List.drop_length]at hi
  simp -dsimp -implicitDefEqProofs [-getElem?_pos,go_sem,hP]
  exact hi.symm
theorem uY (l:List TPayment) (v:TPayment) (hl:l.length≤1000000):PFun Tryz.prog none none 200 [aC l,.agg v.cells] (·=bv (decide (v∈l))):=by
 refine ab Tryz.func200 rfl (by simp[Tryz.f200]) (by kernel_rfl) ?_
 intro E hP hr hs hW hN
 have ix:=AG l v hl
 have iv':=fq v
 have il:=cg l
 rw[cPy]at ix iv'
 simp -dsimp -implicitDefEqProofs [-getElem?_pos,go_sem,hP,cPy]
 refine ae (ix.lift _ _) hP Oz (by simpa using⟨il,iv'⟩) .sc ?_
 rcases dY (fun x=>decide (v=x)) l with⟨h1,h2⟩|⟨i,a,h1,h2,h3,_⟩
 ·have:decide (v∈l)=false:=decide_eq_false fun hv=>by simpa using h2 v hv
  simp -dsimp -implicitDefEqProofs [-getElem?_pos,go_sem,hP,h1,this]
 ·have d:decide ((0:Int)≤(i:Int))=true:=decide_eq_true (by omega)
  have hva:v=a:=by simpa using h2
  have:decide (v∈l)=true:=decide_eq_true (hva▸List.mem_of_getElem? h1)
  simp -dsimp -implicitDefEqProofs [-getElem?_pos,go_sem,hP,h3,d,this]
open Go.PA
open Go.RowKit
theorem Ol (x:TItem):PFun Tryz.prog none none 262 [.agg x.cells] (·=bv (gO x)):=by
 refine ab Tryz.func262 rfl (by simp[Tryz.f262]) (by kernel_rfl) ?_
 intro E hP hr hs hW hN
 by_cases h1:x.State=2
 ·simp -dsimp -implicitDefEqProofs [-getElem?_pos,go_sem,hP,cIt,h1,gO]
 ·have d1:=decide_eq_false h1
  simp -dsimp -implicitDefEqProofs [-getElem?_pos,go_sem,hP,cIt,h1,d1,gO]
theorem KR (p:TPayment) (w:Int):PFun Tryz.prog none none 261 [.agg p.cells,.iref [iv w]] (·=bv (df w p)):=by
 refine ab Tryz.func261 rfl (by simp[Tryz.f261]) (by kernel_rfl) ?_
 intro E hP hr hs hW hN
 simp -dsimp -implicitDefEqProofs [-getElem?_pos,go_sem,hP,cPy,df]
theorem MY (q:TQueue) (w:Int) (hf:FitQ q):PFun Tryz.prog none none 201 [.agg q.cells,iv w] (·=iv (wB q w)):=by
 refine ab Tryz.func201 rfl (by simp[Tryz.f201]) (by kernel_rfl) ?_
 intro E hP hr hs hW hN
 obtain⟨R,hR⟩:∃R,R=wB q w:=⟨_,rfl⟩
 rw[←hR]
 rw[wB]at hR
 have lb:=hf.b
 have each:=hf.each
 obtain⟨l,hl⟩:∃l,l=q.Batches:=⟨_,rfl⟩
 rw[←hl]at hR lb each
 simp -dsimp -implicitDefEqProofs [-getElem?_pos,go_sem,hP,cQn,←hl]
 obtain⟨I,hI⟩:∃I:Nat→St→Prop,I=fun m s=>∃k:Nat,k≤l.length∧m=l.length-k∧s.t 3= .ref 1 0 0∧s.t 5=iv ((l.take k).countP fun b=>b.Payments.any (df w))∧s.t 9=aX l∧s.t 10=iv l.length∧s.t 11=iv k∧s.H[1]?=some (some ⟨3,1,[[iv w]]⟩):=⟨_,rfl⟩
 refine ay I (l.length) (by rw[hN];rfl) ?_ ?_
 ·rw[hI]
  exact⟨0,by omega,by omega,by simp -dsimp[-getElem?_pos,go_sem],by simp -dsimp[-getElem?_pos,go_sem],by simp -dsimp[-getElem?_pos,go_sem],by simp -dsimp[-getElem?_pos,go_sem],by simp -dsimp[-getElem?_pos,go_sem],by simp -dsimp[-getElem?_pos,go_sem]⟩
 intro m s hs'
 rw[hI]at hs'
 obtain⟨k,hk,hm,t3,t5,t9,t10,t11,h1⟩:=hs'
 have lt1:=(gsI h1)
 simp -dsimp -implicitDefEqProofs [-getElem?_pos,go_sem,hP,t10,t11]
 refine aB (fun h=>?_) (fun h=>?_)
 ·have hk:k<l.length:=by simpa using h
  obtain⟨b,hb⟩:∃b,l[k]?=some b:=⟨_,List.getElem?_eq_getElem hk⟩
  have wk:=af ((k:Int)+1) (by omega)
  have hbl:=each b (List.mem_of_getElem? hb)
  have ip:=cg b.Payments
  have g1:∀x:Option AObj,(s.H++[x])[1]?=some (some ⟨3,1,[[iv w]]⟩):=fun x=>by rw[List.getElem?_append_left lt1];exact h1
  have es:(l.take (k+1)).countP (fun b=>b.Payments.any (df w))=(l.take k).countP (fun b=>b.Payments.any (df w))+if b.Payments.any (df w)=true then 1 else 0:=by rw[bV hb,List.countP_append,List.countP_cons,List.countP_nil,Nat.zero_add]
  have lc:=List.countP_le_length (p:=fun b:TBatch=>b.Payments.any (df w)) (l:=l.take k)
  rw[List.length_take]at lc
  generalize (l.take k).countP (fun b=>b.Payments.any (df w))=c at es t5 lc
  have wc:=af ((c:Int)+1) (by omega)
  simp -dsimp -implicitDefEqProofs [-getElem?_pos,go_sem,hP,t9,t11,hb,cBt,t3]
  refine ah (mD b.Payments 261 [.iref [iv w]] (df w) (by omega) Po (by simp[fN,ar]) fun p _=>KR p w) hP I2 (aH ip (nM (cs:=[.ref 1 0 0]) (by simp -dsimp[-getElem?_pos,go_sem,nX,g1,lt1,h1]) (by simp[fN,ar]) (be.2 trivial))) .sc ?_
  cases hc:b.Payments.any (df w)
  ·rw[hc]at es
   simp -dsimp -implicitDefEqProofs [-getElem?_pos,go_sem,hP,t5,t11,wk]
   refine⟨l.length-(k+1),by omega,?_⟩
   rw[hI]
   exact⟨k+1,by omega,rfl,by simp -dsimp[-getElem?_pos,go_sem,t3],by simp -dsimp[-getElem?_pos,go_sem,t5,es],by simp -dsimp[-getElem?_pos,go_sem,t9],by simp -dsimp[-getElem?_pos,go_sem,t10],by simp -dsimp[-getElem?_pos,go_sem],by simp -dsimp[-getElem?_pos,go_sem,lt1,h1]⟩
  ·rw[hc]at es
   simp -dsimp -implicitDefEqProofs [-getElem?_pos,go_sem,hP,t5,t11,wk,wc]
   refine⟨l.length-(k+1),by omega,?_⟩
   rw[hI]
   exact⟨k+1,by omega,rfl,by simp -dsimp[-getElem?_pos,go_sem,t3],by simp -dsimp[-getElem?_pos,go_sem,es],by simp -dsimp[-getElem?_pos,go_sem,t9],by simp -dsimp[-getElem?_pos,go_sem,t10],by simp -dsimp[-getElem?_pos,go_sem],by simp -dsimp[-getElem?_pos,go_sem,lt1,h1]⟩
 ·have hk:k=l.length:=by simp at h;omega
  subst hk
  rw[List.take_length]at t5
  simp -dsimp -implicitDefEqProofs [-getElem?_pos,go_sem,hP,t5,hR]
theorem Ip (a:TAccount) (x:TItem) (he:a.Entries.length≤100000) (hs1:1≤x.Payment.Sub):PFun Tryz.prog none none 202 [.agg a.cells,.agg x.cells] (·=bv (kO a x)):=by
 refine ab Tryz.func202 rfl (by simp[Tryz.f202]) (by kernel_rfl) ?_
 intro E hP hr hs hW hN
 have ix:=eS x
 have ot:=Ol x
 rw[cIt]at ix ot
 obtain⟨R,hR⟩:∃R,R=kO a x:=⟨_,rfl⟩
 rw[←hR]
 rw[kO]at hR
 obtain⟨l,hl⟩:∃l,l=a.Entries:=⟨_,rfl⟩
 rw[←hl]at hR he
 simp -dsimp -implicitDefEqProofs [-getElem?_pos,go_sem,hP,cA,cIt,←hl]
 obtain⟨I,hI⟩:∃I:Nat→St→Prop,I=fun m s=>∃k:Nat,k≤l.length∧m=l.length-k∧(l.take k).all (okE x.Payment)=true∧s.t 3= .ref 1 0 0∧s.t 5=iv ((l.take k).countP (eT x.Payment))∧s.t 6=iv ((l.take k).countP (inE x.Payment))∧s.t 10=bu l∧s.t 11=iv l.length∧s.t 12=iv k∧s.H[1]?=some (some ⟨83,7,[[iv x.Payment.Warrant,iv x.Payment.Payee,iv x.Payment.Amount,iv x.Payment.Due,iv x.Payment.Sub,iv x.State,iv x.Attempts]]⟩):=⟨_,rfl⟩
 refine ay I (l.length) (by rw[hN];rfl) ?_ ?_
 ·rw[hI]
  exact⟨0,by omega,by omega,by simp,by simp -dsimp[-getElem?_pos,go_sem],by simp -dsimp[-getElem?_pos,go_sem],by simp -dsimp[-getElem?_pos,go_sem],by simp -dsimp[-getElem?_pos,go_sem],by simp -dsimp[-getElem?_pos,go_sem],by simp -dsimp[-getElem?_pos,go_sem],by simp -dsimp[-getElem?_pos,go_sem]⟩
 intro m s hs'
 rw[hI]at hs'
 obtain⟨k,hk,hm,hall,t3,t5,t6,t10,t11,t12,h1⟩:=hs'
 have lt1:=(gsI h1)
 have lo:=List.countP_le_length (p:=eT x.Payment) (l:=l.take k)
 have li:=List.countP_le_length (p:=inE x.Payment) (l:=l.take k)
 rw[List.length_take]at lo li
 simp -dsimp -implicitDefEqProofs [-getElem?_pos,go_sem,hP,t11,t12]
 refine aB (fun h=>?_) (fun h=>?_)
 ·have hk:k<l.length:=by simpa using h
  obtain⟨e,hee⟩:∃e,l[k]?=some e:=⟨_,List.getElem?_eq_getElem hk⟩
  have wk:=af ((k:Int)+1) (by omega)
  have g1:∀y:Option AObj,(s.H++[y])[1]?=some (some ⟨83,7,[[iv x.Payment.Warrant,iv x.Payment.Payee,iv x.Payment.Amount,iv x.Payment.Due,iv x.Payment.Sub,iv x.State,iv x.Attempts]]⟩):=fun y=>by rw[List.getElem?_append_left lt1];exact h1
  have eo:(l.take (k+1)).countP (eT x.Payment)=(l.take k).countP (eT x.Payment)+if eT x.Payment e=true then 1 else 0:=by rw[bV hee,List.countP_append,List.countP_cons,List.countP_nil,Nat.zero_add]
  have ei:(l.take (k+1)).countP (inE x.Payment)=(l.take k).countP (inE x.Payment)+if inE x.Payment e=true then 1 else 0:=by rw[bV hee,List.countP_append,List.countP_cons,List.countP_nil,Nat.zero_add]
  have ea:(l.take (k+1)).all (okE x.Payment)=okE x.Payment e:=by rw[bV hee,List.all_append,hall];simp
  generalize (l.take k).countP (eT x.Payment)=co at eo t5 lo
  generalize (l.take k).countP (inE x.Payment)=ci at ei t6 li
  have wo:=af ((co:Int)+1) (by omega)
  have wi:=af ((ci:Int)+1) (by omega)
  have fin:∀s':St,okE x.Payment e=true→s'.t 3= .ref 1 0 0→s'.t 5=iv ((l.take (k+1)).countP (eT x.Payment))→s'.t 6=iv ((l.take (k+1)).countP (inE x.Payment))→s'.t 10=bu l→s'.t 11=iv l.length→s'.t 12=iv (k+1)→s'.H[1]?=some (some ⟨83,7,[[iv x.Payment.Warrant,iv x.Payment.Payee,iv x.Payment.Amount,iv x.Payment.Due,iv x.Payment.Sub,iv x.State,iv x.Attempts]]⟩)→∃m',m'<m∧I m' s':=fun s' a1 a2 a3 a4 a5 a6 a7 a8=>by
   refine⟨l.length-(k+1),by omega,?_⟩
   rw[hI]
   exact⟨k+1,by omega,rfl,by rw[ea];exact a1,a2,a3,a4,a5,a6,a7,a8⟩
  have bad:okE x.Payment e=false→R=false:=fun h=>by
   rw[hR,Bool.and_eq_false_iff]
   refine .inl (List.all_eq_false.2 ⟨e,List.mem_of_getElem? hee,by simp[h]⟩)
  by_cases c1:e.Ref=x.Payment.Warrant
  rotate_left
  ·have d1:=decide_eq_false c1
   rw[show eT x.Payment e=false by simp[eT,d1],if_neg (by simp)]at eo
   rw[show inE x.Payment e=false by simp[inE,d1],if_neg (by simp)]at ei
   simp -dsimp -implicitDefEqProofs [-getElem?_pos,go_sem,hP,t10,t12,hee,cE,t3,g1,lt1,h1,c1,d1,wk]
   exact fin _ (by simp[okE,d1]) (by simp -dsimp[-getElem?_pos,go_sem,t3]) (by simp -dsimp[-getElem?_pos,go_sem,t5,eo]) (by simp -dsimp[-getElem?_pos,go_sem,t6,ei]) (by simp -dsimp[-getElem?_pos,go_sem,t10]) (by simp -dsimp[-getElem?_pos,go_sem,t11]) (by simp -dsimp[-getElem?_pos,go_sem]) (by simp -dsimp[-getElem?_pos,go_sem,lt1,h1])
  have d1:decide (e.Ref=x.Payment.Warrant)=true:=decide_eq_true c1
  have bool1:∀a b c d f:Bool,(a&&(b&&c))=false→(d&&(f&&c))=false→(!true||(c&&(a&&b||d&&f)))=false:=by decide
  simp -dsimp -implicitDefEqProofs [-getElem?_pos,go_sem,hP,t10,t12,hee,cE,t3,g1,lt1,h1,c1]
  refine aB (fun q1=>?_) (fun q1=>?_)
  ·simp only[Bool.and_eq_true,decide_eq_true_eq]at q1
   obtain⟨q1,q2,q3⟩:=q1
   rw[show eT x.Payment e=true by simp[eT,c1,q1,q2],if_pos rfl]at eo
   rw[show inE x.Payment e=false by simp[inE,c1,q1];omega,if_neg (by simp)]at ei
   simp -dsimp -implicitDefEqProofs [-getElem?_pos,go_sem,hP,t5,t12,wo,wk]
   exact fin _ (by simp[okE,d1,q1,q2,q3]) (by simp -dsimp[-getElem?_pos,go_sem,t3]) (by simp -dsimp[-getElem?_pos,go_sem,eo]) (by simp -dsimp[-getElem?_pos,go_sem,t6,ei]) (by simp -dsimp[-getElem?_pos,go_sem,t10]) (by simp -dsimp[-getElem?_pos,go_sem,t11]) (by simp -dsimp[-getElem?_pos,go_sem]) (by simp -dsimp[-getElem?_pos,go_sem,lt1,h1])
  simp -dsimp -implicitDefEqProofs [-getElem?_pos,go_sem,hP,t3,g1,lt1,h1]
  refine aB (fun q5=>?_) (fun q5=>?_)
  ·simp only[Bool.and_eq_true,decide_eq_true_eq]at q5
   obtain⟨q5,q6,q7⟩:=q5
   rw[show eT x.Payment e=false by simp[eT,c1,q5];omega,if_neg (by simp)]at eo
   rw[show inE x.Payment e=true by simp[inE,c1,q5,q6],if_pos rfl]at ei
   simp -dsimp -implicitDefEqProofs [-getElem?_pos,go_sem,hP,t6,t12,wi,wk]
   exact fin _ (by simp[okE,d1,q5,q6,q7]) (by simp -dsimp[-getElem?_pos,go_sem,t3]) (by simp -dsimp[-getElem?_pos,go_sem,t5,eo]) (by simp -dsimp[-getElem?_pos,go_sem,ei]) (by simp -dsimp[-getElem?_pos,go_sem,t10]) (by simp -dsimp[-getElem?_pos,go_sem,t11]) (by simp -dsimp[-getElem?_pos,go_sem]) (by simp -dsimp[-getElem?_pos,go_sem,lt1,h1])
  have:=bad (by rw[okE,d1];exact bool1 _ _ _ _ _ q1 q5)
  simp -dsimp -implicitDefEqProofs [-getElem?_pos,go_sem,hP,this]
 ·have hk:k=l.length:=by simp at h;omega
  subst hk
  rw[List.take_length]at t5 t6 hall lo li
  rw[hall,Bool.true_and]at hR
  generalize l.countP (eT x.Payment)=co at hR t5 lo
  generalize l.countP (inE x.Payment)=ci at hR t6 li
  have wi:=af ((ci:Int)+1) (by omega)
  simp -dsimp -implicitDefEqProofs [-getElem?_pos,go_sem,hP,t3,h1,lt1]
  refine ae (ot.lift _ _) hP NO (by simpa using ix) .sc ?_
  cases hg:gO x
  ·rw[show dW x=0 by simp[dW,hg]]at hR
   by_cases c2:(co:Int)=x.Attempts
   ·have d2:=decide_eq_true c2
    rw[d2,Bool.true_and]at hR
    simp -dsimp -implicitDefEqProofs [-getElem?_pos,go_sem,hP,hg,t5,t6,t3,h1,lt1,d2,hR,c2]
   ·have d2:=decide_eq_false c2
    rw[d2,Bool.false_and]at hR
    simp -dsimp -implicitDefEqProofs [-getElem?_pos,go_sem,hP,hg,t5,t6,t3,h1,lt1,d2,hR,c2]
  ·rw[show dW x=1 by simp[dW,hg]]at hR
   by_cases c2:(co:Int)=x.Attempts
   ·have d2:=decide_eq_true c2
    rw[d2,Bool.true_and]at hR
    simp -dsimp -implicitDefEqProofs [-getElem?_pos,go_sem,hP,hg,t5,t6,t3,h1,lt1,d2,hR,c2,wi]
   ·have d2:=decide_eq_false c2
    rw[d2,Bool.false_and]at hR
    simp -dsimp -implicitDefEqProofs [-getElem?_pos,go_sem,hP,hg,t5,t6,t3,h1,lt1,d2,hR,c2,wi]
open Go.PA
open Go.RowKit
abbrev lN (d:TDesk):AObj:=⟨35,7,[[iv d.Account.Credit,aL d.Account.Subs,bu d.Account.Entries,aC d.Queue.Waiting,eU d.Queue.Known,aX d.Queue.Batches,bI d.Items]]⟩
abbrev Kz (x:TItem):AObj:=⟨83,7,[[iv x.Payment.Warrant,iv x.Payment.Payee,iv x.Payment.Amount,iv x.Payment.Due,iv x.Payment.Sub,iv x.State,iv x.Attempts]]⟩
set_option maxHeartbeats 2000000 in
theorem JP (d:TDesk) (x:TItem) (hf:FitD d):PFun Tryz.prog none none 136 [.agg d.cells,.agg x.cells] (·=bv (kR d x)):=by
 refine eV Tryz.func136 rfl (by simp[Tryz.f136]) ?_
 intro E hP hr hs hW hN
 have ix:=eS x
 have ia:=cV d.Account
 have iq:=dr d.Queue
 have ip:=fq x.Payment
 have i1:=cg d.Queue.Waiting
 have bl:=C8 d.Account x.Payment.Sub hf.s hf.e
 have py:=Fq x.Payment
 have cp:=uY d.Queue.Waiting x.Payment (by have:=hf.q.w;omega)
 have sn:=MY d.Queue x.Payment.Warrant hf.q
 have mv:=fun h=>Ip d.Account x hf.e h
 rw[cIt]at ix
 rw[cA]at ia bl
 rw[cPy]at ip py cp
 rw[cQn]at iq sn
 rw[cA,cIt]at mv
 obtain⟨R,hR⟩:∃R,R=kR d x:=⟨_,rfl⟩
 rw[←hR]
 rw[kR]at hR
 refine bG (by rw[hN];kernel_rfl) ?_
 simp -dsimp -implicitDefEqProofs [-getElem?_pos,go_sem,hP,cDn,cIt]
 refine bG (by rw[hN];kernel_rfl) ?_
 simp -dsimp -implicitDefEqProofs [-getElem?_pos,go_sem,hP]
 obtain⟨Inv,hInv⟩:∃Inv:St→Prop,Inv=fun s=>s.t 2= .ref 0 0 0∧s.t 3= .ref 1 0 0∧s.t 5=iv (qh x)∧s.t 6=iv (jT x)∧s.H=[some (lN d),some (Kz x)]:=⟨_,rfl⟩
 refine fI Inv (by rw[hN];kernel_rfl) ?_ ?_
 ·by_cases s1:x.State=1
  ·have e1:qh x=4:=by rw[qh,if_pos s1]
   have e2:jT x=0:=by rw[jT,if_pos s1]
   simp -dsimp -implicitDefEqProofs [-getElem?_pos,go_sem,hP,s1]
   refine⟨_,Weaker.refl _,?_⟩
   rw[hInv]
   exact⟨by simp -dsimp[-getElem?_pos,go_sem],by simp -dsimp[-getElem?_pos,go_sem],by simp -dsimp[-getElem?_pos,go_sem,e1],by simp -dsimp[-getElem?_pos,go_sem,e2],by simp[s1]⟩
  have d1:=decide_eq_false s1
  have e1:qh x=5:=by rw[qh,if_neg s1]
  by_cases s5:x.State=5
  ·have e2:jT x=0:=by rw[jT,if_neg s1,if_pos s5]
   simp -dsimp -implicitDefEqProofs [-getElem?_pos,go_sem,hP,s1,d1,s5]
   refine⟨_,Weaker.refl _,?_⟩
   rw[hInv]
   exact⟨by simp -dsimp[-getElem?_pos,go_sem],by simp -dsimp[-getElem?_pos,go_sem],by simp -dsimp[-getElem?_pos,go_sem,e1],by simp -dsimp[-getElem?_pos,go_sem,e2],by simp[s5]⟩
  ·have d5:=decide_eq_false s5
   have e2:jT x=1:=by rw[jT,if_neg s1,if_neg s5]
   simp -dsimp -implicitDefEqProofs [-getElem?_pos,go_sem,hP,s1,d1,s5,d5]
   refine⟨_,Weaker.refl _,?_⟩
   rw[hInv]
   exact⟨by simp -dsimp[-getElem?_pos,go_sem],by simp -dsimp[-getElem?_pos,go_sem],by simp -dsimp[-getElem?_pos,go_sem,e1],by simp -dsimp[-getElem?_pos,go_sem,e2],rfl⟩
 intro s hs'
 rw[hInv]at hs'
 obtain⟨t2,t3,t5,t6,hH⟩:=hs'
 clear hInv Inv
 refine bU _ _ _ (by rw[hN];kernel_rfl) ?_
 simp -dsimp -implicitDefEqProofs [-getElem?_pos,go_sem,hP,t2,t3,hH]
 refine ae (cp.lift _ _) hP Ox (by simpa using⟨i1,ip⟩) .sc ?_
 simp -dsimp -implicitDefEqProofs [-getElem?_pos,go_sem,hP,t2,t3,hH]
 refine ae (bl.lift _ _) hP OM (by simpa[ar]using ia) (ak .sc .sc) ?_
 simp -dsimp -implicitDefEqProofs [-getElem?_pos,go_sem,hP,t2,t3,hH]
 refine ao (fun _=>true) [] hP (by kernel_rfl) (by kernel_rfl) ?_
 cases c1:(bC d.Account x.Payment.Sub).2
 ·rw[c1,Bool.false_and]at hR
  simp -dsimp -implicitDefEqProofs [-getElem?_pos,go_sem,hP,c1,hR]
 rw[c1,Bool.true_and]at hR
 simp -dsimp -implicitDefEqProofs [-getElem?_pos,go_sem,hP,t2,t3,hH]
 refine ae (py.lift _ _) hP Ld (by simpa using ip) .sc ?_
 cases c2:gz x.Payment
 ·rw[c2,Bool.false_and]at hR
  simp -dsimp -implicitDefEqProofs [-getElem?_pos,go_sem,hP,c2,hR]
 have hsub:=((g7 x.Payment).1 c2).sub.1
 rw[c2,Bool.true_and]at hR
 simp -dsimp -implicitDefEqProofs [-getElem?_pos,go_sem,hP,t2,t3,hH]
 by_cases c3:1≤x.State
 rotate_left
 ·rw[eM (by omega),Bool.false_and]at hR
  have d3:=decide_eq_false c3
  simp -dsimp -implicitDefEqProofs [-getElem?_pos,go_sem,hP,t2,t3,c3,d3,hR]
 have d3:=decide_eq_true c3
 by_cases c4:x.State≤5
 rotate_left
 ·rw[eM (by omega),Bool.false_and]at hR
  have d4:=decide_eq_false c4
  simp -dsimp -implicitDefEqProofs [-getElem?_pos,go_sem,hP,t2,t3,d3,d4,hR]
 have d4:=decide_eq_true c4
 rw[dS.2 ⟨c3,c4⟩,Bool.true_and]at hR
 by_cases c5:jT x≤x.Attempts
 rotate_left
 ·rw[eM (by omega),Bool.false_and]at hR
  have d5:=decide_eq_false c5
  simp -dsimp -implicitDefEqProofs [-getElem?_pos,go_sem,hP,t2,t3,d3,d4,d5,hR,t5,t6]
 have d5:=decide_eq_true c5
 by_cases c6:x.Attempts≤qh x
 rotate_left
 ·rw[eM (by omega),Bool.false_and]at hR
  have d6:=decide_eq_false c6
  simp -dsimp -implicitDefEqProofs [-getElem?_pos,go_sem,hP,t2,t3,d3,d4,d5,d6,hR,t5,t6]
 have d6:=decide_eq_true c6
 rw[dS.2 ⟨c5,c6⟩,Bool.true_and]at hR
 simp -dsimp -implicitDefEqProofs [-getElem?_pos,go_sem,hP,t2,t3,d3,d4,d5,d6,t5,t6]
 by_cases c7:decide (x.Payment∈d.Queue.Waiting)=decide (x.State=1)
 rotate_left
 ·rw[decide_eq_false c7,Bool.false_and]at hR
  have d7:(decide (x.Payment∈d.Queue.Waiting)==decide (x.State=1))=false:=by rw[beq_eq_false_iff_ne];exact c7
  simp -dsimp -implicitDefEqProofs [-getElem?_pos,go_sem,hP,t2,t3,d7,hR]
 have d7:(decide (x.Payment∈d.Queue.Waiting)==decide (x.State=1))=true:=by rw[beq_iff_eq];exact c7
 rw[decide_eq_true c7,Bool.true_and]at hR
 simp -dsimp -implicitDefEqProofs [-getElem?_pos,go_sem,hP,t2,t3,d7]
 refine ae (sn.lift _ _) hP O4 (by simpa[ar]using iq) .sc ?_
 by_cases c8:(wB d.Queue x.Payment.Warrant:Int)=x.Attempts
 rotate_left
 ·rw[decide_eq_false c8,Bool.false_and]at hR
  have d8:=decide_eq_false c8
  simp -dsimp -implicitDefEqProofs [-getElem?_pos,go_sem,hP,t2,t3,d7,d8,hR]
 have d8:=decide_eq_true c8
 rw[d8,Bool.true_and]at hR
 simp -dsimp -implicitDefEqProofs [-getElem?_pos,go_sem,hP,t2,t3,d7,d8]
 refine ae ((mv hsub).lift _ _) hP Pl (by simpa using⟨ia,ix⟩) .sc ?_
 simp -dsimp -implicitDefEqProofs [-getElem?_pos,go_sem,hP,d7,d8,hR]
theorem KV {d:TDesk} (hq:QOk d.Queue) (ha:aD d.Account=0):bH d=if JU d=true then 0 else 68:=by
 rw[bH,if_pos ha,if_pos (dI.2 hq),KQ hq]
theorem oF {l:List TItem} {k:Nat} {x:TItem} (h:l[k]?=some x):(l.take (k+1)).map wrt=(l.take k).map wrt++[wrt x]:=by rw[bV h,List.map_append];rfl
set_option maxHeartbeats 2000000 in
theorem yC (d:TDesk) (hf:FitD d):PFun Tryz.prog none none 83 [.agg d.cells] (·=iv (bH d)):=by
 refine ab Tryz.func83 rfl (by simp[Tryz.f83]) (by kernel_rfl) ?_
 intro E hP hr hs hW hN
 have ia:=cV d.Account
 have iq:=dr d.Queue
 have id':=dO d
 have cka:=qC d.Account hf.s hf.e
 have ckq:=HD d.Queue hf.q
 have rt:=fun x=>JP d x hf
 rw[cA]at ia cka
 rw[cQn]at iq ckq
 rw[cDn]at id'
 simp only[cDn]at rt
 have li:=hf.i
 have lk:=hf.q.k
 have lw:=hf.q.w
 obtain⟨R,hR⟩:∃R,R=bH d:=⟨_,rfl⟩
 rw[←hR]
 simp -dsimp -implicitDefEqProofs [-getElem?_pos,go_sem,hP,cDn]
 refine ae (cka.lift _ _) hP Fa (by simpa using ia) .sc ?_
 by_cases c1:aD d.Account=0
 rotate_left
 ·have:R=aD d.Account:=by rw[hR,bH,if_neg c1]
  simp -dsimp -implicitDefEqProofs [-getElem?_pos,go_sem,hP,c1,this]
 simp -dsimp -implicitDefEqProofs [-getElem?_pos,go_sem,hP,c1]
 refine ae (ckq.lift _ _) hP NZ (by simpa using iq) .sc ?_
 by_cases c2:cT d.Queue=0
 rotate_left
 ·have:R=cT d.Queue:=by rw[hR,bH,if_pos c1,if_neg c2]
  simp -dsimp -implicitDefEqProofs [-getElem?_pos,go_sem,hP,c2,this]
 have hq:=dI.1 c2
 rw[KV hq c1]at hR
 obtain⟨l,hl⟩:∃l,l=d.Items:=⟨_,rfl⟩
 have hRl:R=if (l.all (kR d)&&(decide (l.map wrt=d.Queue.Known)&&decide (l.countP bZ=d.Queue.Waiting.length)))=true then 0 else 68:=by rw[hR,hl];rfl
 clear hR
 rw[←hl]at li
 simp only[←hl]at rt id'
 simp -dsimp -implicitDefEqProofs [-getElem?_pos,go_sem,hP,c2,←hl]
 refine eJ 5 3 1 (by simp -dsimp[-getElem?_pos,go_sem]) ?_
 obtain⟨I,hI⟩:∃I:Nat→St→Prop,I=fun m s=>∃(k id:Nat),k≤l.length∧m=l.length-k∧(l.take k).all (kR d)=true∧1≤id∧s.t 1= .ref 0 0 0∧s.t 5= .sref id 0 k∧s.t 6=iv ((l.take k).countP bZ)∧s.t 22=bI l∧s.t 23=iv l.length∧s.t 24=iv k∧s.H[0]?=some (some ⟨35,7,[[iv d.Account.Credit,aL d.Account.Subs,bu d.Account.Entries,aC d.Queue.Waiting,eU d.Queue.Known,aX d.Queue.Batches,bI l]]⟩)∧s.H[id]?=some (some ⟨3,1,aj aS ((l.take k).map wrt)⟩):=⟨_,rfl⟩
 refine ay I (l.length) (by rw[hN];rfl) ?_ ?_
 ·rw[hI]
  exact⟨0,1,by omega,by omega,by simp,by omega,by simp -dsimp[-getElem?_pos,go_sem],by simp -dsimp[-getElem?_pos,go_sem],by simp -dsimp[-getElem?_pos,go_sem],by simp -dsimp[-getElem?_pos,go_sem],by simp -dsimp[-getElem?_pos,go_sem],by simp -dsimp[-getElem?_pos,go_sem],by simp -dsimp[-getElem?_pos,go_sem],by simp -dsimp[-getElem?_pos,go_sem,aj]⟩
 intro m s hs'
 rw[hI]at hs'
 obtain⟨k,id,hk,hm,hall,hid,t1,t5,t6,t22,t23,t24,h0,hH⟩:=hs'
 have lt0:=(gsI h0)
 have lti:=(gsI hH)
 have lc:=List.countP_le_length (p:=bZ) (l:=l.take k)
 rw[List.length_take]at lc
 have lws:(aj aS ((l.take k).map wrt)).length=k:=by rw[al,List.length_map,List.length_take];omega
 simp -dsimp -implicitDefEqProofs [-getElem?_pos,go_sem,hP,t23,t24]
 refine aB (fun hh=>?_) (fun hh=>?_)
 ·have hk:k<l.length:=by simpa using hh
  obtain⟨x,hx⟩:∃x,l[k]?=some x:=⟨_,List.getElem?_eq_getElem hk⟩
  have wk:=af ((k:Int)+1) (by omega)
  have ix:=eS x
  have rx:=rt x
  rw[cIt]at ix rx
  have g0:∀y:Option AObj,(s.H++[y])[0]?=some (some ⟨35,7,[[iv d.Account.Credit,aL d.Account.Subs,bu d.Account.Entries,aC d.Queue.Waiting,eU d.Queue.Known,aX d.Queue.Batches,bI l]]⟩):=fun y=>by rw[List.getElem?_append_left lt0];exact h0
  have gi:∀y:Option AObj,(s.H++[y])[id]?=some (some ⟨3,1,aj aS ((l.take k).map wrt)⟩):=fun y=>by rw[List.getElem?_append_left lti];exact hH
  have ec:(l.take (k+1)).countP bZ=(l.take k).countP bZ+if bZ x=true then 1 else 0:=by rw[bV hx,List.countP_append,List.countP_cons,List.countP_nil,Nat.zero_add]
  have ea:(l.take (k+1)).all (kR d)=kR d x:=by rw[bV hx,List.all_append,hall];simp
  have ew:aj aS ((l.take (k+1)).map wrt)=aj aS ((l.take k).map wrt)++[[iv x.Payment.Warrant]]:=by rw[oF hx];exact (ba aS _ _).symm
  generalize (l.take k).countP bZ=cq at ec t6 lc
  generalize aj aS ((l.take k).map wrt)=ws at ew hH gi lws
  have wq:=af ((cq:Int)+1) (by omega)
  simp -dsimp -implicitDefEqProofs [-getElem?_pos,go_sem,hP,t22,t24,hx,cIt,t1,g0,lt0,h0]
  refine ae (rx.lift _ _) hP Oa (by simpa using⟨id',ix⟩) .sc ?_
  have n0:¬id=0:=by omega
  cases hrx:kR d x
  ·have:R=68:=by
    rw[hRl,if_neg]
    rw[Bool.and_eq_true]
    rintro⟨h1,_⟩
    have:=List.all_eq_true.1 h1 x (List.mem_of_getElem? hx)
    rw[hrx]at this
    cases this
   simp -dsimp -implicitDefEqProofs [-getElem?_pos,go_sem,hP,this]
  rw[hrx]at ea
  have fin:∀s':St,s'.t 1= .ref 0 0 0→s'.t 5= .sref (s.H.length+1) 0 (k+1)→s'.t 6=iv ((l.take (k+1)).countP bZ)→s'.t 22=bI l→s'.t 23=iv l.length→s'.t 24=iv (k+1)→s'.H[0]?=some (some ⟨35,7,[[iv d.Account.Credit,aL d.Account.Subs,bu d.Account.Entries,aC d.Queue.Waiting,eU d.Queue.Known,aX d.Queue.Batches,bI l]]⟩)→s'.H[s.H.length+1]?=some (some ⟨3,1,ws++[[iv x.Payment.Warrant]]⟩)→∃m',m'<m∧I m' s':=fun s' a1 a2 a3 a4 a5 a6 a7 a8=>by
   refine⟨l.length-(k+1),by omega,?_⟩
   rw[hI]
   exact⟨k+1,s.H.length+1,by omega,rfl,ea,by omega,a1,a2,a3,a4,a5,a6,a7,by rw[ew];exact a8⟩
  by_cases hs:x.State=1
  ·rw[show bZ x=true by simp[bZ,hs],if_pos rfl]at ec
   simp -dsimp -implicitDefEqProofs [-getElem?_pos,go_sem,hP,hs,t6,wq,t5,gi,hH,lti,lws,t24,wk]
   refine⟨by omega,by omega,?_⟩
   exact fin _ (by simp -dsimp[-getElem?_pos,go_sem,t1]) (by simp -dsimp[-getElem?_pos,go_sem]) (by simp -dsimp[-getElem?_pos,go_sem,ec]) (by simp -dsimp[-getElem?_pos,go_sem,t22]) (by simp -dsimp[-getElem?_pos,go_sem,t23]) (by simp -dsimp[-getElem?_pos,go_sem]) (by simp -dsimp[-getElem?_pos,go_sem,lt0,h0,n0]) (by simp -dsimp[-getElem?_pos,go_sem])
  ·rw[show bZ x=false by simp[bZ,hs],if_neg (by simp)]at ec
   have ds:=decide_eq_false hs
   simp -dsimp -implicitDefEqProofs [-getElem?_pos,go_sem,hP,hs,ds,t5,gi,hH,lti,lws,t24,wk]
   refine⟨by omega,by omega,?_⟩
   exact fin _ (by simp -dsimp[-getElem?_pos,go_sem,t1]) (by simp -dsimp[-getElem?_pos,go_sem]) (by simp -dsimp[-getElem?_pos,go_sem,t6,ec]) (by simp -dsimp[-getElem?_pos,go_sem,t22]) (by simp -dsimp[-getElem?_pos,go_sem,t23]) (by simp -dsimp[-getElem?_pos,go_sem]) (by simp -dsimp[-getElem?_pos,go_sem,lt0,h0,n0]) (by simp -dsimp[-getElem?_pos,go_sem])
 ·have hk:k=l.length:=by simp at hh;omega
  subst hk
  rw[List.take_length]at t6 hall hH
  rw[hall,Bool.true_and]at hRl
  have eq:=zP (l.map wrt) d.Queue.Known (by rw[List.length_map];omega) (by omega)
  simp -dsimp -implicitDefEqProofs [-getElem?_pos,go_sem,hP,t5,t1,h0,lt0]
  refine ah eq hP OK (cY hH (by rw[al,List.length_map]) (fY _) (aH (fY _) (be.2 trivial))) .sc ?_
  by_cases c3:l.map wrt=d.Queue.Known
  rotate_left
  ·have d3:=decide_eq_false c3
   rw[d3,Bool.false_and]at hRl
   simp -dsimp -implicitDefEqProofs [-getElem?_pos,go_sem,hP,d3,hRl]
  have d3:=decide_eq_true c3
  rw[d3,Bool.true_and]at hRl
  by_cases c4:l.countP bZ=d.Queue.Waiting.length
  ·have d4:decide ((l.countP bZ:Int)=(d.Queue.Waiting.length:Int))=true:=decide_eq_true (by omega)
   rw[decide_eq_true c4]at hRl
   simp -dsimp -implicitDefEqProofs [-getElem?_pos,go_sem,hP,d3,t1,h0,lt0,t6,d4,hRl]
  ·have d4:decide ((l.countP bZ:Int)=(d.Queue.Waiting.length:Int))=false:=decide_eq_false (by omega)
   rw[decide_eq_false c4]at hRl
   simp -dsimp -implicitDefEqProofs [-getElem?_pos,go_sem,hP,d3,t1,h0,lt0,t6,d4,hRl]
open Go.PA
open Go.RowKit
open Go.PA
open Go.RowKit
theorem DOk.ks {d:TDesk} (h:DOk d):(d.Items.map wrt).Pairwise (·<·):=by rw[h.k];exact h.q.ks
theorem DOk.nd {d:TDesk} (h:DOk d):(d.Items.map wrt).Nodup:=mb h.ks
theorem uc {l:List TItem} (hn:(l.map wrt).Nodup) {k:Nat} {x:TItem} (hx:l[k]?=some x):qK l x.Payment.Warrant=k:=by
 unfold qK
 rcases dY (fun y:TItem=>decide (y.Payment.Warrant=x.Payment.Warrant)) l with⟨h1,h2⟩|⟨i,a,h1,h2,h3,_⟩
 ·have:=h2 x (List.mem_of_getElem? hx)
  simp at this
 ·have h2:a.Payment.Warrant=x.Payment.Warrant:=by simpa using h2
  have e1:(l.map wrt)[i]?=some x.Payment.Warrant:=by rw[List.getElem?_map,h1];exact congrArg some h2
  have e2:(l.map wrt)[k]?=some x.Payment.Warrant:=by rw[List.getElem?_map,hx];rfl
  have:=(List.getElem?_inj (gsI e1) hn).1 (e1.trans e2.symm)
  rw[h3,this]
theorem rK {l:List TItem} {w:Int} (h:w∉l.map wrt):qK l w= -1:=by
 unfold qK
 rcases dY (fun y:TItem=>decide (y.Payment.Warrant=w)) l with⟨h1,h2⟩|⟨i,a,h1,h2,h3,_⟩
 ·exact h1
 ·have h2:a.Payment.Warrant=w:=by simpa using h2
  exact absurd (List.mem_map.2 ⟨a,List.mem_of_getElem? h1,h2⟩) h
theorem sU {d:TDesk} {w st:Int} {f:TDesk→TItem→Done1} (h:¬bH d=0):gk d w st f=(cR,bH d):=by rw[gk,if_neg h]
theorem qt {d:TDesk} {w st:Int} {f:TDesk→TItem→Done1} (h:bH d=0) (hw:w∉d.Items.map wrt):gk d w st f=(cR,6):=by
 rw[gk,if_pos h]
 split
 ·rfl
 ·rw[if_pos (by rw[rK hw];omega)]
theorem pL {d:TDesk} {st:Int} {f:TDesk→TItem→Done1} (h:bH d=0) {k:Nat} {x:TItem} (hx:d.Items[k]?=some x):gk d x.Payment.Warrant st f=if x.State=st then (if (f d x).e=0 then (⟨(f d x).a,(f d x).q,d.Items.set k (f d x).x⟩,0)else (cR,(f d x).e))else (cR,67):=by
 have hp:=uc (dK.1 h).nd hx
 rw[gk,if_pos h,hp,Int.toNat_natCast,hx]
 simp only
 rw[if_neg (by omega)]
theorem AD {H:ac}:CW H [iv 0,.nil,.nil,.nil,.nil,.nil,.nil] cR.cells:=yA (bW (bW (bW (bW (bW (bW .nil))))))
theorem eY {H:ac} {n:Int} {Q:AV→Prop} {b:Bx Q} (h:Q (.tup [.agg cR.cells,iv n])):jO H (.tup [.agg [iv 0,.nil,.nil,.nil,.nil,.nil,.nil],iv n]) Q b:=aP AD h
open Go.PA
open Go.RowKit
theorem fD {α:Type} (f:α→List AV) (l:List α) (i:Nat) (x:α):(aj f l).set i (f x)=aj f (l.set i x):=by
 simp[aj,List.map_set]
open Go.PA
def dE (id:Int) (e:TEntry):Int:=(if e.To=id then e.Amount else 0)-(if e.From=id then e.Amount else 0)
def sd (id:Int) (es:List TEntry):Int:=Ev (dE id) es
theorem oe (f:TEntry→Int) (e:TEntry) (l:List TEntry):Ev f (e::l)=f e+Ev f l:=by simp[Ev]
theorem Ia {credit n d:Int} {l:List TSub} {e:TEntry} (h:(aT credit n d l e).1=0):(aT credit n d l e).2=l.map fun s=>⟨s.ID,s.Balance+dE s.ID e⟩:=by
 obtain⟨_,_,_,_,_,_,_,hne,_,_,_,_,h2⟩:=jY h
 rw[h2,adj,adj,List.map_map]
 apply List.map_congr_left
 intro s _
 simp only[Function.comp,dE]
 by_cases h1:s.ID=e.From
 ·have h3:¬s.ID=e.To:=fun h=>hne (h1.symm.trans h)
  have h3':¬e.To=s.ID:=fun h=>h3 h.symm
  simp[h1,h3,h3',hne,Ne.symm hne];try omega
 ·have h1':¬e.From=s.ID:=fun h=>h1 h.symm
  by_cases h3:s.ID=e.To
  ·simp[h1,h3,h1',Ne.symm hne,hne]
  ·have h3':¬e.To=s.ID:=fun h=>h3 h.symm
   simp[h1,h3,h1',h3']
theorem m9 (credit:Int):∀(es:List TEntry) (n d:Int) (l:List TSub) (r:Int×Int×List TSub),bB credit n d l es=some r→r.2.2=l.map fun s=>⟨s.ID,s.Balance+sd s.ID es⟩
 |[],n,d,l,r,h=>by
  simp only[bB,Option.some.injEq]at h
  subst h
  simp[sd,Ev]
 |e::es,n,d,l,r,h=>by
  rw[bB]at h
  split at h
  ·rename_i hp
   rw[m9 credit es _ _ _ r h,Ia hp,List.map_map]
   apply List.map_congr_left
   intro s _
   simp only[Function.comp,sd,oe]
   congr 1
   omega
  ·cases h
theorem CD (l:List TSub) (es:List TEntry):((cv l).map fun s=>(⟨s.ID,s.Balance+sd s.ID es⟩:TSub))=(ids l).map fun i=>⟨i,sd i es⟩:=by
 simp[cv,ids,Function.comp_def]
theorem Hk {a:TAccount} (h:aD a=0):a.Subs=(ids a.Subs).map fun i=>⟨i,sd i a.Entries⟩:=by
 obtain⟨_,_,_,_,h5⟩:=iT h
 have:=m9 _ _ _ _ _ _ h5
 rw[CD]at this
 exact this
theorem qc {a:Option AObj} {l l':ac}:Agree (fun id=>decide (id=0)) (a::l) (a::l'):=fun id hid=>by
 have:id=0:=by simpa using hid
 rcases id with _|id
 ·rfl
 ·omega
theorem iA {a b:Option AObj} {l l':ac}:Agree (fun id=>decide (id<2)) (a::b::l) (a::b::l'):=fun id hid=>by
 have:id<2:=by simpa using hid
 rcases id with _|_|id
 ·rfl
 ·rfl
 ·omega
theorem uf {a:TAccount} {e:TEntry} (h:(bF a e).2=0):aD a=0∧a.Entries.length<400∧(aT a.Credit (cG a).Number (cG a).Day a.Subs e).1=0∧(bF a e).1=⟨a.Credit,(aT a.Credit (cG a).Number (cG a).Day a.Subs e).2,a.Entries++[e]⟩:=by
 unfold bF at h⊢
 by_cases c1:aD a=0
 ·rw[if_pos c1]at h⊢
  by_cases c2:a.Entries.length=400
  ·rw[if_pos c2]at h;simp at h
  ·rw[if_neg c2]at h⊢
   by_cases c3:(aT a.Credit (cG a).Number (cG a).Day a.Subs e).1=0
   ·rw[if_pos c3]
    have:=(iT c1).2.1
    exact⟨c1,by omega,c3,rfl⟩
   ·rw[if_neg c3]at h
    exact absurd h c3
 ·rw[if_neg c1]at h
  exact absurd h c1
theorem gr {a:TAccount} {e:TEntry} (h:(bF a e).2=0):aD (bF a e).1=0:=by
 obtain⟨c1,c2,c3,c4⟩:=uf h
 obtain⟨k1,k2,k3,k4,k5⟩:=iT c1
 rw[c4]
 have hi:=jH a.Credit (cG a).Number (cG a).Day a.Subs e
 have hl:(aT a.Credit (cG a).Number (cG a).Day a.Subs e).2.length=a.Subs.length:=by rw[←fo,hi,fo]
 have hz:cv (aT a.Credit (cG a).Number (cG a).Day a.Subs e).2=cv a.Subs:=by
  have:∀l:List TSub,cv l=(ids l).map fun i=>⟨i,0⟩:=fun l=>by simp[cv,ids,Function.comp_def]
  rw[this,this,hi]
 refine I7 (n:=e.Number) (d:=e.Day) (by dsimp only;omega) (by simp;omega) k3 (by dsimp only;rw[hi];exact k4) ?_
 dsimp only
 rw[hz,sZ,k5]
 simp only[Option.bind_some,bB,c3,if_true]
theorem uE {a:TAccount} {e:TEntry} (h:(bF a e).2=0):ids (bF a e).1.Subs=ids a.Subs:=by
 rw[(uf h).2.2.2]
 exact jH _ _ _ _ _
theorem gT {a:TAccount} {e:TEntry} (h:(bF a e).2=0):(bF a e).1.Entries=a.Entries++[e]:=by rw[(uf h).2.2.2]
theorem BM {a:TAccount} {e:TEntry} (h:(bF a e).2=0):(bF a e).1.Credit=a.Credit:=by rw[(uf h).2.2.2]
theorem vg (f:TEntry→Int):∀(l:List TEntry) (i:Nat) (e e':TEntry),l[i]?=some e→Ev f (l.set i e')=Ev f l-f e+f e'
 |[],i,e,e',h=>by simp at h
 |x::l,0,e,e',h=>by
  simp at h
  subst h
  simp only[List.set_cons_zero,oe]
  omega
 |x::l,i+1,e,e',h=>by
  simp only[List.getElem?_cons_succ]at h
  rw[List.set_cons_succ,oe,oe,vg f l i e e' h]
  omega
theorem EF {a:TAccount} (h:aD a=0) {i:Nat} {e:TEntry} (hi:a.Entries[i]?=some e):aD ⟨a.Credit,a.Subs,a.Entries.set i ⟨e.Number,e.Day,e.From,e.To,e.Amount+1,e.Ref⟩⟩=62:=by
 obtain⟨k1,k2,k3,k4,k5⟩:=iT h
 have hv:vB a.Credit=true:=by simpa[vB,bn]using k3
 unfold aD
 dsimp only
 rw[if_neg (by simp;omega),if_neg (by simp[hv,k4])]
 split
 ·rfl
 ·rename_i r hr
  refine if_neg fun he=>?_
  have hn:=m9 _ _ _ _ _ _ hr
  rw[he,CD,Hk h]at hn
  have hids:ids ((ids a.Subs).map fun i=>(⟨i,sd i a.Entries⟩:TSub))=ids a.Subs:=by simp[ids,Function.comp_def]
  rw[hids]at hn
  have key:∀id,id∈ids a.Subs→sd id a.Entries=sd id (a.Entries.set i ⟨e.Number,e.Day,e.From,e.To,e.Amount+1,e.Ref⟩):=fun id hid=>by
   have:=List.map_inj_left.1 hn id hid
   simpa using this
  obtain⟨_,_,_,_,hne,hf,ht⟩:=yZ h e (List.mem_of_getElem? hi)
  by_cases h0:e.To=0
  ·have hf':e.From∈ids a.Subs:=hf.resolve_left fun h=>hne (h.trans h0.symm)
   have:=key _ hf'
   rw[sd,sd,vg _ _ _ _ _ hi]at this
   simp only[dE,if_true,if_neg (Ne.symm hne)]at this
   omega
  ·have:=key _ (ht.resolve_left h0)
   rw[sd,sd,vg _ _ _ _ _ hi]at this
   simp only[dE,if_true,if_neg hne]at this
   omega
open Go.PA
open Go.RowKit
theorem y6 (ws:List Int) (x:TItem):(fa ws x).Payment=x.Payment:=by unfold fa;split<;>rfl
theorem yY (ws:List Int) (l:List TItem):(l.map (fa ws)).map wrt=l.map wrt:=by
 rw[List.map_map]
 exact List.map_congr_left fun x _=>by simp[wrt,y6]
theorem He (l:List TItem):l.map (fa [])=l:=by
 have:fa []=id:=funext fun x=>by simp[fa]
 rw[this,List.map_id]
theorem Gh {l:List TItem} (hn:(l.map wrt).Nodup) {ws:List Int} {i:Nat} {x:TItem} (hx:l[i]?=some x) (hw:x.Payment.Warrant∉ws):
  (l.map (fa ws))[i]?=some x∧(l.map (fa ws)).set i ⟨x.Payment,2,x.Attempts+1⟩=l.map (fa (ws++[x.Payment.Warrant])):=by
 refine⟨by rw[List.getElem?_map,hx,Option.map_some,fa,if_neg hw],?_⟩
 apply List.ext_getElem?
 intro j
 rw[List.getElem?_set,List.getElem?_map,List.getElem?_map,List.length_map]
 by_cases hij:i=j
 ·subst hij
  rw[if_pos rfl,if_pos (gsI hx),hx,Option.map_some,fa,if_pos (by simp)]
 ·rw[if_neg hij]
  cases hj:l[j]? with
  |none=>rfl
  |some y=>
   have hne:y.Payment.Warrant≠x.Payment.Warrant:=fun e=>by
    have e1:(l.map wrt)[i]?=some x.Payment.Warrant:=by rw[List.getElem?_map,hx];rfl
    have e2:(l.map wrt)[j]?=some x.Payment.Warrant:=by rw[List.getElem?_map,hj,←e];rfl
    exact hij ((List.getElem?_inj (gsI e1) hn).1 (e1.trans e2.symm))
   simp[fa,hne]
theorem mn (q:TQueue) (day:Int):(fU q day).Sublist q.Waiting:=by
 unfold fU
 split
 ·exact List.filter_sublist
 ·exact List.nil_sublist _
theorem Gk {q:TQueue} (hq:QOk q) (day:Int):((fU q day).map (·.Warrant)).Nodup:=hq.asc.nd.sublist ((mn q day).map _)
theorem Gn {d:TDesk} (hd:DOk d) {p:TPayment} (hp:p∈d.Queue.Waiting):∃(i:Nat) (x:TItem),d.Items[i]?=some x∧x.Payment=p∧x.State=1:=by
 have hw:∀x,x∈d.Items→nh d.Queue x=true:=fun x hx=>by
  have:=hd.i x hx
  simp only[qz,Bool.and_eq_true]at this
  exact this.2.2.2.2.1
 obtain⟨h1,h2⟩:=(qZ hd.q hd.k).1 hw
 obtain⟨x,hx,hs,e⟩:=BF hd.q hd.k h1 h2 p hp
 obtain⟨i,hi⟩:=List.getElem?_of_mem hx
 exact⟨i,x,hi,e,hs⟩
theorem DS {d:TDesk} (hd:DOk d) {x:TItem} (hx:x∈d.Items):PayOk x.Payment∧(bC d.Account x.Payment.Sub).2=true∧(1≤x.State∧x.State≤5)∧(0≤x.Attempts∧x.Attempts≤5)∧Ai x=true∧nh d.Queue x=true∧(mQ d.Queue x.Payment.Warrant:Int)=x.Attempts∧kO d.Account x=true:=by
 have:=hd.i x hx
 simp only[qz,Bool.and_eq_true,g7,dS,decide_eq_true_eq]at this
 obtain⟨h1,h2,h3,h4,h5,h6,h7⟩:=this
 refine⟨h1,h2,h3,?_,h4,h5,h6,h7⟩
 simp only[Ai,Bool.and_eq_true,dS]at h4
 exact h4.1
theorem HH {q:TQueue} (h:q.Batches.length=0):fQ q=0:=by
 rw[fQ,List.eq_nil_of_length_eq_zero h]
 rfl
theorem GX {q:TQueue} {k:Nat} {b:TBatch} (h:q.Batches.length=k+1) (hb:q.Batches[k]?=some b):fQ q=b.Day:=by
 rw[fQ,List.getLast?_eq_getElem?,h]
 simp[hb]
theorem rW {a:TAccount} (h:aD a=0):a.Subs.length≤100000∧a.Entries.length≤100000:=by
 have:=iT h
 omega
theorem o8 (day:Int):∀(l:List TPayment) (a:TAccount) (ws:List Int) (full:Bool),ws.length≤10→(eL day l a ws full).2.1.length≤10
 |[],a,ws,full,h=>h
 |p::l,a,ws,full,h=>by
  rw[eL]
  split
  ·exact h
  ·split
   ·exact o8 day l _ _ _ (by rw[List.length_append,List.length_singleton];omega)
   ·exact o8 day l _ _ _ h
theorem B9 {a:TAccount} (h:aD a=0):0≤iF a:=(tg h).2.2.1
open Go.PA
open Go.RowKit
abbrev nu:AObj:=⟨35,7,[[iv 0,.nil,.nil,.nil,.nil,.nil,.nil]]⟩
abbrev tj:AObj:=⟨140,3,[[iv 0,iv 0,.nil]]⟩
theorem dC {H:ac} {n:Int} {Q:AV→Prop} {b:Bx Q} (h:Q (.tup [.agg cR.cells,.agg dy.cells,iv n])):jO H (.tup [.agg [iv 0,.nil,.nil,.nil,.nil,.nil,.nil],.agg [iv 0,iv 0,.nil],iv n]) Q b:=nV AD AZ h
open Go.PA
open Go.RowKit
def kL {α:Type} (q:α→Bool) (am:α→Int) (l:List α):Int:=((l.filter q).map am).sum
def BB {α:Type} (q:α→Bool) (l:List α):Nat:=(l.filter q).length
theorem pU {α:Type} (q:α→Bool) (am:α→Int):kL q am []=0:=rfl
theorem cZ {α:Type} (q:α→Bool) (am:α→Int) (x:α) (l:List α):kL q am (x::l)=(if q x=true then am x else 0)+kL q am l:=by
 unfold kL
 by_cases h:q x=true
 ·simp[h]
 ·simp[h]
theorem kC {α:Type} (q:α→Bool) (am:α→Int) (a b:List α):kL q am (a++b)=kL q am a+kL q am b:=by
 unfold kL
 simp
theorem gR {α:Type} (q:α→Bool) (x:α) (l:List α):BB q (x::l)=(if q x=true then 1 else 0)+BB q l:=by
 unfold BB
 by_cases h:q x=true
 ·simp[h];omega
 ·simp[h]
theorem iu {α:Type} (q:α→Bool) (am:α→Int):∀l:List α,(∀x,x∈l→0<am x)→0≤kL q am l∧∀x,x∈l→q x=true→am x≤kL q am l
 |[],_=>⟨Int.le_refl _,fun x h=>by cases h⟩
 |y::l,h=>by
  obtain⟨h1,h2⟩:=iu q am l fun x hx=>h x (by simp[hx])
  have hy:=h y (by simp)
  rw[cZ]
  refine⟨by split<;>omega,fun x hx hq=>?_⟩
  rcases List.mem_cons.1 hx with rfl|hx
  ·rw[if_pos hq];omega
  ·have:=h2 x hx hq
   split<;>omega
theorem r5 {α:Type} (q:α→Bool) (am:α→Int) (l:List α) (h:∀x,x∈l→q x=false):kL q am l=0:=by
 unfold kL
 rw[List.filter_eq_nil_iff.2 fun x hx=>by simp[h x hx]]
 rfl
def ju {α:Type} (lt is:α→Bool) (mk:Int→α) (am:α→Int):List α→Int→List α
 |[],n=>if n=0 then []else [mk n]
 |x::l,n=>if lt x=true then x::ju lt is mk am l n else if is x=true then (if am x+n=0 then l else mk (am x+n)::l)else if n=0 then x::l else mk n::x::l
structure KeyOk {α:Type} (R:α→α→Prop) (lt is:α→Bool) (mk:Int→α) (am:α→Int):Prop where
 am:∀a,am (mk a)=a
 trans:∀x y z,R x y→R y z→R x z
 ltMk:∀x a,lt x=true→R x (mk a)
 isR:∀x y a,is x=true→R x y→R (mk a) y
 tri:∀x a,lt x=false→is x=false→R (mk a) x
 mono:∀x y,R x y→lt y=true→lt x=true
 irr:∀x y,is x=true→R x y→is y=false
 dis:∀x,lt x=true→is x=false
 aft:∀x y,lt x=false→is x=false→R x y→is y=false
section
variable {α:Type} {R:α→α→Prop} {lt is:α→Bool} {mk:Int→α} {am:α→Int}
theorem rj (q:α→Bool) (hm:∀a,am (mk a)=a) (c:Bool) (hq:∀a,q (mk a)=c) (hi:∀x,is x=true→q x=c):∀(l:List α) (n:Int),kL q am (ju lt is mk am l n)=kL q am l+if c=true then n else 0
 |[],n=>by
  unfold ju
  by_cases h:n=0
  ·subst h;simp[pU]
  ·rw[if_neg h,cZ,hq,hm,pU];omega
 |x::l,n=>by
  have ih:=rj q hm c hq hi l n
  unfold ju
  split
  ·rw[cZ,cZ,ih];omega
  ·split
   ·rename_i h1 h2
    have:=hi x h2
    split
    ·rename_i h3
     rw[cZ,this]
     split<;>omega
    ·rw[cZ,cZ,hq,hm,this]
     split<;>omega
   ·split
    ·rename_i h
     subst h
     simp
    ·rw[cZ,hq,hm];omega
theorem xM (q:α→Bool) (c:Bool) (hq:∀a,q (mk a)=c) (hi:∀x,is x=true→q x=c):∀(l:List α) (n:Int),BB q (ju lt is mk am l n)≤BB q l+if c=true then 1 else 0
 |[],n=>by
  unfold ju
  by_cases h:n=0
  ·subst h;simp[BB]
  ·rw[if_neg h,gR,hq];simp[BB]
 |x::l,n=>by
  have ih:=xM q c hq hi l n
  unfold ju
  split
  ·rw[gR,gR];omega
  ·split
   ·rename_i h1 h2
    have:=hi x h2
    split
    ·rw[gR,this];omega
    ·rw[gR,gR,hq,this];omega
   ·split
    ·omega
    ·rw[gR,hq];omega
theorem vr (l:List α) (n:Int):(ju lt is mk am l n).length≤l.length+1:=by
 have:=xM (lt:=lt) (is:=is) (mk:=mk) (am:=am) (fun _=>true) true (fun _=>rfl) (fun _ _=>rfl) l n
 have e:∀l:List α,l.filter (fun _=>true)=l:=fun l=>List.filter_eq_self.2 (by simp)
 unfold BB at this
 rw[e,e]at this
 simpa using this
theorem B2:∀{l:List α} {n:Int} {x:α},x∈ju lt is mk am l n→x∈l∨(n≠0∧x=mk n)∨∃y,y∈l∧is y=true∧am y+n≠0∧x=mk (am y+n)
 |[],n,x,h=>by
  unfold ju at h
  split at h
  ·cases h
  ·rename_i h0
   exact .inr (.inl ⟨h0,by simpa using h⟩)
 |y::l,n,x,h=>by
  unfold ju at h
  split at h
  ·rcases List.mem_cons.1 h with rfl|h
   ·exact .inl (by simp)
   ·rcases B2 h with h|h|⟨z,h1,h2⟩
    ·exact .inl (by simp[h])
    ·exact .inr (.inl h)
    ·exact .inr (.inr ⟨z,by simp[h1],h2⟩)
  ·split at h
   ·rename_i h1 h2
    split at h
    ·exact .inl (by simp[h])
    ·rename_i h3
     rcases List.mem_cons.1 h with rfl|h
     ·exact .inr (.inr ⟨y,by simp,h2,h3,rfl⟩)
     ·exact .inl (by simp[h])
   ·split at h
    ·exact .inl h
    ·rename_i h3
     rcases List.mem_cons.1 h with rfl|h
     ·exact .inr (.inl ⟨h3,rfl⟩)
     ·exact .inl h
theorem m6 (ok:KeyOk R lt is mk am):∀{l:List α} (n:Int),l.Pairwise R→(ju lt is mk am l n).Pairwise R
 |[],n,_=>by
  unfold ju
  split<;>simp
 |x::l,n,h=>by
  obtain⟨h1,h2⟩:=List.pairwise_cons.1 h
  unfold ju
  split
  ·rename_i hl
   refine List.pairwise_cons.2 ⟨fun y hy=>?_,m6 ok n h2⟩
   rcases B2 hy with hy|⟨_,rfl⟩|⟨_,_,_,_,rfl⟩
   ·exact h1 y hy
   ·exact ok.ltMk _ _ hl
   ·exact ok.ltMk _ _ hl
  ·split
   ·rename_i hl hi
    split
    ·exact h2
    ·exact List.pairwise_cons.2 ⟨fun y hy=>ok.isR x y _ hi (h1 y hy),h2⟩
   ·rename_i hl hi
    split
    ·exact h
    ·have ht:=ok.tri x n (by simpa using hl) (by simpa using hi)
     refine List.pairwise_cons.2 ⟨fun y hy=>?_,h⟩
     rcases List.mem_cons.1 hy with rfl|hy
     ·exact ht
     ·exact ok.trans _ _ _ ht (h1 y hy)
theorem mf (ok:KeyOk R lt is mk am):∀{l:List α},l.Pairwise R→∃k,k≤l.length∧(∀h x,l[h]?=some x→(lt x=true↔h<k))∧
  ((∃x,l[k]?=some x∧is x=true∧kL is am l=am x∧∀n,ju lt is mk am l n=if am x+n=0 then l.take k++l.drop (k+1)else l.take k++mk (am x+n)::l.drop (k+1))∨
   ((∀x,l[k]?=some x→is x=false)∧kL is am l=0∧∀n,ju lt is mk am l n=if n=0 then l else l.take k++mk n::l.drop k))
 |[],_=>⟨0,by simp,by simp,.inr ⟨by simp,rfl,fun n=>by unfold ju;simp⟩⟩
 |x::l,h=>by
  obtain⟨h1,h2⟩:=List.pairwise_cons.1 h
  by_cases hl:lt x=true
  ·obtain⟨k,hk,hm,hc⟩:=mf ok h2
   have hd:=ok.dis x hl
   refine⟨k+1,by simp;omega,fun j y hy=>?_,?_⟩
   ·cases j with
    |zero=>
     simp only[List.getElem?_cons_zero,Option.some.injEq]at hy
     subst hy
     simp[hl]
    |succ j=>
     rw[List.getElem?_cons_succ]at hy
     rw[hm j y hy]
     omega
   ·rcases hc with⟨y,c1,c2,c3,c4⟩|⟨c1,c3,c4⟩
    ·refine .inl ⟨y,by simpa using c1,c2,by rw[cZ,hd,c3];simp,fun n=>?_⟩
     unfold ju
     rw[if_pos hl,c4]
     split<;>simp
    ·refine .inr ⟨fun y hy=>c1 y (by simpa using hy),by rw[cZ,hd,c3];simp,fun n=>?_⟩
     unfold ju
     rw[if_pos hl,c4]
     split<;>simp
  ·have hl':lt x=false:=by simpa using hl
   have hm:∀(j:Nat) (y:α),(x::l)[j]?=some y→(lt y=true↔j<0):=fun j y hy=>by
    refine⟨fun e=>?_,fun e=>by omega⟩
    rcases List.mem_cons.1 (List.mem_of_getElem? hy)with rfl|hy
    ·exact absurd e hl
    ·exact absurd (ok.mono x y (h1 y hy) e) hl
   refine⟨0,by simp,hm,?_⟩
   by_cases hi:is x=true
   ·refine .inl ⟨x,rfl,hi,?_,fun n=>?_⟩
    ·rw[cZ,if_pos hi,r5 is am l fun y hy=>ok.irr x y hi (h1 y hy)]
     omega
    ·unfold ju
     rw[if_neg hl,if_pos hi]
     simp
   ·have hi':is x=false:=by simpa using hi
    refine .inr ⟨fun y hy=>?_,?_,fun n=>?_⟩
    ·simp only[List.getElem?_cons_zero,Option.some.injEq]at hy
     subst hy
     exact hi'
    ·rw[cZ,if_neg hi,r5 is am l fun y hy=>ok.aft x y hl' hi' (h1 y hy)]
     omega
    ·unfold ju
     rw[if_neg hl,if_neg hi]
     simp
end
open Go.PA
open Go.RowKit
def rQ (s:TSecurity):Bool:=
 decide ((1≤s.ID∧s.ID≤1000)∧(1≤s.Unit∧s.Unit≤1000000000)∧(0≤s.Issued∧s.Issued≤36000)∧(s.Issued+30≤s.Maturity∧s.Maturity≤min (s.Issued+18000) 35990)∧(0≤s.Rate∧s.Rate≤20000))&&
  (if s.Every=0 then decide ((s.Maturity-s.Issued)%30=0)&&decide (s.Rate=0)else if s.Every=1∨s.Every=3∨s.Every=6∨s.Every=12 then decide ((s.Maturity-s.Issued)%(30*s.Every)=0)else false)
def kF (l:List TSecurity) (id:Int):Option TSecurity:=l.find? fun s=>decide (s.ID=id)
def hLt (id h:Int) (x:THolding):Bool:=decide (x.Security<id)||(decide (x.Security=id)&&decide (x.Holder<h))
def hIs (id h:Int) (x:THolding):Bool:=decide (x.Security=id)&&decide (x.Holder=h)
def hMk (id h a:Int):THolding:=⟨id,h,a⟩
def hAm (x:THolding):Int:=x.Amount
def hR (x y:THolding):Prop:=x.Security<y.Security∨(x.Security=y.Security∧x.Holder<y.Holder)
theorem qq {id h:Int} {x:THolding}:hLt id h x=true↔(x.Security<id∨(x.Security=id∧x.Holder<h)):=by simp[hLt]
theorem gl {id h:Int} {x:THolding}:hIs id h x=true↔(x.Security=id∧x.Holder=h):=by simp[hIs]
theorem ow {id h:Int} {x:THolding}:hLt id h x=false↔¬(x.Security<id∨(x.Security=id∧x.Holder<h)):=by rw[←qq];simp
theorem tZ {id h:Int} {x:THolding}:hIs id h x=false↔¬(x.Security=id∧x.Holder=h):=by rw[←gl];simp
theorem hOk (id h:Int):KeyOk hR (hLt id h) (hIs id h) (hMk id h) hAm where
 am a:=rfl
 trans x y z h1 h2:=by unfold hR at*;omega
 ltMk x a h1:=by rw[qq]at h1;unfold hR hMk;dsimp only;omega
 isR x y a h1 h2:=by rw[gl]at h1;unfold hR hMk at*;dsimp only at*;omega
 tri x a h1 h2:=by rw[ow]at h1;rw[tZ]at h2;unfold hR hMk;dsimp only;omega
 mono x y h1 h2:=by rw[qq]at*;unfold hR at h1;omega
 irr x y h1 h2:=by rw[gl]at h1;rw[tZ];unfold hR at h2;omega
 dis x h1:=by rw[qq]at h1;rw[tZ];omega
 aft x y h1 h2 h3:=by rw[ow]at h1;rw[tZ]at*;unfold hR at h3;omega
def kQ (l:List THolding) (id h n:Int):List THolding:=ju (hLt id h) (hIs id h) (hMk id h) hAm l n
def ff (l:List THolding) (id h:Int):Int:=kL (hIs id h) hAm l
def pN (id:Int) (x:THolding):Bool:=decide (x.Security=id)
def eh (l:List THolding) (id:Int):Int:=kL (pN id) hAm l
theorem rU (l:List THolding) (id h n id':Int):eh (kQ l id h n) id'=eh l id'+if id=id' then n else 0:=by
 have:=rj (lt:=hLt id h) (is:=hIs id h) (mk:=hMk id h) (am:=hAm) (pN id') (fun _=>rfl) (decide (id=id')) (fun _=>rfl) (fun x hx=>by rw[gl]at hx;unfold pN;rw[hx.1]) l n
 unfold eh kQ
 rw[this]
 simp
theorem Bt {l:List THolding} {id h n:Int} (hs:l.Pairwise hR) (hp:∀x,x∈l→0<x.Amount) (hn:0≤ff l id h+n):∀x,x∈kQ l id h n→0<x.Amount:=by
 intro x hx
 obtain⟨k,hk,hm,⟨y,c1,c2,c3,c4⟩|⟨c1,c3,c4⟩⟩:=mf (hOk id h) hs
 all_goals
  unfold kQ at hx
  unfold ff at hn
  rw[c4]at hx
  rw[c3]at hn
  split at hx
 ·rcases List.mem_append.1 hx with hx|hx
  ·exact hp x (List.mem_of_mem_take hx)
  ·exact hp x (List.mem_of_mem_drop hx)
 ·rcases List.mem_append.1 hx with hx|hx
  ·exact hp x (List.mem_of_mem_take hx)
  ·rcases List.mem_cons.1 hx with rfl|hx
   ·unfold hMk;dsimp only;omega
   ·exact hp x (List.mem_of_mem_drop hx)
 ·exact hp x hx
 ·rcases List.mem_append.1 hx with hx|hx
  ·exact hp x (List.mem_of_mem_take hx)
  ·rcases List.mem_cons.1 hx with rfl|hx
   ·unfold hMk;dsimp only;omega
   ·exact hp x (List.mem_of_mem_drop hx)
def dA (n:Int):Bool:=decide (1≤n)&&decide (n≤1000)
def dP (m:TMove):Bool:=
 if m.Kind=1 then !decide (m.From=0)||!dA m.To else if m.Kind=2 then !dA m.From||!dA m.To||decide (m.From=m.To)else !dA m.From||!decide (m.To=0)
def goH (l:List THolding) (m:TMove):List THolding:=
 let l1:=if m.From=0 then l else kQ l m.Security m.From (-m.Amount)
 if m.To=0 then l1 else kQ l1 m.Security m.To m.Amount
def bA (secs:List TSecurity) (l:List THolding) (day:Int) (m:TMove):Int:=
 match kF secs m.Security with
 |none=>76
 |some s=>
  if¬(max day s.Issued≤m.Day∧m.Day≤if m.Kind=3 then 36000 else s.Maturity)then 8
  else if m.Amount≤0∨1000000000000<m.Amount∨m.Amount%s.Unit≠0 then 79
  else if dP m=true then 6
  else if m.From≠0∧ff l m.Security m.From<m.Amount then 77
  else if m.From=0∧1000000000000<eh l m.Security+m.Amount then 2
  else 0
structure HoldOk (l:List THolding) (N:Nat):Prop where
 srt:l.Pairwise hR
 pos:∀x,x∈l→0<x.Amount
 tot:∀id,eh l id≤1000000000000
 len:l.length≤N
theorem HoldOk.am {l:List THolding} {N:Nat} (h:HoldOk l N) {x:THolding} (hx:x∈l):0<x.Amount∧x.Amount≤1000000000000:=by
 have h1:=(iu (pN x.Security) hAm l h.pos).2 x hx (by simp[pN])
 have h2:=h.tot x.Security
 have h3:=h.pos x hx
 unfold eh at h2
 unfold hAm at h1 h2
 omega
structure MoveOk (secs:List TSecurity) (l:List THolding) (day:Int) (m:TMove) (s:TSecurity):Prop where
 sec:kF secs m.Security=some s
 day:max day s.Issued≤m.Day∧m.Day≤if m.Kind=3 then 36000 else s.Maturity
 am:0<m.Amount∧m.Amount≤1000000000000∧m.Amount%s.Unit=0
 str:dP m=false
 held:m.From≠0→m.Amount≤ff l m.Security m.From
 out:m.From=0→eh l m.Security+m.Amount≤1000000000000
theorem qE {secs:List TSecurity} {l:List THolding} {day:Int} {m:TMove} (h:bA secs l day m=0):∃s,MoveOk secs l day m s:=by
 unfold bA at h
 cases hs:kF secs m.Security with
 |none=>rw[hs]at h;cases h
 |some s=>
  rw[hs]at h
  dsimp only at h
  by_cases h1:max day s.Issued≤m.Day∧m.Day≤if m.Kind=3 then 36000 else s.Maturity
  ·rw[if_neg (by simpa using h1)]at h
   by_cases h2:m.Amount≤0∨1000000000000<m.Amount∨m.Amount%s.Unit≠0
   ·rw[if_pos h2]at h;cases h
   ·rw[if_neg h2]at h
    by_cases h3:dP m=true
    ·rw[if_pos h3]at h;cases h
    ·rw[if_neg h3]at h
     by_cases h4:m.From≠0∧ff l m.Security m.From<m.Amount
     ·rw[if_pos h4]at h;cases h
     ·rw[if_neg h4]at h
      by_cases h5:m.From=0∧1000000000000<eh l m.Security+m.Amount
      ·rw[if_pos h5]at h;cases h
      ·exact⟨s,hs,h1,by omega,by simpa using h3,fun e=>by have:=fun c=>h4 ⟨e,c⟩;omega,fun e=>by have:=fun c=>h5 ⟨e,c⟩;omega⟩
  ·rw[if_pos h1]at h;cases h
theorem mq {secs:List TSecurity} {l:List THolding} {day:Int} {m:TMove} {s:TSecurity} (h:MoveOk secs l day m s):bA secs l day m=0:=by
 unfold bA
 rw[h.sec]
 dsimp only
 have h2:=h.am
 rw[if_neg (by simpa using h.day),if_neg (by omega),if_neg (by simp[h.str]),if_neg (fun c=>by have:=h.held c.1;omega),if_neg (fun c=>by have:=h.out c.1;omega)]
def ni (l:List THolding) (id h n:Int):List THolding:=if h=0 then l else kQ l id h n
theorem pX {secs:List TSecurity} {l:List THolding} {day:Int} {m:TMove} {s:TSecurity} {N:Nat} (h:HoldOk l N) (hm:MoveOk secs l day m s):HoldOk (ni l m.Security m.From (-m.Amount)) (N+1)∧(ni l m.Security m.From (-m.Amount)).length≤l.length+1:=by
 have h0:=h.len
 have am:=hm.am
 unfold ni
 split
 ·exact⟨⟨h.srt,h.pos,h.tot,by omega⟩,by omega⟩
 ·rename_i hf
  have:=hm.held hf
  refine⟨⟨m6 (hOk _ _) _ h.srt,Bt h.srt h.pos (by omega),fun id=>?_,Nat.le_trans (vr _ _) (by omega)⟩,vr _ _⟩
  rw[rU]
  have:=h.tot id
  split<;>omega
theorem OW (l:List THolding) (m:TMove):goH l m=ni (ni l m.Security m.From (-m.Amount)) m.Security m.To m.Amount:=rfl
theorem N7 {secs:List TSecurity} {l:List THolding} {day:Int} {m:TMove} {s:TSecurity} {N:Nat} (h:HoldOk l N) (hm:MoveOk secs l day m s):HoldOk (goH l m) (N+2):=by
 have am:=hm.am
 obtain⟨k1,_⟩:=pX h hm
 rw[OW]
 obtain⟨l1,h1⟩:∃l1,l1=ni l m.Security m.From (-m.Amount):=⟨_,rfl⟩
 rw[←h1]at k1⊢
 rw[ni]
 split
 ·exact⟨k1.srt,k1.pos,k1.tot,by have:=k1.len;omega⟩
 ·have hh:0≤ff l1 m.Security m.To:=(iu _ hAm l1 k1.pos).1
  refine⟨m6 (hOk _ _) _ k1.srt,Bt k1.srt k1.pos (by omega),fun id=>?_,Nat.le_trans (vr _ _) (by have:=k1.len;omega)⟩
  rw[rU]
  have ht:=h.tot id
  by_cases hid:m.Security=id
  ·subst hid
   rw[if_pos rfl,h1,ni]
   split
   ·rename_i hf;have:=hm.out hf;omega
   ·rw[rU,if_pos rfl];omega
  ·rw[if_neg hid]
   have:=k1.tot id
   omega
structure RepSt where
 l:List THolding
 n:Nat
 d:Int
def Ky (secs:List TSecurity) (t:RepSt) (m:TMove):Prop:=m.Number=t.n+1∧(1≤m.Kind∧m.Kind≤3)∧bA secs t.l t.d m=0
def mK (t:RepSt) (m:TMove):RepSt:=⟨goH t.l m,t.n+1,m.Day⟩
inductive Runs (secs:List TSecurity):RepSt→List TMove→RepSt→Prop
 |nil {t}:Runs secs t [] t
 |snoc {t u ms m}:Runs secs t ms u→Ky secs u m→Runs secs t (ms++[m]) (mK u m)
def gu:RepSt:=⟨[],0,0⟩
theorem Runs.n {secs:List TSecurity} {t u:RepSt} {ms:List TMove} (h:Runs secs t ms u):u.n=t.n+ms.length:=by
 induction h with
 |nil=>rfl
 |snoc _ _ ih=>simp[mK,ih];omega
theorem Runs.take {secs:List TSecurity} {t u:RepSt} {ms:List TMove} (h:Runs secs t ms u):∀k,∃v,Runs secs t (ms.take k) v∧∀m,ms[k]?=some m→Ky secs v m∧Runs secs t (ms.take (k+1)) (mK v m):=by
 induction h with
 |nil=>exact fun k=>⟨t,by simpa using Runs.nil,fun m hm=>by simp at hm⟩
 |@snoc u ms m hr hs ih=>
  intro k
  rcases Nat.lt_trichotomy k ms.length with hk|hk|hk
  ·obtain⟨v,h1,h2⟩:=ih k
   refine⟨v,by rw[List.take_append_of_le_length (by omega)];exact h1,fun x hx=>?_⟩
   rw[List.getElem?_append_left hk]at hx
   rw[List.take_append_of_le_length (by omega)]
   exact h2 x hx
  ·subst hk
   refine⟨u,by simpa using hr,fun x hx=>?_⟩
   simp only[List.getElem?_append_right (Nat.le_refl _),Nat.sub_self,List.getElem?_cons_zero,Option.some.injEq]at hx
   subst hx
   exact⟨hs,by rw[List.take_of_length_le (by simp)];exact .snoc hr hs⟩
  ·exact⟨_,by rw[List.take_of_length_le (by simp;omega)];exact .snoc hr hs,fun x hx=>by rw[List.getElem?_eq_none (by simp;omega)]at hx;cases hx⟩
theorem Runs.det {secs:List TSecurity} {t u:RepSt} {ms:List TMove} (h:Runs secs t ms u):u=ms.foldl mK t:=by
 induction h with
 |nil=>rfl
 |snoc _ _ ih=>rw[List.foldl_append,←ih];rfl
theorem Runs.ok {secs:List TSecurity} {u:RepSt} {ms:List TMove} (h:Runs secs gu ms u):HoldOk u.l (2*ms.length):=by
 induction h with
 |nil=>
  exact⟨by simp[gu],by simp[gu],fun id=>by simp[gu,eh,kL],by simp[gu]⟩
 |snoc _ hs ih=>
  obtain⟨s,hm⟩:=qE hs.2.2
  have:=N7 ih hm
  simpa[mK,Nat.mul_add]using this
def BK:Int→List TSecurity→Bool
 |_,[]=>true
 |p,s::l=>rQ s&&decide (p<s.ID)&&BK s.ID l
structure RegOk (r:TRegister) (d:Int):Prop where
 secs:BK 0 r.Securities=true
 slen:r.Securities.length≤20
 run:Runs r.Securities gu r.Moves ⟨r.Holdings,r.Moves.length,d⟩
 mlen:r.Moves.length≤400
def jq (r:TRegister) (m:TMove):TRegister:=⟨r.Securities,goH r.Holdings m,r.Moves++[m]⟩
open Go.PA
open Go.RowKit
abbrev bb (l:List TSecurity):AV:= .list 7 (aj TSecurity.cells l)
abbrev aQ (l:List THolding):AV:= .list 3 (aj THolding.cells l)
abbrev cB (l:List TMove):AV:= .list 7 (aj TMove.cells l)
theorem jU (x:TSecurity):x.cells=[iv x.ID,iv x.Unit,iv x.Issued,iv x.Maturity,iv x.Rate,iv x.Every,bv x.Indexed]:=rfl
theorem fP (x:THolding):x.cells=[iv x.Security,iv x.Holder,iv x.Amount]:=rfl
theorem fb (x:TMove):x.cells=[iv x.Number,iv x.Day,iv x.Kind,iv x.Security,iv x.From,iv x.To,iv x.Amount]:=rfl
theorem dQ (x:TRegister):x.cells=[bb x.Securities,aQ x.Holdings,cB x.Moves]:=rfl
theorem iV (l:List TSecurity):Imm (bb l):=aV _ TSecurity.imm _
theorem bD (l:List THolding):Imm (aQ l):=aV _ THolding.imm _
theorem jF (l:List TMove):Imm (cB l):=aV _ TMove.imm _
theorem ug (x:TSecurity):Imm (.agg x.cells):= .agg fun c hc=>x.imm c hc
theorem MM (x:THolding):Imm (.agg x.cells):= .agg fun c hc=>x.imm c hc
theorem nU (x:TMove):Imm (.agg x.cells):= .agg fun c hc=>x.imm c hc
theorem gJ (x:TRegister):Imm (.agg x.cells):= .agg fun c hc=>x.imm c hc
def bet (n lo hi:Int):Bool:=decide (lo≤n)&&decide (n≤hi)
theorem gK {n lo hi:Int} (h:lo≤n∧n≤hi):bet n lo hi=true:=by simp[bet,h]
theorem zo {n lo hi:Int} (h:¬(lo≤n∧n≤hi)):bet n lo hi=false:=by simp[bet];omega
theorem dX (n lo hi:Int):PFun Tryz.prog none none 104 [iv n,iv lo,iv hi] (·=bv (bet n lo hi)):=by
 refine ab Tryz.func104 rfl (by simp[Tryz.f104]) (by kernel_rfl) ?_
 intro E hP hr hs hW hN
 by_cases h1:lo≤n<;>by_cases h2:n≤hi<;>simp -dsimp -implicitDefEqProofs [-getElem?_pos,go_sem,hP,h1,h2,bet]
theorem v5 (n:Int):PFun Tryz.prog none none 281 [iv n] (·=bv (dA n)):=by
 refine ab Tryz.func281 rfl (by simp[Tryz.f281]) (by kernel_rfl) ?_
 intro E hP hr hs hW hN
 simp -dsimp -implicitDefEqProofs [-getElem?_pos,go_sem,hP]
 refine ah (dX n 1 1000) hP ji (ai (by simp -dsimp[-getElem?_pos,go_sem])) .sc ?_
 simp -dsimp -implicitDefEqProofs [-getElem?_pos,go_sem,hP,dA,bet]
theorem xY (n:Int):PFun Tryz.prog none none 50 [iv n] (·=bv (bet n 0 1000000000000)):=by
 refine ab Tryz.func50 rfl (by simp[Tryz.f50]) (by kernel_rfl) ?_
 intro E hP hr hs hW hN
 by_cases h1:0≤n<;>by_cases h2:n≤1000000000000<;>simp -dsimp -implicitDefEqProofs [-getElem?_pos,go_sem,hP,h1,h2,bet]
structure SecOk (s:TSecurity):Prop where
 id:1≤s.ID∧s.ID≤1000
 unit:1≤s.Unit∧s.Unit≤1000000000
 iss:0≤s.Issued∧s.Issued≤36000
 mat:s.Issued+30≤s.Maturity∧s.Maturity≤min (s.Issued+18000) 35990
 rate:0≤s.Rate∧s.Rate≤20000
 every:(s.Every=0∧(s.Maturity-s.Issued)%30=0∧s.Rate=0)∨((s.Every=1∨s.Every=3∨s.Every=6∨s.Every=12)∧(s.Maturity-s.Issued)%(30*s.Every)=0)
theorem CG {s:TSecurity} (h:rQ s=true):SecOk s:=by
 unfold rQ at h
 rw[Bool.and_eq_true,decide_eq_true_eq]at h
 obtain⟨⟨h1,h2,h3,h4,h5⟩,h6⟩:=h
 refine⟨h1,h2,h3,h4,h5,?_⟩
 by_cases e:s.Every=0
 ·rw[if_pos e,Bool.and_eq_true,decide_eq_true_eq,decide_eq_true_eq]at h6
  exact .inl ⟨e,h6⟩
 ·rw[if_neg e]at h6
  by_cases e2:s.Every=1∨s.Every=3∨s.Every=6∨s.Every=12
  ·rw[if_pos e2,decide_eq_true_eq]at h6
   exact .inr ⟨e2,h6⟩
  ·rw[if_neg e2]at h6
   cases h6
theorem Fx (s:TSecurity) (h:rQ s=true):PFun Tryz.prog none none 56 [.agg s.cells] (·=bv true):=by
 obtain⟨h1,h2,h3,h4,h5,h6⟩:=CG h
 refine ab Tryz.func56 rfl (by simp[Tryz.f56]) (by kernel_rfl) ?_
 intro E hP hr hs hW hN
 have c1:=gK h1
 have c2:=gK h2
 have c3:=gK h3
 have c4:=gK h4
 have c5:=gK h5
 have w1:=af (s.Issued+30) (by omega)
 have w2:=af (s.Issued+18000) (by omega)
 have w3:=af (s.Maturity-s.Issued) (by omega)
 have am:F6 [iv (s.Issued+18000),iv 35990]=some (iv (min (s.Issued+18000) 35990)):=by simp[F6,iP]
 simp -dsimp -implicitDefEqProofs [-getElem?_pos,go_sem,hP,jU]
 refine ah (dX s.ID 1 1000) hP ji (ai (by simp -dsimp[-getElem?_pos,go_sem])) .sc ?_
 simp -dsimp -implicitDefEqProofs [-getElem?_pos,go_sem,hP,c1]
 refine ah (dX s.Unit 1 1000000000) hP ji (ai (by simp -dsimp[-getElem?_pos,go_sem])) .sc ?_
 simp -dsimp -implicitDefEqProofs [-getElem?_pos,go_sem,hP,c2]
 refine ah (dX s.Issued 0 36000) hP ji (ai (by simp -dsimp[-getElem?_pos,go_sem])) .sc ?_
 simp -dsimp -implicitDefEqProofs [-getElem?_pos,go_sem,hP,c3,w1,w2,am]
 refine ah (dX s.Maturity (s.Issued+30) (min (s.Issued+18000) 35990)) hP ji (ai (by simp -dsimp[-getElem?_pos,go_sem])) .sc ?_
 simp -dsimp -implicitDefEqProofs [-getElem?_pos,go_sem,hP,c4]
 refine ah (dX s.Rate 0 20000) hP ji (ai (by simp -dsimp[-getElem?_pos,go_sem])) .sc ?_
 simp -dsimp -implicitDefEqProofs [-getElem?_pos,go_sem,hP,c5,w3]
 rcases h6 with⟨e,e2,e3⟩|⟨e,e2⟩
 ·have t:(s.Maturity-s.Issued).tmod 30=0:=by rw[Int.tmod_eq_emod_of_nonneg (by omega)];exact e2
  simp -dsimp -implicitDefEqProofs [-getElem?_pos,go_sem,hP,e,e3,t]
 ·rcases e with e|e|e|e
  ·rw[e]at e2
   have t:(s.Maturity-s.Issued).tmod 30=0:=(Int.tmod_eq_emod_of_nonneg (by omega)).trans e2
   have w5:IntKind.i64.wrap 30=30:=by decide
   simp -dsimp -implicitDefEqProofs [-getElem?_pos,go_sem,hP,e,t,w5]
  ·rw[e]at e2
   have t:(s.Maturity-s.Issued).tmod 90=0:=(Int.tmod_eq_emod_of_nonneg (by omega)).trans e2
   have w5:IntKind.i64.wrap 90=90:=by decide
   simp -dsimp -implicitDefEqProofs [-getElem?_pos,go_sem,hP,e,t,w5]
  ·rw[e]at e2
   have t:(s.Maturity-s.Issued).tmod 180=0:=(Int.tmod_eq_emod_of_nonneg (by omega)).trans e2
   have w5:IntKind.i64.wrap 180=180:=by decide
   simp -dsimp -implicitDefEqProofs [-getElem?_pos,go_sem,hP,e,t,w5]
  ·rw[e]at e2
   have t:(s.Maturity-s.Issued).tmod 360=0:=(Int.tmod_eq_emod_of_nonneg (by omega)).trans e2
   have w5:IntKind.i64.wrap 360=360:=by decide
   simp -dsimp -implicitDefEqProofs [-getElem?_pos,go_sem,hP,e,t,w5]
open Go.PA
open Go.RowKit
theorem LN {H:ac} {x:AV} {k:Nat} {es:List (List AV)} {xs ys:List AV} (h:SlIs H x k es) (hi:Imm (.list k es)) (ht:Args H xs ys):Args H (x::xs) (.list k es::ys):=by
 rcases h with rfl|⟨rfl,rfl⟩|⟨id,ty,rfl,hH⟩
 ·exact aH hi ht
 ·exact yp ht
 ·exact cY hH rfl hi ht
set_option maxHeartbeats 1000000 in
theorem EZ (l:List THolding) (k1 k2:Int) (g:FuncId) (cf:THolding→Int) (k:Nat) (hl:l.length≤1000000) (hk:k≤l.length) (hen:aa Tryz.prog g=true) (hm:∀h x,l[h]?=some x→(cf x<0↔h<k))
  (hg:∀a,a∈l→PFun Tryz.prog none none g [.agg (THolding.cells a),.agg ([iv k1,iv k2])] (·=iv (cf a))):
  PFun Tryz.prog none none 303 [.list 3 (aj THolding.cells l),.agg ([iv k1,iv k2]),.fn g []] (·= .tup [iv k,bv ((l[k]?).any fun x=>decide (cf x=0))]):=by
 refine ab Tryz.func303 rfl (by simp[Tryz.f303]) (by kernel_rfl) ?_
 intro E hP hr hs hW hN
 have ik:Imm (.agg ([iv k1,iv k2])):= .agg (by simp -dsimp[-getElem?_pos,go_sem])
 simp -dsimp -implicitDefEqProofs [-getElem?_pos,go_sem,hP,fP]
 obtain⟨I,hI⟩:∃I:Nat→St→Prop,I=fun m s=>∃i j:Nat,i≤k∧k≤j∧j≤l.length∧m=j-i∧s.t 0= .list 3 (aj THolding.cells l)∧s.t 2= .fn g []∧s.t 4= .ref 0 0 0∧s.t 8=iv l.length∧s.t 9=iv i∧s.t 10=iv j∧s.H[0]?=some (some ⟨303,2,[[iv k1,iv k2]]⟩):=⟨_,rfl⟩
 refine ay I (l.length) (by rw[hN];rfl) ?_ ?_
 ·rw[hI]
  exact⟨0,l.length,by omega,hk,by omega,rfl,by simp -dsimp[-getElem?_pos,go_sem],by simp -dsimp[-getElem?_pos,go_sem],by simp -dsimp[-getElem?_pos,go_sem],by simp -dsimp[-getElem?_pos,go_sem],by simp -dsimp[-getElem?_pos,go_sem],by simp -dsimp[-getElem?_pos,go_sem],by simp -dsimp[-getElem?_pos,go_sem,fP]⟩
 intro m s hs'
 rw[hI]at hs'
 obtain⟨i,j,hi,hj,hjl,hm',t0,t2,t4,t8,t9,t10,hp⟩:=hs'
 have lt0:=(gsI hp)
 simp -dsimp -implicitDefEqProofs [-getElem?_pos,go_sem,hP,t9,t10]
 refine aB (fun h=>?_) (fun h=>?_)
 ·have hij:i<j:=by simpa using h
  have w1:=af ((i:Int)+j) (by omega)
  have wu:IntKind.u64.wrap ((i:Int)+j)=(i:Int)+j:=by rw[IntKind.wrap_u64];omega
  obtain⟨h,hh⟩:∃h,h=(i+j) / 2:=⟨_,rfl⟩
  have wh:IntKind.i64.wrap (((i:Int)+j) / 2)=(h:Int):=by rw[af _ (by omega)];omega
  obtain⟨a,ha⟩:∃a,l[h]?=some a:=⟨_,List.getElem?_eq_getElem (by omega)⟩
  have hcmp:=hm h a ha
  have w2:=af ((h:Int)+1) (by omega)
  have ia:Imm (.agg (THolding.cells a)):= .agg fun c hc=>THolding.imm a c hc
  have cm:=hg a (List.mem_of_getElem? ha)
  rw[fP]at cm ia
  simp -dsimp -implicitDefEqProofs [-getElem?_pos,go_sem,hP,t9,t10,w1,wu,FB,Lv,wh]
  refine ao (fun _=>true) [] hP (by kernel_rfl) (by kernel_rfl) ?_
  simp -dsimp -implicitDefEqProofs [-getElem?_pos,go_sem,hP,t0,t2,t4,ha,hp,lt0,fP]
  refine ae (cm.lift _ _) hP hen (by simpa using⟨ia,ik⟩) .sc ?_
  by_cases c:cf a<0
  ·have c1:decide (cf a<0)=true:=decide_eq_true c
   simp -dsimp -implicitDefEqProofs [-getElem?_pos,go_sem,hP,c1,w2]
   refine⟨j-(h+1),by omega,?_⟩
   rw[hI]
   exact⟨h+1,j,by have:=hcmp.1 c;omega,by omega,by omega,rfl,by simp -dsimp[-getElem?_pos,go_sem,t0],by simp -dsimp[-getElem?_pos,go_sem,t2],by simp -dsimp[-getElem?_pos,go_sem,t4],by simp -dsimp[-getElem?_pos,go_sem,t8],by simp -dsimp[-getElem?_pos,go_sem],by simp -dsimp[-getElem?_pos,go_sem,t10],by simp -dsimp[-getElem?_pos,go_sem,hp]⟩
  ·have c1:decide (cf a<0)=false:=decide_eq_false c
   simp -dsimp -implicitDefEqProofs [-getElem?_pos,go_sem,hP,c1]
   refine⟨h-i,by omega,?_⟩
   rw[hI]
   exact⟨i,h,by omega,by have:=mt hcmp.2 c;omega,by omega,rfl,by simp -dsimp[-getElem?_pos,go_sem,t0],by simp -dsimp[-getElem?_pos,go_sem,t2],by simp -dsimp[-getElem?_pos,go_sem,t4],by simp -dsimp[-getElem?_pos,go_sem,t8],by simp -dsimp[-getElem?_pos,go_sem,t9],by simp -dsimp[-getElem?_pos,go_sem],by simp -dsimp[-getElem?_pos,go_sem,hp]⟩
 ·have hik:i=k:=by
   have:¬i<j:=by simpa using h
   omega
  subst hik
  simp -dsimp -implicitDefEqProofs [-getElem?_pos,go_sem,hP]
  refine ao (fun _=>true) [] hP (by kernel_rfl) (by kernel_rfl) ?_
  by_cases c:i<l.length
  ·obtain⟨a,ha⟩:∃a,l[i]?=some a:=⟨_,List.getElem?_eq_getElem c⟩
   have d:decide ((i:Int)<(l.length:Int))=true:=decide_eq_true (by omega)
   have ia:Imm (.agg (THolding.cells a)):= .agg fun c hc=>THolding.imm a c hc
   have cm:=hg a (List.mem_of_getElem? ha)
   rw[fP]at cm ia
   simp -dsimp -implicitDefEqProofs [-getElem?_pos,go_sem,hP,t9,t8,c,d,t0,t2,t4,ha,hp,lt0,fP]
   refine ae (cm.lift _ _) hP hen (by simpa using⟨ia,ik⟩) .sc ?_
   simp -dsimp -implicitDefEqProofs [-getElem?_pos,go_sem,hP,t9,t8,c,d,t0,t2,t4,ha,hp,lt0,fP]
   exact aw (ak .sc .sc) (by simp[ha])
  ·have d:decide ((i:Int)<(l.length:Int))=false:=decide_eq_false (by omega)
   have n:l[i]?=none:=List.getElem?_eq_none (by omega)
   simp -dsimp -implicitDefEqProofs [-getElem?_pos,go_sem,hP,t9,t8,c,d]
   exact aw (ak .sc .sc) (by simp[n])
def zT (a1 a2 b1 b2:Int):Int:=orI [o5 a1 b1,o5 a2 b2]
theorem MV (a1 a2 b1 b2:Int):zT a1 a2 b1 b2<0↔(a1<b1∨(a1=b1∧a2<b2)):=by
 simp only[zT,orI,o5]
 repeat' split
 all_goals omega
theorem MR (a1 a2 b1 b2:Int):zT a1 a2 b1 b2=0↔(a1=b1∧a2=b2):=by
 simp only[zT,orI,o5]
 repeat' split
 all_goals omega
theorem CX (a1 a2 b1 b2:Int):PFun Tryz.prog none none 306 [.agg [iv a1,iv a2],.agg [iv b1,iv b2]] (·=iv (zT a1 a2 b1 b2)):=by
 refine ab Tryz.func306 rfl (by simp[Tryz.f306]) (by kernel_rfl) ?_
 intro E hP hr hs hW hN
 simp -dsimp -implicitDefEqProofs [-getElem?_pos,go_sem,hP]
 refine ao (fun _=>true) [] hP (by kernel_rfl) (by kernel_rfl) ?_
 simp -dsimp -implicitDefEqProofs [-getElem?_pos,go_sem,hP]
 refine ah (mu a1 b1) hP Fo (ai (by simp -dsimp[-getElem?_pos,go_sem])) .sc ?_
 simp -dsimp -implicitDefEqProofs [-getElem?_pos,go_sem,hP]
 refine ah (mu a2 b2) hP Fo (ai (by simp -dsimp[-getElem?_pos,go_sem])) .sc ?_
 simp -dsimp -implicitDefEqProofs [-getElem?_pos,go_sem,hP]
 refine ah (Nh [o5 a1 b1,o5 a2 b2] (by simp)) hP II (ai (by simp -dsimp[-getElem?_pos,go_sem,aF])) .sc ?_
 simp -dsimp -implicitDefEqProofs [-getElem?_pos,go_sem,hP,zT]
theorem NL (x:THolding):PFun Tryz.prog none none 305 [.agg x.cells] (·= .agg [iv x.Security,iv x.Holder]):=by
 refine ab Tryz.func305 rfl (by simp[Tryz.f305]) (by kernel_rfl) ?_
 intro E hP hr hs hW hN
 simp -dsimp -implicitDefEqProofs [-getElem?_pos,go_sem,hP,fP]
 exact aw (by simp -dsimp[-getElem?_pos,go_sem]) rfl
theorem D5 (x:THolding) (k1 k2:Int):PFun Tryz.prog none none 304 [.agg x.cells,.agg [iv k1,iv k2]] (·=iv (zT x.Security x.Holder k1 k2)):=by
 refine ab Tryz.func304 rfl (by simp[Tryz.f304]) (by kernel_rfl) ?_
 intro E hP hr hs hW hN
 have ix:=MM x
 have op:=NL x
 rw[fP]at ix op
 simp -dsimp -implicitDefEqProofs [-getElem?_pos,go_sem,hP,fP]
 refine ao (fun _=>true) [] hP (by kernel_rfl) (by kernel_rfl) ?_
 simp -dsimp -implicitDefEqProofs [-getElem?_pos,go_sem,hP]
 refine ae (op.lift _ _) hP OZ (by simpa using ix) (by simp -dsimp[-getElem?_pos,go_sem]) ?_
 simp -dsimp -implicitDefEqProofs [-getElem?_pos,go_sem,hP]
 refine ah (CX x.Security x.Holder k1 k2) hP Ov (ai (by simp -dsimp[-getElem?_pos,go_sem])) .sc ?_
 simp -dsimp -implicitDefEqProofs [-getElem?_pos,go_sem,hP]
theorem Bp {row src:Option Nat} (c:Nat) (sx hx n d:AV) (l:List THolding) (id h:Int) (k:Nat) (H:ac) (hc:H[c]?=some (some ⟨183,4,[[sx,hx,n,d]]⟩)) (hsl:SlIs H hx 3 (aj THolding.cells l)) (hl:l.length≤100000) (hk:k≤l.length) (hm:∀j x,l[j]?=some x→(hLt id h x=true↔j<k)):
  MFun Tryz.prog row src 282 [.ref c 0 0,.agg [iv id,iv h]] H (fun r H'=>r= .tup [iv k,bv ((l[k]?).any (hIs id h))]∧Kept [] H H'):=by
 obtain⟨C,hC⟩:∃C:AV→ac→Prop,C=fun r H'=>r= .tup [iv k,bv ((l[k]?).any (hIs id h))]∧Kept [] H H':=⟨_,rfl⟩
 rw[←hC]
 have ex:∃r H',C r H':=⟨_,H,by rw[hC];exact⟨rfl,au _ _⟩⟩
 have pf:=EZ l id h 304 (fun x=>zT x.Security x.Holder id h) k (by omega) hk NG (fun j x hx=>by
  rw[←hm j x hx,qq]
  exact MV _ _ _ _) (fun a _=>D5 a id h)
 have e:(fun x:THolding=>decide (zT x.Security x.Holder id h=0))=hIs id h:=funext fun x=>by
  rw[Bool.eq_iff_iff,gl,decide_eq_true_eq]
  exact MR _ _ _ _
 rw[e]at pf
 have lc:=(gsI hc)
 obtain⟨b,hb⟩:∃b,b=(l[k]?).any (hIs id h):=⟨_,rfl⟩
 rw[←hb]at pf hC
 refine aI Tryz.func282 rfl (by simp[Tryz.f282]) (by kernel_rfl) (ex) ?_
 intro E hP hr hs hN
 simp -dsimp -implicitDefEqProofs [-getElem?_pos,go_sem,hP]
 obtain⟨H1,hH1⟩:∃H1:ac,H1=H++[some ⟨303,2,[[iv id,iv h]]⟩]:=⟨_,rfl⟩
 have k1:Kept [] H H1:=by rw[hH1];exact aK _ _ _
 have c1:=k1 _ _ (by simp) hc
 have s1:=hsl.kept k1
 have a1:H1[H.length]?=some (some ⟨303,2,[[iv id,iv h]]⟩):=by rw[hH1];simp
 have lt1:=(gsI a1)
 have lc1:=(gsI c1)
 simp only[←hH1]
 refine ao (fun _=>true) [] hP (by kernel_rfl) (by kernel_rfl) ?_
 simp -dsimp -implicitDefEqProofs [-getElem?_pos,go_sem,hP,c1,a1,lt1,lc1]
 refine bM (pf.lift _ _) hP OA (LN s1 (bD l) (ai (by simp -dsimp[-getElem?_pos,go_sem]))) ⟨_,rfl⟩ (by rintro r rfl;simp[BI,kH]) ?_
 rintro r rfl
 simp -dsimp -implicitDefEqProofs [-getElem?_pos,go_sem,hP]
 rw[hC]
 exact⟨rfl,k1⟩
end Go.Proofs.YtaenimpfelpafaaGreatDoor
namespace Go.PA
open Go.RowKit
theorem Ki {P:Program} {row src:Option Nat} {f:FuncId} {args:List AV} {H:ac} {C D:AV→ac→Prop} (h:MFun P row src f args H C)
  (hd:∀r H',C r H'→∃id n o,r= .sref id 0 n∧H'[id]?=some (some o)∧n≤o.es.length∧D (.sref H'.length 0 n) (H'.set id none++[some ⟨o.ty,o.k,o.es.take n⟩])):MFun P row src f args H D:=by
 intro E hP hrow hsrc
 obtain⟨⟨x0,H0,h0⟩,hw⟩:=h E hP hrow hsrc
 refine⟨?_,fun w ρ ok vs g hs hr=>(hw w ρ ok vs g hs hr).mono ?_⟩
 ·obtain⟨_,_,_,_,_,_,h1⟩:=hd _ _ h0
  exact⟨_,_,h1⟩
 ·rintro e w' ⟨v,x,H',ρ',ok',rfl,hc,g',x',r'⟩
  obtain⟨id,n,o,rfl,ho,hn,h1⟩:=hd _ _ hc
  obtain⟨g2,x2⟩:=g'.kill id ok' (fun _ h=>h) (fun _ h=> .inl h)
  have hlen:(H'.set id none).length=H'.length:=by simp
  have hnew:∀y:Option AObj,(H'.set id none++[y])[H'.length]?=some y:=fun y=>by rw[←hlen];exact cS
  cases r' with
  |srefDead hd' _=>rw[ho]at hd';cases hd'
  |srefNil ho' hρ=>
   obtain⟨g3,x3⟩:=g2.add ⟨o.ty,o.k,o.es.take 0⟩ none (by simp[ObjOk]) (by simp) (fun _ _ h=>by cases h)
   exact⟨_,_,_,_,ok',rfl,h1,g3,x'.trans (x2.trans x3),.srefNil (hnew _) (by simp[fH])⟩
  |@sref _ _ _ c o' b cap ho' hρ hn' hcc hnc hcap=>
   rw[ho]at ho'
   simp only[Option.some.injEq]at ho'
   subst ho'
   have hobj:=g'.obj id o ho
   rw[hρ]at hobj
   obtain⟨cur,c1,c2,c3,c4,c5⟩:=hobj.cells hcap
   have own:=g'.own id o b cap ho hρ
   obtain⟨g3,x3⟩:=g2.add ⟨o.ty,o.k,o.es.take n⟩ (some (b,cap)) (.inl ⟨cur,c1,c2,by simp only[List.length_take];omega,c4,fun i e j a he ha=>by
     simp only[List.getElem?_take]at he
     split at he
     ·obtain⟨c,d1,d2,d3⟩:=c5 i e j a he ha
      exact⟨c,d1,d2,d3.ext x2⟩
     ·cases he⟩) (fun e he=>g'.len id o ho e (List.mem_of_mem_take he)) (fun b' c' h'=>by
     simp only[Option.some.injEq,Prod.mk.injEq]at h'
     obtain⟨rfl,rfl⟩:=h'
     refine⟨own.1,fun id' o' c' ho' hρ'=>?_,own.2.1,own.2.2⟩
     obtain⟨hne,hl⟩:=j9 ho'
     exact hne (g'.inj id' o' b c' id o cap hl hρ' ho hρ))
   refine⟨_,_,_,_,ok',rfl,h1,g3,x'.trans (x2.trans x3),.sref (o:=⟨o.ty,o.k,o.es.take n⟩) (hnew _) (by simp[fH]) (by simp;omega) hcc hnc hcap⟩
end Go.PA
