/- Several texts of this claim, joined: Bat9 Bat10 Bat11 Bat12 Bat13 Bat14 Bat15 Bat16 PaPf Rec2 Rec3 Rec4 Rec5 Rec6 Rec7 Rec11 Rec12 Rec13 Rec14 Rec15. -/
import Derived.Test.YtfbogibogkbhmaaGreatDoorPk6
set_option linter.unusedSimpArgs false
set_option linter.unusedVariables false
set_option maxRecDepth 4000
namespace Go.Proofs.YtfbogibogkbhmaaGreatDoor
open Go.PA
open Go.RowKit
theorem HI {H:ah}:CW H [.nil,.nil,.nil] bU.cells:=eS (eS (eS .nil))
theorem dP {H:ah} {n:Int} {Q:AV→Prop} {b:Bx Q} (h:Q (.tup [.agg bU.cells,iv n])):jh H (.tup [.agg [.nil,.nil,.nil],iv n]) Q b:=dO HI h
open Go.PA
open Go.RowKit
theorem zj {H:ah} {id n:Nat} {ty:TypeId} {k:Nat} {es tl:List (List AV)} {Q:AV→Prop} {b:Bx Q} (hH:H[id]?=some (some ⟨ty,k,es++tl⟩)) (hn:n=es.length) (hi:Imm (.list k es)) (hq:Q (.list k es)):jh H (.sref id 0 n) Q b:=by
 have hv:dR H (.sref id 0 n)= .list k es:=by rw[fo,hH,dQ];simp[hn]
 exact eU (by rw[hv];exact hi) hi (by rw[hv];exact .refl _) hq
open Go.PA
open Go.RowKit
theorem eF {a b c:AV} (ha:Imm a) (hb:Imm b) (hc:Imm c):Imm (.tup [a,b,c]):=by
 refine .tup fun x hx=>?_
 simp only[zO,wC,or_false]at hx
 rcases hx with rfl|rfl|rfl<;>assumption
theorem MV {a b c a' b' c':AV} (ha:Weak a a') (hb:Weak b b') (hc:Weak c c'):Weak (.tup [a,b,c]) (.tup [a',b',c']):=by
 refine .tup rfl fun i x y hx hy=>?_
 match i,hx,hy with
 |0,hx,hy=>simp at hx hy;subst hx;subst hy;exact ha
 |1,hx,hy=>simp at hx hy;subst hx;subst hy;exact hb
 |2,hx,hy=>simp at hx hy;subst hx;subst hy;exact hc
 |i+3,hx,hy=>simp at hx
theorem qb {H:ah} {cs cs' ds ds':List AV} {v:Value} {Q:AV→Prop} {b:Bx Q} (h:CW H cs cs') (h2:CW H ds ds') (hq:Q (.tup [.agg cs',.agg ds',.sc v])):jh H (.tup [.agg cs,.agg ds,.sc v]) Q b:=
 eU (eF h.imm h2.imm .sc) (eF h.imm' h2.imm' .sc) (MV h.weak h2.weak (.refl _)) hq
theorem Fk {H:ah}:CW H [iv 0,iv 0,.nil] dU.cells:=dg .sc (dg .sc (eS .nil))
theorem cJ {H:ah} {n:Int} {Q:AV→Prop} {b:Bx Q} (h:Q (.tup [.agg bU.cells,.agg dU.cells,iv n])):jh H (.tup [.agg [.nil,.nil,.nil],.agg [iv 0,iv 0,.nil],iv n]) Q b:=qb HI Fk h
theorem yF {H:ah}:∀{cs:List AV},(∀a,a∈cs→Imm a)→CW H cs cs
 |[],_=> .nil
 |a::cs,h=>dg (h a (by simp)) (yF fun x hx=>h x (uC _ hx))
open Go.PA
open Go.RowKit
open Go.PA
open Go.RowKit
theorem Jd (q:TQueue) (day:Int) (hf:FitQ q):PFun Tryz.prog none none 147 [.agg q.cells,iv day] (·=aQ (gV q day)):=by
 refine ab Tryz.func147 rfl (by simp[Tryz.f147]) (by kernel_rfl) ?_
 intro E hP hr hs hW hN
 have ck:=iE q hf
 have iq:=df q
 have ip:=cg q.Waiting
 have i2:=gk q.Known
 have i3:=iV q.Batches
 rw[cQu]at ck iq
 simp only[aA]at i2 ck iq
 simp -dsimp -implicitDefEqProofs [go_sem,hP,cQu,aA]
 refine af ck hP tY (by simpa using iq) .sc ?_
 by_cases c1:cH q=0
 rotate_left
 ·have:gV q day=[]:=by rw[gV,if_neg c1]
  simp -dsimp -implicitDefEqProofs [go_sem,hP,c1]
  exact eU .nil (dv.2 (by simp)) (.nil 5) (by rw[this];rfl)
 have hrd:gV q day=q.Waiting.filter (fun p=>decide (p.Due≤day)):=by rw[gV,if_pos c1]
 rw[hrd]
 obtain⟨l,hl⟩:∃l,l=q.Waiting:=⟨_,rfl⟩
 have lw:=hf.w
 rw[←hl]at lw⊢
 simp -dsimp -implicitDefEqProofs [go_sem,hP,c1]
 refine cV 5 111 5 rfl ?_
 obtain⟨I,hI⟩:∃I:Nat→St→Prop,I=fun m s=>∃(k id:Nat) (ys:List TPayment),k≤l.length∧m=l.length-k∧ys=(l.take k).filter (fun p=>decide (p.Due≤day))∧ys.length≤k∧s.t 1=iv day∧s.t 12=aQ l∧s.t 13=iv l.length∧s.t 14=iv k∧s.t 5= .sref id 0 ys.length∧s.H[id]?=some (some ⟨111,5,ao TPayment.cells ys⟩):=⟨_,rfl⟩
 refine E4 5 hW I (l.length) (by rw[hN];rfl) ?_ ?_
 ·rw[hI]
  exact⟨0,1,[],by omega,by omega,by simp,by simp,rfl,by simp -dsimp[-getElem?_pos,go_sem,hl],by simp -dsimp[-getElem?_pos,go_sem,hl],rfl,rfl,rfl⟩
 intro m s hs'
 rw[hI]at hs'
 obtain⟨k,id,ys,hk,hm,hys,hyl,t1,t12,t13,t14,t5,hH⟩:=hs'
 have hlt:=(gsI hH)
 simp -dsimp -implicitDefEqProofs [go_sem,hP,t13,t14]
 refine aB ?_ ?_<;>intro h
 ·have hk:k<l.length:=by simpa using h
  obtain⟨x,hx⟩:=gkE hk
  have wk:=ae ((k:Int)+1) (by omega)
  have nx:(l.take (k+1)).filter (fun p=>decide (p.Due≤day))=if x.Due≤day then ys++[x]else ys:=by
   rw[ce hx,List.filter_append,←hys]
   by_cases c:x.Due≤day<;>simp[c]
  by_cases c:x.Due≤day
  ·rw[if_pos c]at nx
   have d:decide (x.Due≤day)=true:=zC c
   have nid:¬id=s.H.length:=by omega
   simp -dsimp -implicitDefEqProofs [-getElem?_pos,go_sem,hP,t14,t12,hx,cPy,t1,d,wk,t5,hH,hlt]
   refine⟨by omega,by omega,?_⟩
   refine⟨l.length-(k+1),by omega,?_⟩
   rw[hI]
   exact⟨k+1,s.H.length+1,ys++[x],by omega,rfl,nx.symm,by simp;omega,t1,t12,t13,rfl,by simp -dsimp[-getElem?_pos,go_sem],by rw[←aX];simp -dsimp -implicitDefEqProofs [go_sem,cPy]⟩
  ·rw[if_neg c]at nx
   have d:decide (x.Due≤day)=false:=zA c
   simp -dsimp -implicitDefEqProofs [go_sem,hP,t14,t12,hx,cPy,t1,d,wk]
   refine⟨l.length-(k+1),by omega,?_⟩
   rw[hI]
   exact⟨k+1,id,ys,by omega,rfl,nx.symm,by omega,t1,t12,t13,rfl,t5,by simp -dsimp[-getElem?_pos,go_sem,hH,hlt]⟩
 ·have hk:k=l.length:=by simp at h;omega
  subst hk
  rw[zT]at hys
  refine frz id _ 111 5 (ao TPayment.cells ys) t5 hH (by rw[ar]) (cg _) ?_
  simp -dsimp -implicitDefEqProofs [go_sem,hP]
  exact aw (cg _) (by rw[hys])
open Go.PA
open Go.RowKit
theorem A6 {α:Type} {lt:α→α→Bool} {x a:α} {l:List α} (h:lt x a=true):ins lt (x::l) a=x::ins lt l a:=by
 simp[ins,h]
theorem AP {α:Type} {lt:α→α→Bool} {x a:α} {l:List α} (h:lt x a=false):ins lt (x::l) a=a::x::l:=by
 simp[ins,h]
theorem EK {α:Type} {lt:α→α→Bool} {a:α}:ins lt [] a=[a]:=rfl
set_option maxHeartbeats 1000000 in
theorem GF (q:TQueue) (p:TPayment) (hf:FitQ q):PFun Tryz.prog none none 225 [.agg q.cells,.agg p.cells] (·= .agg (TQueue.mk (ins g7 q.Waiting p) q.Known q.Batches).cells):=by
 refine ee Tryz.func225 rfl (by simp[Tryz.f225]) ?_
 intro E hP hr hs hW hN
 obtain⟨l,K,bs⟩:=q
 have lw:l.length≤100000:=hf.w
 have ip:=cg l
 have i2:=gk K
 have i3:=iV bs
 have ipp:=dX p
 simp only[aA]at i2
 rw[cPy]at ipp
 simp only[cQu,aA]
 refine aM (by rw[hN];kernel_rfl) ?_
 simp -dsimp -implicitDefEqProofs [-getElem?_pos,go_sem,hP,cQu,cPy,aA]
 refine aM (by rw[hN];kernel_rfl) ?_
 simp -dsimp -implicitDefEqProofs [-getElem?_pos,go_sem,hP]
 obtain⟨Inv,hInv⟩:∃Inv:St→Prop,Inv=fun s=>∃k:Nat,k≤l.length∧ins g7 l p=l.take k++p::l.drop k∧s.t 2= .ref 0 0 0∧s.t 3= .ref 1 0 0∧s.t 4= .ref 2 0 0∧s.t 5=iv k∧s.H=[some ⟨32,3,[[aQ l,.list 1 (K.map fun x=>[iv x]),cd bs]]⟩,some ⟨111,5,[[iv p.Warrant,iv p.Payee,iv p.Amount,iv p.Due,iv p.Sub]]⟩,some ⟨32,3,[[.nil,.nil,.nil]]⟩]:=⟨_,rfl⟩
 refine eN Inv (by rw[hN];kernel_rfl) ?_ ?_
 rotate_left
 ·intro s hs'
  rw[hInv]at hs'
  obtain⟨k,hk,hi,t2,t3,t4,t5,hH⟩:=hs'
  refine be _ _ _ (by rw[hN];kernel_rfl) ?_
  simp -dsimp -implicitDefEqProofs [-getElem?_pos,go_sem,hP]
  refine aq (fun i=>decide (i<3)) [14] hP (by kernel_rfl) (by kernel_rfl) ?_
  have D:∀i,decide (i<3)=true→i=0∨i=1∨i=2:=fun i hi=>by
   simp only[zI]at hi
   omega
  obtain⟨A,hA⟩:∃A,A=l.take k:=⟨_,rfl⟩
  obtain⟨B,hB⟩:∃B,B=l.drop k:=⟨_,rfl⟩
  have lA:A.length=k:=by rw[hA,zY];omega
  have lB:B.length=l.length-k:=by rw[hB,wP]
  rw[←hA,←hB]at hi
  simp -dsimp -implicitDefEqProofs [-getElem?_pos,go_sem,hP,t2,t3,t5,hH,bL,dL,dD,hk,gS,jo,←hA,←hB,lA,lB]
  refine⟨by omega,by omega,fun i hi=>?_,by omega,by omega,fun i hi=>?_,by omega,by omega,fun i hi=>?_,?_⟩
  ·rcases D i hi with rfl|rfl|rfl<;>rfl
  ·rcases D i hi with rfl|rfl|rfl<;>rfl
  ·rcases D i hi with rfl|rfl|rfl<;>rfl
  simp -dsimp -implicitDefEqProofs [-getElem?_pos,go_sem,hP,t4]
  refine FO (cs':=(TQueue.mk (ins g7 l p) K bs).cells) ?_ rfl
  refine gP (ty:=111) (es:=ao TPayment.cells (ins g7 l p)) ?_ (by rw[ar,hi,zK,wI];omega) (cg _) (dg i2 (dg i3 .nil))
  simp -dsimp -implicitDefEqProofs [-getElem?_pos,go_sem,hi]
  simp[ao,cPy]
 simp -dsimp -implicitDefEqProofs [-getElem?_pos,go_sem,hP]
 obtain⟨I,hI⟩:∃I:Nat→St→Prop,I=fun m s=>∃k:Nat,k≤l.length∧m=l.length-k∧ins g7 l p=l.take k++ins g7 (l.drop k) p∧s.t 2= .ref 0 0 0∧s.t 3= .ref 1 0 0∧s.t 4= .ref 2 0 0∧s.t 5=iv k∧s.H=[some ⟨32,3,[[aQ l,.list 1 (K.map fun x=>[iv x]),cd bs]]⟩,some ⟨111,5,[[iv p.Warrant,iv p.Payee,iv p.Amount,iv p.Due,iv p.Sub]]⟩,some ⟨32,3,[[.nil,.nil,.nil]]⟩]:=⟨_,rfl⟩
 refine az I (l.length) (by rw[hN];rfl) ?_ ?_
 ·rw[hI]
  exact⟨0,by omega,by omega,by simp,rfl,rfl,rfl,rfl,rfl⟩
 intro m s hs'
 rw[hI]at hs'
 obtain⟨k,hk,hm,hi,t2,t3,t4,t5,hH⟩:=hs'
 simp -dsimp -implicitDefEqProofs [-getElem?_pos,go_sem,hP]
 refine aq (fun _=>true) [] hP (by kernel_rfl) (by kernel_rfl) ?_
 have ag:∀X:ah,X=s.H→Agree (fun _=>true) s.H X:=fun X e i _=>by rw[e]
 by_cases c:k<l.length
 ·obtain⟨x,hx⟩:=gkE c
  have d:decide ((k:Int)<(l.length:Int))=true:=zC (by omega)
  have ix:=dX x
  have bf:=Am x p
  rw[cPy,cPy]at bf
  rw[cPy]at ix
  rw[dt hx]at hi
  have wk:=ae ((k:Int)+1) (by omega)
  simp -dsimp -implicitDefEqProofs [-getElem?_pos,go_sem,hP,t2,t5,t3,hH,d,c,hx,cPy]
  refine af bf hP Ol (by simpa using⟨ix,ipp⟩) .sc ?_
  cases cb:g7 x p
  rotate_left
  ·rw[A6 cb]at hi
   simp -dsimp -implicitDefEqProofs [-getElem?_pos,go_sem,hP,cb,t5,wk]
   refine⟨ag _ hH.symm,?_⟩
   refine⟨l.length-(k+1),by omega,?_⟩
   rw[hI]
   exact⟨k+1,by omega,rfl,by rw[hi,ce hx];simp,t2,t3,t4,rfl,by simp -dsimp[-getElem?_pos,go_sem,hH]⟩
  ·rw[AP cb,←dt hx]at hi
   simp -dsimp -implicitDefEqProofs [-getElem?_pos,go_sem,hP,cb,t5]
   refine⟨ag _ hH.symm,?_⟩
   refine⟨_,Weaker.refl _,?_⟩
   rw[hInv]
   exact⟨k,hk,hi,t2,t3,t4,t5,by simp -dsimp[-getElem?_pos,go_sem,hH]⟩
 ·have hk:k=l.length:=by omega
  have d:decide ((k:Int)<(l.length:Int))=false:=zA (by omega)
  rw[vG (by omega),EK]at hi
  simp -dsimp -implicitDefEqProofs [-getElem?_pos,go_sem,hP,t2,t5,t3,hH,d,c]
  refine⟨_,Weaker.refl _,?_⟩
  rw[hInv]
  exact⟨k,by omega,by rw[hi,vG (by omega)],t2,t3,t4,t5,by simp -dsimp[-getElem?_pos,go_sem,hH]⟩
set_option maxHeartbeats 1000000 in
theorem Ko (q:TQueue) (p:TPayment) (hf:FitQ q):PFun Tryz.prog none none 152 [.agg q.cells,.agg p.cells] (·= .tup [.agg (dW q p).1.cells,iv (dW q p).2]):=by
 refine ab Tryz.func152 rfl (by simp[Tryz.f152]) (by kernel_rfl) ?_
 intro E hP hr hs hW hN
 have ck:=iE q hf
 have iq:=df q
 have ipp:=dX p
 have ip:=cg q.Waiting
 have i2:=gk q.Known
 have i3:=iV q.Batches
 have ct:=uP q p.Warrant (by have:=hf.k;omega)
 have wt:=uj q p.Warrant (by have:=hf.w;omega)
 have py:=yM p
 have pt:=GF q p hf
 have iqq:=df ⟨ins g7 q.Waiting p,q.Known,q.Batches⟩
 rw[cPy]at py
 rw[cQu]at ck iq wt ct pt
 rw[cPy]at ipp pt
 simp only[aA]at i2 ck iq ct wt pt
 simp -dsimp -implicitDefEqProofs [go_sem,hP,cQu,cPy,aA]
 refine af ck hP tY (by simpa using iq) .sc ?_
 by_cases c1:cH q=0
 rotate_left
 ·have:dW q p=(bU,cH q):=by rw[dW,if_neg c1]
  simp -dsimp -implicitDefEqProofs [go_sem,hP,c1]
  refine dP ?_
  rw[this]
 have hq:=dw.1 c1
 simp -dsimp -implicitDefEqProofs [go_sem,hP,c1]
 refine af py hP D7 (by simpa using ipp) .sc ?_
 cases c2:gx p
 ·have:dW q p=(bU,64):=by rw[dW,if_pos c1,if_neg (by simp[c2])]
  simp -dsimp -implicitDefEqProofs [go_sem,hP,c2]
  refine dP ?_
  rw[this]
 simp -dsimp -implicitDefEqProofs [go_sem,hP,c2]
 refine af ct hP Ib (by simpa[an]using iq) .sc ?_
 by_cases c3:p.Warrant∈q.Known
 rotate_left
 ·have:dW q p=(bU,6):=by rw[dW,if_pos c1,if_pos c2,if_neg c3]
  simp -dsimp -implicitDefEqProofs [go_sem,hP,c2,c3]
  refine dP ?_
  rw[this]
 simp -dsimp -implicitDefEqProofs [go_sem,hP,c2,c3]
 refine af wt hP J9 (by simpa[an]using iq) .sc ?_
 by_cases c4:0≤fF q p.Warrant
 ·have d4:decide (0≤fF q p.Warrant)=true:=zC c4
  have:dW q p=(bU,65):=by rw[dW,if_pos c1,if_pos c2,if_pos c3,if_pos c4]
  simp -dsimp -implicitDefEqProofs [go_sem,hP,d4]
  refine dP ?_
  rw[this]
 have d4:decide (0≤fF q p.Warrant)=false:=zA c4
 by_cases c5:q.Waiting.length=100
 ·have d5:decide ((q.Waiting.length:Int)=100)=true:=zC (by omega)
  have:dW q p=(bU,3):=by rw[dW,if_pos c1,if_pos c2,if_pos c3,if_neg c4,if_pos c5]
  simp -dsimp -implicitDefEqProofs [go_sem,hP,d4,d5]
  refine dP ?_
  rw[this]
 have d5:decide ((q.Waiting.length:Int)=100)=false:=zA (by omega)
 have hag:dW q p=(⟨ins g7 q.Waiting p,q.Known,q.Batches⟩,0):=by rw[dW,if_pos c1,if_pos c2,if_pos c3,if_neg c4,if_neg c5]
 rw[hag]
 simp -dsimp -implicitDefEqProofs [go_sem,hP,d4,d5]
 refine af pt hP PI (by simp[iq,ipp]) iqq ?_
 simp -dsimp -implicitDefEqProofs [go_sem,hP,cQu,aA]
 rw[cQu]at iqq
 exact aw (aj iqq .sc) rfl
set_option maxHeartbeats 1000000 in
theorem Ns (q:TQueue) (w:Int) (hf:FitQ q):PFun Tryz.prog none none 153 [.agg q.cells,iv w] (·= .tup [.agg (gu q w).1.cells,iv (gu q w).2]):=by
 refine ab Tryz.func153 rfl (by simp[Tryz.f153]) (by kernel_rfl) ?_
 intro E hP hr hs hW hN
 have ck:=iE q hf
 have iq:=df q
 have ip:=cg q.Waiting
 have i2:=gk q.Known
 have i3:=iV q.Batches
 have wt:=uj q w (by have:=hf.w;omega)
 rw[cQu]at ck iq wt
 simp only[aA]at i2 ck iq wt
 simp -dsimp -implicitDefEqProofs [go_sem,hP,cQu,aA]
 refine af ck hP tY (by simpa using iq) .sc ?_
 by_cases c1:cH q=0
 rotate_left
 ·have:gu q w=(bU,cH q):=by rw[gu,if_neg c1]
  simp -dsimp -implicitDefEqProofs [go_sem,hP,c1]
  refine dP ?_
  rw[this]
 have hq:=dw.1 c1
 simp -dsimp -implicitDefEqProofs [go_sem,hP,c1]
 refine af wt hP J9 (by simpa[an]using iq) .sc ?_
 by_cases c2:fF q w<0
 ·have d2:decide (fF q w<0)=true:=zC c2
  have:gu q w=(bU,6):=by rw[gu,if_pos c1,if_pos c2]
  simp -dsimp -implicitDefEqProofs [go_sem,hP,d2]
  refine dP ?_
  rw[this]
 have d2:decide (fF q w<0)=false:=zA c2
 obtain⟨i,p,hi,hip,hpw,hil⟩:=nk c2
 have hdr:gu q w=(⟨q.Waiting.eraseIdx i,q.Known,q.Batches⟩,0):=by rw[gu,if_pos c1,if_neg c2,hi];rfl
 rw[hdr]
 rw[hi]at d2
 have lw:=hq.lw
 have w1:=ae ((i:Int)+1) (by omega)
 obtain⟨K,hK⟩:∃K,K=q.Known:=⟨_,rfl⟩
 obtain⟨bs,hbs⟩:∃bs,bs=q.Batches:=⟨_,rfl⟩
 obtain⟨l,hl⟩:∃l,l=q.Waiting:=⟨_,rfl⟩
 rw[←hK,←hbs,←hl]
 rw[←hl]at hil lw ip
 rw[←hK]at i2
 rw[←hbs]at i3
 simp -dsimp -implicitDefEqProofs [go_sem,hP,hi,d2]
 refine aq (fun i=>decide (i<2)) [12] hP (by kernel_rfl) (by kernel_rfl) ?_
 have D:∀i,decide (i<2)=true→i=0∨i=1:=fun i hi=>by
  simp only[zI]at hi
  omega
 obtain⟨A,hA⟩:∃A,A=l.take i:=⟨_,rfl⟩
 obtain⟨B,hB⟩:∃B,B=l.drop (i+1):=⟨_,rfl⟩
 have lA:A.length=i:=by rw[hA,zY];omega
 have lB:B.length=l.length-(i+1):=by rw[hB,wP]
 have he:l.eraseIdx i=A++B:=by rw[hA,hB];exact List.eraseIdx_eq_take_drop_succ _ _
 have g1:i≤l.length:=by omega
 have g2:(i:Int)+1≤l.length:=by omega
 have g3:(0:Int)≤(i:Int)+1:=by omega
 have g4:((i:Int)+1).toNat=i+1:=by omega
 simp -dsimp -implicitDefEqProofs [-getElem?_pos,go_sem,hP,hi,bL,dL,dD,←hl,w1,g1,g2,g3,g4,gS,jo,←hA,←hB,lA,lB]
 refine⟨by omega,by omega,fun i hi=>?_,by omega,by omega,fun i hi=>?_,?_⟩
 ·rcases D i hi with rfl|rfl<;>rfl
 ·rcases D i hi with rfl|rfl<;>rfl
 refine dO (cs':=(TQueue.mk (l.eraseIdx i) K bs).cells) ?_ rfl
 refine gP (ty:=111) (es:=ao TPayment.cells (l.eraseIdx i)) ?_ (by rw[ar,he,zK];omega) (cg _) (dg i2 (dg i3 .nil))
 simp -dsimp -implicitDefEqProofs [go_sem,he,uc]
set_option maxHeartbeats 1000000 in
theorem Ra (q:TQueue) (p:TPayment) (hf:FitQ q):PFun Tryz.prog none none 144 [.agg q.cells,.agg p.cells] (·= .tup [.agg (j4 q p).1.cells,iv (j4 q p).2]):=by
 refine ee Tryz.func144 rfl (by simp[Tryz.f144]) ?_
 intro E hP hr hs hW hN
 have ck:=iE q hf
 have iq:=df q
 have ipp:=dX p
 have ip:=cg q.Waiting
 have i2:=gk q.Known
 have i3:=iV q.Batches
 have ct:=uP q p.Warrant (by have:=hf.k;omega)
 have py:=yM p
 have pt:cH q=0→_:=fun c=>GF ⟨q.Waiting,ins ltB q.Known p.Warrant,q.Batches⟩ p ⟨hf.w,by have:=(dw.1 c).lk;simp only[p9];omega,hf.b,hf.each⟩
 have iq2:=df ⟨q.Waiting,ins ltB q.Known p.Warrant,q.Batches⟩
 have iqq:=df ⟨ins g7 q.Waiting p,ins ltB q.Known p.Warrant,q.Batches⟩
 rw[cPy]at py
 simp only[cQu,cPy,aA]at ck iq iq2 ct pt ipp iqq i2
 refine aM (by rw[hN];kernel_rfl) ?_
 simp -dsimp -implicitDefEqProofs [-getElem?_pos,go_sem,hP,cQu,cPy,aA]
 refine aM (by rw[hN];kernel_rfl) ?_
 simp -dsimp -implicitDefEqProofs [-getElem?_pos,go_sem,hP]
 refine af ck hP tY (by simpa using iq) .sc ?_
 by_cases c1:cH q=0
 rotate_left
 ·have:j4 q p=(bU,cH q):=by rw[j4,if_neg c1]
  simp -dsimp -implicitDefEqProofs [-getElem?_pos,go_sem,hP,c1]
  refine dP ?_
  rw[this];rfl
 have hq:=dw.1 c1
 have pt:=pt c1
 simp -dsimp -implicitDefEqProofs [-getElem?_pos,go_sem,hP,c1]
 refine aM (by rw[hN];kernel_rfl) ?_
 simp -dsimp -implicitDefEqProofs [-getElem?_pos,go_sem,hP]
 refine af py hP D7 (by simpa using ipp) .sc ?_
 cases c2:gx p
 ·have:j4 q p=(bU,64):=by rw[j4,if_pos c1,if_neg (by simp[c2])]
  simp -dsimp -implicitDefEqProofs [-getElem?_pos,go_sem,hP,c2]
  refine dP ?_
  rw[this];rfl
 simp -dsimp -implicitDefEqProofs [-getElem?_pos,go_sem,hP,c2]
 refine af ct hP Ib (by simpa[an]using iq) .sc ?_
 by_cases c3:p.Warrant∈q.Known
 ·have:j4 q p=(bU,65):=by rw[j4,if_pos c1,if_pos c2,if_pos c3]
  simp -dsimp -implicitDefEqProofs [-getElem?_pos,go_sem,hP,c2,c3]
  refine dP ?_
  rw[this];rfl
 by_cases c4:q.Waiting.length=100
 ·have d4:decide ((q.Waiting.length:Int)=100)=true:=zC (by omega)
  have:j4 q p=(bU,3):=by rw[j4,if_pos c1,if_pos c2,if_neg c3,if_pos (.inl c4)]
  simp -dsimp -implicitDefEqProofs [-getElem?_pos,go_sem,hP,c2,c3,d4]
  refine dP ?_
  rw[this];rfl
 have d4:decide ((q.Waiting.length:Int)=100)=false:=zA (by omega)
 by_cases c5:q.Known.length=200
 ·have d5:decide ((q.Known.length:Int)=200)=true:=zC (by omega)
  have:j4 q p=(bU,3):=by rw[j4,if_pos c1,if_pos c2,if_neg c3,if_pos (.inr c5)]
  simp -dsimp -implicitDefEqProofs [-getElem?_pos,go_sem,hP,c2,c3,d4,d5]
  refine dP ?_
  rw[this];rfl
 have d5:decide ((q.Known.length:Int)=200)=false:=zA (by omega)
 have hadd:j4 q p=(⟨ins g7 q.Waiting p,ins ltB q.Known p.Warrant,q.Batches⟩,0):=by rw[j4,if_pos c1,if_pos c2,if_neg c3,if_neg (by omega)]
 rw[hadd]
 simp -dsimp -implicitDefEqProofs [-getElem?_pos,go_sem,hP,c2,c3,d4,d5]
 refine aM (by rw[hN];kernel_rfl) ?_
 simp -dsimp -implicitDefEqProofs [-getElem?_pos,go_sem,hP]
 obtain⟨l,hl⟩:∃l,l=q.Known:=⟨_,rfl⟩
 obtain⟨W,hWt⟩:∃W,W=q.Waiting:=⟨_,rfl⟩
 obtain⟨bs,hbs⟩:∃bs,bs=q.Batches:=⟨_,rfl⟩
 have lw:l.length≤100000:=by rw[hl];exact hf.k
 simp only[←hl,←hWt,←hbs]at*
 obtain⟨Inv,hInv⟩:∃Inv:St→Prop,Inv=fun s=>∃k:Nat,k≤l.length∧ins ltB l p.Warrant=l.take k++p.Warrant::l.drop k∧s.t 2= .ref 0 0 0∧s.t 3= .ref 1 0 0∧s.t 4= .ref 2 0 0∧s.t 7=iv k∧s.H=[some ⟨32,3,[[aQ W,.list 1 (l.map fun x=>[iv x]),cd bs]]⟩,some ⟨111,5,[[iv p.Warrant,iv p.Payee,iv p.Amount,iv p.Due,iv p.Sub]]⟩,some ⟨32,3,[[.nil,.nil,.nil]]⟩]:=⟨_,rfl⟩
 refine eN Inv (by rw[hN];kernel_rfl) ?_ ?_
 rotate_left
 ·intro s hs'
  rw[hInv]at hs'
  obtain⟨k,hk,hi,t2,t3,t4,t7,hH⟩:=hs'
  refine be _ _ _ (by rw[hN];kernel_rfl) ?_
  simp -dsimp -implicitDefEqProofs [-getElem?_pos,go_sem,hP]
  refine aq (fun i=>decide (i<3)) [15] hP (by kernel_rfl) (by kernel_rfl) ?_
  have D:∀i,decide (i<3)=true→i=0∨i=1∨i=2:=fun i hi=>by
   simp only[zI]at hi
   omega
  obtain⟨A,hA⟩:∃A,A=l.take k:=⟨_,rfl⟩
  obtain⟨B,hB⟩:∃B,B=l.drop k:=⟨_,rfl⟩
  have lA:A.length=k:=by rw[hA,zY];omega
  have lB:B.length=l.length-k:=by rw[hB,wP]
  have eA:(l.map fun x=>[iv x]).take k=A.map fun x=>[iv x]:=by rw[hA,List.map_take]
  have eB:(l.map fun x=>[iv x]).drop k=B.map fun x=>[iv x]:=by rw[hB,List.map_drop]
  rw[←hA,←hB]at hi
  simp -dsimp -implicitDefEqProofs [-getElem?_pos,go_sem,hP,t2,t3,t7,hH,bL,dL,dD,hk,eA,eB,lA,lB]
  refine⟨by omega,by omega,fun i hi=>?_,by omega,by omega,fun i hi=>?_,by omega,by omega,fun i hi=>?_,?_⟩
  ·rcases D i hi with rfl|rfl|rfl<;>rfl
  ·rcases D i hi with rfl|rfl|rfl<;>rfl
  ·rcases D i hi with rfl|rfl|rfl<;>rfl
  have eAB:(A.map fun x=>[iv x])++[iv p.Warrant]::(B.map fun x=>[iv x])=qm (ins ltB l p.Warrant):=by rw[hi];simp[qm]
  have lI:k+1+(l.length-k)=(qm (ins ltB l p.Warrant)).length:=by rw[HE,p9];omega
  rw[eAB]
  generalize hH6:(_::_:ah)=H6
  have b5:H6[5]?=some (some ⟨3,1,qm (ins ltB l p.Warrant)⟩):=by rw[←hH6];rfl
  have b2:H6[2]?=some (some ⟨32,3,[[.nil,.nil,.nil]]⟩):=by rw[←hH6];rfl
  refine mL (pt.lift _ _) hP hW PI (GY (dg ip (gP b5 lI (gk _) (dg i3 .nil))) (aL ipp (aZ.2 trivial))) iqq ?_
  generalize hH7:sv _ H6=H7
  have f2:H7[2]?=some (some ⟨32,3,[[.nil,.nil,.nil]]⟩):=by
   rw[←hH7]
   show (H6.set 5 none)[2]?=_
   rw[zH (by omega),b2]
  have lt2:=(gsI f2)
  simp -dsimp -implicitDefEqProofs [-getElem?_pos,go_sem,hP,t4,f2,lt2]
  exact aw (aj iqq .sc) rfl
 simp -dsimp -implicitDefEqProofs [-getElem?_pos,go_sem,hP]
 obtain⟨I,hI⟩:∃I:Nat→St→Prop,I=fun m s=>∃k:Nat,k≤l.length∧m=l.length-k∧ins ltB l p.Warrant=l.take k++ins ltB (l.drop k) p.Warrant∧s.t 2= .ref 0 0 0∧s.t 3= .ref 1 0 0∧s.t 4= .ref 2 0 0∧s.t 7=iv k∧s.H=[some ⟨32,3,[[aQ W,.list 1 (l.map fun x=>[iv x]),cd bs]]⟩,some ⟨111,5,[[iv p.Warrant,iv p.Payee,iv p.Amount,iv p.Due,iv p.Sub]]⟩,some ⟨32,3,[[.nil,.nil,.nil]]⟩]:=⟨_,rfl⟩
 refine az I (l.length) (by rw[hN];rfl) ?_ ?_
 ·rw[hI]
  exact⟨0,by omega,by omega,by simp,rfl,rfl,rfl,rfl,rfl⟩
 intro m s hs'
 rw[hI]at hs'
 obtain⟨k,hk,hm,hi,t2,t3,t4,t7,hH⟩:=hs'
 simp -dsimp -implicitDefEqProofs [-getElem?_pos,go_sem,hP]
 refine aq (fun _=>true) [] hP (by kernel_rfl) (by kernel_rfl) ?_
 by_cases c:k<l.length
 ·obtain⟨x,hx⟩:=gkE c
  have d:decide ((k:Int)<(l.length:Int))=true:=zC (by omega)
  rw[dt hx]at hi
  have wk:=ae ((k:Int)+1) (by omega)
  by_cases cb:x<p.Warrant
  ·have db:decide (x<p.Warrant)=true:=zC cb
   rw[A6 ((O4 _ _).2 cb)]at hi
   simp -dsimp -implicitDefEqProofs [-getElem?_pos,go_sem,hP,t2,t7,t3,hH,d,c,hx,db,wk]
   refine⟨l.length-(k+1),by omega,?_⟩
   rw[hI]
   exact⟨k+1,by omega,rfl,by rw[hi,ce hx];simp,t2,t3,t4,rfl,by simp -dsimp[-getElem?_pos,go_sem,hH]⟩
  ·have db:decide (x<p.Warrant)=false:=zA cb
   rw[AP (show ltB x p.Warrant=false from db),←dt hx]at hi
   simp -dsimp -implicitDefEqProofs [-getElem?_pos,go_sem,hP,t2,t7,t3,hH,d,c,hx,db]
   refine⟨_,Weaker.refl _,?_⟩
   rw[hInv]
   exact⟨k,hk,hi,t2,t3,t4,t7,by simp -dsimp[-getElem?_pos,go_sem,hH]⟩
 ·have hk:k=l.length:=by omega
  have d:decide ((k:Int)<(l.length:Int))=false:=zA (by omega)
  rw[vG (by omega),EK]at hi
  simp -dsimp -implicitDefEqProofs [-getElem?_pos,go_sem,hP,t2,t7,t3,hH,d,c]
  refine⟨_,Weaker.refl _,?_⟩
  rw[hInv]
  exact⟨k,by omega,by rw[hi,vG (by omega)],t2,t3,t4,t7,by simp -dsimp[-getElem?_pos,go_sem,hH]⟩
open Go.PA
open Go.RowKit
open Go.PA
open Go.RowKit
set_option maxHeartbeats 4000000 in
theorem NO (q:TQueue) (day:Int) (ws:List Int) (hf:FitQ q) (hw:ws.length≤100000):PFun Tryz.prog none none 148 [.agg q.cells,iv day,aA ws] (·= .tup [.agg (cK q day ws).1.cells,.agg (cK q day ws).2.1.cells,iv (cK q day ws).2.2]):=by
 refine ee Tryz.func148 rfl (by simp[Tryz.f148]) ?_
 intro E hP hr hs hW hN
 have ck:=iE q hf
 have iq:=df q
 have ip:=cg q.Waiting
 have i2:=gk q.Known
 have i3:=iV q.Batches
 have iw:=gk ws
 have lb:=hf.b
 have lw:=hf.w
 rw[cQu]at ck iq
 simp only[aA]at i2 ck iq iw
 refine aM (by rw[hN];kernel_rfl) ?_
 simp -dsimp -implicitDefEqProofs [-getElem?_pos,go_sem,hP,cQu,aA]
 refine aM (by rw[hN];kernel_rfl) ?_
 simp -dsimp -implicitDefEqProofs [-getElem?_pos,go_sem,hP]
 refine af ck hP tY (by simpa using iq) .sc ?_
 by_cases c1:cH q=0
 rotate_left
 ·have:cK q day ws=(bU,dU,cH q):=by rw[cK,if_neg c1]
  simp -dsimp -implicitDefEqProofs [-getElem?_pos,go_sem,hP,c1]
  refine cJ ?_
  rw[this];rfl
 have hq:=dw.1 c1
 simp -dsimp -implicitDefEqProofs [-getElem?_pos,go_sem,hP,c1]
 refine aM (by rw[hN];kernel_rfl) ?_
 simp -dsimp -implicitDefEqProofs [-getElem?_pos,go_sem,hP]
 obtain⟨Inv,hInv⟩:∃Inv:St→Prop,Inv=fun s=>iG day=true∧¬day<fU q∧¬ws.length=0∧¬10<ws.length∧¬200≤q.Batches.length∧s.t 1=iv day∧s.t 2= .list 1 (ws.map fun x=>[iv x])∧s.t 3= .ref 0 0 0∧s.t 6= .ref 1 0 0∧s.t 7= .ref 2 0 0∧s.t 10=iv q.Batches.length∧s.H=[some ⟨32,3,[[aQ q.Waiting,.list 1 (q.Known.map fun x=>[iv x]),cd q.Batches]]⟩,some ⟨32,3,[[.nil,.nil,.nil]]⟩,some ⟨161,3,[[iv 0,iv 0,.nil]]⟩]:=⟨_,rfl⟩
 refine eN Inv (by rw[hN];kernel_rfl) ?_ ?_
 rotate_left
 ·intro s hs'
  rw[hInv]at hs'
  obtain⟨c2,c3,c4,c5,c6,t1,t2,t3,t6,t7,t10,hH⟩:=hs'
  have wl:=ae ((q.Batches.length:Int)+1) (by omega)
  have f6:EW q day ws=false→cK q day ws=(bU,dU,6):=fun h=>by rw[cK,if_pos c1,if_pos c2,if_neg c3,if_neg c4,if_neg (by omega),if_neg (by simp[h])]
  refine aM (by rw[hN];kernel_rfl) ?_
  simp -dsimp -implicitDefEqProofs [-getElem?_pos,go_sem,hP,t10,t1,wl,hH]
  obtain⟨Inv1,hInv1⟩:∃Inv:St→Prop,Inv=fun s=>EW q day ws=true∧s.t 1=iv day∧s.t 2= .list 1 (ws.map fun x=>[iv x])∧s.t 3= .ref 0 0 0∧s.t 6= .ref 1 0 0∧s.t 7= .ref 2 0 0∧s.t 11= .ref 3 0 0∧s.H=[some ⟨32,3,[[aQ q.Waiting,.list 1 (q.Known.map fun x=>[iv x]),cd q.Batches]]⟩,some ⟨32,3,[[.nil,.nil,.nil]]⟩,some ⟨161,3,[[iv 0,iv 0,.nil]]⟩,some ⟨161,3,[[iv ((q.Batches.length:Int)+1),iv day,.nil]]⟩]:=⟨_,rfl⟩
  refine eN Inv1 (by rw[hN];kernel_rfl) ?_ ?_
  rotate_left
  ·intro s hs'
   rw[hInv1]at hs'
   obtain⟨hdue,t1,t2,t3,t6,t7,t11,hH⟩:=hs'
   have htk:cK q day ws=(⟨q.Waiting.filter (fun p=>!bT ws p),q.Known,q.Batches++[qW q day ws]⟩,qW q day ws,0):=by rw[cK,if_pos c1,if_pos c2,if_neg c3,if_neg c4,if_neg (by omega),if_pos hdue]
   rw[htk,qW]
   obtain⟨W,hWt⟩:∃W,W=q.Waiting:=⟨_,rfl⟩
   obtain⟨Kn,hKn⟩:∃Kn,Kn=q.Known:=⟨_,rfl⟩
   obtain⟨bs,hbs⟩:∃bs,bs=q.Batches:=⟨_,rfl⟩
   rw[←hWt,←hKn,←hbs]at hH⊢
   rw[←hWt]at lw ip
   rw[←hbs]at lb i3 wl
   rw[←hKn]at i2
   refine aM (by rw[hN];kernel_rfl) ?_
   simp -dsimp -implicitDefEqProofs [-getElem?_pos,go_sem,hP]
   obtain⟨Inv2,hInv2⟩:∃Inv:St→Prop,Inv=fun s=>∃(id:Nat) (ys zs:List TPayment),ys=W.filter (fun p=>!bT ws p)∧zs=W.filter (bT ws)∧4≤id∧s.t 1=iv day∧s.t 3= .ref 0 0 0∧s.t 6= .ref 1 0 0∧s.t 7= .ref 2 0 0∧s.t 11= .ref 3 0 0∧s.t 17= .sref id 0 ys.length∧s.H[0]?=some (some ⟨32,3,[[aQ W,.list 1 (Kn.map fun x=>[iv x]),cd bs]]⟩)∧s.H[1]?=some (some ⟨32,3,[[.nil,.nil,.nil]]⟩)∧s.H[2]?=some (some ⟨161,3,[[iv 0,iv 0,.nil]]⟩)∧s.H[3]?=some (some ⟨161,3,[[iv ((bs.length:Int)+1),iv day,aQ zs]]⟩)∧s.H[id]?=some (some ⟨111,5,ao TPayment.cells ys⟩):=⟨_,rfl⟩
   refine eN Inv2 (by rw[hN];kernel_rfl) ?_ ?_
   rotate_left
   ·intro s hs'
    rw[hInv2]at hs'
    obtain⟨id,ys,zs,hys,hzs,hid,t1,t3,t6,t7,t11,t17,h0,h1,h2,h3,hi⟩:=hs'
    have lt0:=(gsI h0)
    have lt1:=(gsI h1)
    have lt2:=(gsI h2)
    have lt3:=(gsI h3)
    have lti:=(gsI hi)
    refine be _ _ _ (by rw[hN];kernel_rfl) ?_
    simp -dsimp -implicitDefEqProofs [-getElem?_pos,go_sem,hP,t17,t3,h0,lt0]
    refine aq (fun i=>decide (i<4)) [7] hP (by kernel_rfl) (by kernel_rfl) ?_
    have D:∀i,decide (i<4)=true→i<4:=fun i hi=>by simpa using hi
    simp -dsimp -implicitDefEqProofs [-getElem?_pos,go_sem,hP,t3,t11,h3,lt3,lt0]
    refine⟨by omega,by omega,fun i hi=>?_,by omega,by omega,fun i hi=>?_,?_⟩
    ·have:=D i hi
     rw[zD (by simp;omega)]
    ·have:=D i hi
     rw[zD (by simp;omega),zD (by simp;omega)]
    have en:ao TBatch.cells bs++[[iv ((bs.length:Int)+1),iv day,aQ zs]]=ao TBatch.cells (bs++[⟨bs.length+1,day,zs⟩]):=aX TBatch.cells bs ⟨bs.length+1,day,zs⟩
    rw[en]
    generalize hH9:(_++_:ah)=H9
    obtain⟨b',hb'⟩:∃b',b'=s.H.length+1:=⟨_,rfl⟩
    have y0:H9[0]?=some (some ⟨32,3,[[.sref id 0 ys.length,.list 1 (Kn.map fun x=>[iv x]),.sref b' 0 (bs.length+1)]]⟩):=by rw[←hH9,zD (by simp;omega),wK lt0,hb']
    have y1:H9[1]?=s.H[1]?:=by rw[←hH9,zD (by simp;omega),zH (by omega)]
    have y2:H9[2]?=s.H[2]?:=by rw[←hH9,zD (by simp;omega),zH (by omega)]
    have y3:H9[3]?=s.H[3]?:=by rw[←hH9,zD (by simp;omega),zH (by omega)]
    have yi:H9[id]?=s.H[id]?:=by rw[←hH9,zD (by simp;omega),zH (by omega)]
    have yb:H9[b']?=some (some ⟨161,3,ao TBatch.cells (bs++[⟨bs.length+1,day,zs⟩])⟩):=by rw[←hH9,hb',zN (by simp)];simp
    rw[h1]at y1
    rw[h2]at y2
    rw[h3]at y3
    rw[hi]at yi
    clear hH9
    have r0:=(gsI y0)
    have r1:=(gsI y1)
    have r2:=(gsI y2)
    have r3:=(gsI y3)
    refine aq (fun i=>decide (i=0)||decide (i=3)) [] hP (by kernel_rfl) (by kernel_rfl) ?_
    simp -dsimp -implicitDefEqProofs [-getElem?_pos,go_sem,hP,t3,t11,t6,t7,y0,y1,y2,y3,r0,r1,r2,r3]
    refine⟨fun i hi=>?_,fun i hi=>?_,?_⟩
    ·simp only[wZ,zI]at hi
     rw[zH (by omega)]
    ·simp only[wZ,zI]at hi
     rw[zH (by omega)]
    have iB:=D4 ⟨bs.length+1,day,zs⟩
    refine qb (cs':=(TQueue.mk ys Kn (bs++[⟨bs.length+1,day,zs⟩])).cells) (ds':=(TBatch.mk (bs.length+1) day zs).cells) ?_ (yF (bH.1 iB)) (by rw[hys,hzs];rfl)
    refine gP (ty:=111) (es:=ao TPayment.cells ys) ?_ (by rw[ar]) (cg _) (dg i2 (gP (ty:=161) (es:=ao TBatch.cells (bs++[⟨bs.length+1,day,zs⟩])) ?_ (by rw[ar];simp) (iV _) .nil))
    ·rw[zH (by omega),zH (by omega),yi]
    ·rw[zH (by omega),zH (by omega),yb]
   have zne:W.filter (bT ws)≠[]:=fun h=>by
    have:=Dg hq.asc.nd hdue
    rw[←hWt,h]at this
    exact c4 this.symm
   simp -dsimp -implicitDefEqProofs [-getElem?_pos,go_sem,hP,t3,hH]
   refine cV 17 111 5 rfl ?_
   obtain⟨I,hI⟩:∃I:Nat→St→Prop,I=fun m s=>∃(k id:Nat) (x:AV) (ys zs:List TPayment),k≤W.length∧m=W.length-k∧ys=(W.take k).filter (fun p=>!bT ws p)∧zs=(W.take k).filter (bT ws)∧ys.length≤k∧zs.length≤k∧4≤id∧s.t 1=iv day∧s.t 2= .list 1 (ws.map fun x=>[iv x])∧s.t 3= .ref 0 0 0∧s.t 6= .ref 1 0 0∧s.t 7= .ref 2 0 0∧s.t 11= .ref 3 0 0∧s.t 123=aQ W∧s.t 124=iv W.length∧s.t 125=iv k∧s.t 17= .sref id 0 ys.length∧s.H[0]?=some (some ⟨32,3,[[aQ W,.list 1 (Kn.map fun x=>[iv x]),cd bs]]⟩)∧s.H[1]?=some (some ⟨32,3,[[.nil,.nil,.nil]]⟩)∧s.H[2]?=some (some ⟨161,3,[[iv 0,iv 0,.nil]]⟩)∧s.H[3]?=some (some ⟨161,3,[[iv ((bs.length:Int)+1),iv day,x]]⟩)∧s.H[id]?=some (some ⟨111,5,ao TPayment.cells ys⟩)∧((x= .nil∧zs=[])∨∃jd,4≤jd∧jd≠id∧x= .sref jd 0 zs.length∧s.H[jd]?=some (some ⟨111,5,ao TPayment.cells zs⟩)):=⟨_,rfl⟩
   refine az I (W.length) (by rw[hN];rfl) ?_ ?_
   ·rw[hI]
    exact⟨0,4,.nil,[],[],by omega,by omega,by simp,by simp,by simp,by simp,by omega,t1,t2,t3,t6,t7,t11,rfl,rfl,rfl,by simp -dsimp[-getElem?_pos,go_sem,hH],by simp -dsimp[-getElem?_pos,go_sem,hH],by simp -dsimp[-getElem?_pos,go_sem,hH],by simp -dsimp[-getElem?_pos,go_sem,hH],by simp -dsimp[-getElem?_pos,go_sem,hH],by simp -dsimp[-getElem?_pos,go_sem,hH],.inl ⟨rfl,rfl⟩⟩
   clear t1 t2 t3 t6 t7 t11 hH
   intro m s hs'
   rw[hI]at hs'
   obtain⟨k,id,x,ys,zs,hk,hm,hys,hzs,hyl,hzl,hid,t1,t2,t3,t6,t7,t11,t123,t124,t125,t17,h0,h1,h2,h3,hi,hx⟩:=hs'
   have lt0:=(gsI h0)
   have lt3:=(gsI h3)
   have lti:=(gsI hi)
   simp -dsimp -implicitDefEqProofs [-getElem?_pos,go_sem,hP,t124,t125]
   refine aB ?_ ?_<;>intro hh
   rotate_left
   ·have hk:k=W.length:=by simp at hh;omega
    subst hk
    rw[zT]at hys hzs
    rcases hx with⟨rfl,hx⟩|⟨jd,hj4,hji,rfl,hjo⟩
    ·exact absurd (hzs▸hx) zne
    have ltj:=(gsI hjo)
    simp -dsimp -implicitDefEqProofs [-getElem?_pos,go_sem,hP]
    refine⟨_,AO (o:=3) (id:=jd) (r:=0) (c:=2) (ty:=161) (k:=3) (es:=[[iv ((bs.length:Int)+1),iv day,.sref jd 0 zs.length]]) (e:=[iv ((bs.length:Int)+1),iv day,.sref jd 0 zs.length]) (ty':=111) (kk:=5) (fs:=ao TPayment.cells zs) (n:=zs.length) hW h3 (by omega) rfl rfl hjo (by rw[ar]) (cg _) (by omega),?_⟩
    rw[hInv2]
    refine⟨id,ys,zs,hys,hzs,hid,t1,t3,t6,t7,t11,t17,?_,?_,?_,?_,?_⟩
    ·dsimp only
     rw[zH (by omega),zH (by omega),h0]
    ·dsimp only
     rw[zH (by omega),zH (by omega),h1]
    ·dsimp only
     rw[zH (by omega),zH (by omega),h2]
    ·dsimp only
     rw[wK (by simp;omega)]
     rfl
    ·dsimp only
     rw[zH (by omega),zH (by omega),hi]
   have hk:k<W.length:=by simpa using hh
   obtain⟨p,hp⟩:=gkE hk
   have wk:=ae ((k:Int)+1) (by omega)
   have ny:(W.take (k+1)).filter (fun p=>!bT ws p)=if bT ws p then ys else ys++[p]:=by
    rw[ce hp,List.filter_append,←hys]
    cases ht:bT ws p<;>simp[ht]
   have nz:(W.take (k+1)).filter (bT ws)=if bT ws p then zs++[p]else zs:=by
    rw[ce hp,List.filter_append,←hzs]
    cases ht:bT ws p<;>simp[ht]
   simp -dsimp -implicitDefEqProofs [-getElem?_pos,go_sem,hP,t125,t123,hp,cPy,t2]
   generalize hH1:s.H++_=H1
   obtain⟨n,hn⟩:∃n,n=s.H.length:=⟨_,rfl⟩
   have kk:Kept [] s.H H1:=by rw[←hH1];exact bN _ _ _
   have ep:H1[n]?=some (some ⟨111,5,[[iv p.Warrant,iv p.Payee,iv p.Amount,iv p.Due,iv p.Sub]]⟩):=by rw[←hH1,hn];simp
   have e0:=kk _ _ (by simp) h0
   have e1:=kk _ _ (by simp) h1
   have e2:=kk _ _ (by simp) h2
   have e3:=kk _ _ (by simp) h3
   have ei:=kk _ _ (by simp) hi
   have ltp:=(gsI ep)
   have ll1:H1.length=n+1:=by rw[←hH1,hn];simp
   obtain⟨J,hJ⟩:∃I:Nat→St→Prop,I=fun m s=>∃(j:Nat),j≤ws.length∧m=ws.length-j∧s.t 20=bv (decide (p.Warrant∈ws.take j))∧s.t 1=iv day∧s.t 2= .list 1 (ws.map fun x=>[iv x])∧s.t 3= .ref 0 0 0∧s.t 6= .ref 1 0 0∧s.t 7= .ref 2 0 0∧s.t 11= .ref 3 0 0∧s.t 123=aQ W∧s.t 124=iv W.length∧s.t 125=iv k∧s.t 17= .sref id 0 ys.length∧s.t 19= .ref n 0 0∧s.t 129= .list 1 (ws.map fun x=>[iv x])∧s.t 130=iv ws.length∧s.t 131=iv j∧s.H=H1:=⟨_,rfl⟩
   refine az J (ws.length) (by rw[hN];rfl) ?_ ?_
   ·rw[hJ]
    exact⟨0,by omega,by omega,rfl,t1,t2,t3,t6,t7,t11,t123,t124,t125,t17,by simp -dsimp[-getElem?_pos,go_sem,hn],rfl,rfl,rfl,rfl⟩
   clear t1 t2 t3 t6 t7 t11 t123 t124 t125 t17
   intro m s hs'
   rw[hJ]at hs'
   obtain⟨j,hj,hm',t20,t1,t2,t3,t6,t7,t11,t123,t124,t125,t17,t19,t129,t130,t131,hH⟩:=hs'
   simp -dsimp -implicitDefEqProofs [-getElem?_pos,go_sem,hP,t130,t131]
   refine aB ?_ ?_<;>intro hh
   ·have hj:j<ws.length:=by simpa using hh
    obtain⟨w,hw'⟩:∃w,ws[j]?=some w:=⟨_,zF hj⟩
    have wj:=ae ((j:Int)+1) (by omega)
    have em:decide (p.Warrant∈ws.take (j+1))=(decide (p.Warrant∈ws.take j)||decide (w=p.Warrant)):=by
     rw[ce hw']
     by_cases c:p.Warrant∈ws.take j<;>simp[c,eq_comm]
    have fin:∀s':St,s'.t 20=bv (decide (p.Warrant∈ws.take (j+1)))→s'.t 1=s.t 1→s'.t 2=s.t 2→s'.t 3=s.t 3→s'.t 6=s.t 6→s'.t 7=s.t 7→s'.t 11=s.t 11→s'.t 123=s.t 123→s'.t 124=s.t 124→s'.t 125=s.t 125→s'.t 17=s.t 17→s'.t 19=s.t 19→s'.t 129=s.t 129→s'.t 130=s.t 130→s'.t 131=iv ((j:Int)+1)→s'.H=s.H→∃n',n'<m∧J n' s':=fun s' a1 a2 a3 a4 a5 a6 a7 a8 a9 a10 a11 a12 a13 a14 a15 a16=>by
     refine⟨ws.length-(j+1),by omega,?_⟩
     rw[hJ]
     exact⟨j+1,by omega,rfl,a1,by rw[a2,t1],by rw[a3,t2],by rw[a4,t3],by rw[a5,t6],by rw[a6,t7],by rw[a7,t11],by rw[a8,t123],by rw[a9,t124],by rw[a10,t125],by rw[a11,t17],by rw[a12,t19],by rw[a13,t129],by rw[a14,t130],by rw[a15];simp,by rw[a16,hH]⟩
    by_cases c9:p.Warrant∈ws.take j
    ·have d9:decide (p.Warrant∈ws.take j)=true:=zC c9
     rw[d9]at em t20
     simp -dsimp -implicitDefEqProofs [-getElem?_pos,go_sem,hP,t131,t129,hw',t20,wj]
     exact fin _ (by rw[em];simp -dsimp -implicitDefEqProofs [-getElem?_pos,go_sem]) rfl rfl rfl rfl rfl rfl rfl rfl rfl rfl rfl rfl rfl rfl rfl
    ·have d9:decide (p.Warrant∈ws.take j)=false:=zA c9
     rw[d9,Bool.false_or]at em
     rw[d9]at t20
     simp -dsimp -implicitDefEqProofs [-getElem?_pos,go_sem,hP,t131,t129,hw',t20,wj,t19,hH,ep,ltp]
     exact fin _ (by rw[em];simp -dsimp -implicitDefEqProofs [-getElem?_pos,go_sem]) rfl rfl rfl rfl rfl rfl rfl rfl rfl rfl rfl rfl rfl rfl (by simp -dsimp[-getElem?_pos,go_sem,hH])
   have hj:j=ws.length:=by simp at hh;omega
   subst hj
   rw[zT]at t20
   have etk:decide (p.Warrant∈ws)=bT ws p:=rfl
   rw[etk]at t20
   cases ht:bT ws p
   ·rw[ht]at ny nz t20
    have nid:¬id=n:=by omega
    simp -dsimp -implicitDefEqProofs [-getElem?_pos,go_sem,hP,t20,t17,t19,hH,ep,ltp,ei,nid,t125,wk]
    refine⟨by omega,by omega,?_⟩
    refine⟨W.length-(k+1),by omega,?_⟩
    rw[hI]
    refine⟨k+1,n+1,x,ys++[p],zs,by omega,rfl,ny.symm,nz.symm,by simp;omega,by omega,by omega,t1,t2,t3,t6,t7,t11,t123,t124,rfl,by simp -dsimp[-getElem?_pos,go_sem,ll1],?_,?_,?_,?_,?_,?_⟩
    ·dsimp only
     rw[zD (by simp;omega),zH (by omega),e0]
    ·dsimp only
     rw[zD (by simp;omega),zH (by omega),e1]
    ·dsimp only
     rw[zD (by simp;omega),zH (by omega),e2]
    ·dsimp only
     rw[zD (by simp;omega),zH (by omega),e3]
    ·dsimp only
     rw[zN (by simp;omega),←aX]
     simp -dsimp -implicitDefEqProofs [-getElem?_pos,go_sem,ll1,cPy]
    ·rcases hx with hx|⟨jd,hj4,hji,rfl,hjo⟩
     ·exact .inl hx
     ·have hjo':=kk _ _ (by simp) hjo
      have ltj:=(gsI hjo)
      refine .inr ⟨jd,hj4,by omega,rfl,?_⟩
      dsimp only
      rw[zD (by simp;omega),zH (by omega),hjo']
   ·rw[ht]at ny nz t20
    have l3:3<H1.length:=by omega
    have n3:¬n=3:=by omega
    rcases hx with⟨rfl,hx⟩|⟨jd,hj4,hji,rfl,hjo⟩
    ·rw[hx,vY]at nz
     simp -dsimp -implicitDefEqProofs [-getElem?_pos,go_sem,hP,t20,t19,t11,hH,ep,ltp,e3,t125,wk,l3]
     refine⟨W.length-(k+1),by omega,?_⟩
     rw[hI]
     refine⟨k+1,id,.sref (n+1) 0 1,ys,[p],by omega,rfl,ny.symm,nz.symm,by omega,by simp,by omega,t1,t2,t3,t6,t7,t11,t123,t124,rfl,t17,?_,?_,?_,?_,?_,.inr ⟨n+1,by omega,by omega,rfl,?_⟩⟩
     ·dsimp only
      rw[zD (by simp;omega)]
      repeat rw[zH (by omega)]
      exact e0
     ·dsimp only
      rw[zD (by simp;omega)]
      repeat rw[zH (by omega)]
      exact e1
     ·dsimp only
      rw[zD (by simp;omega)]
      repeat rw[zH (by omega)]
      exact e2
     ·dsimp only
      rw[zD (by simp;omega),wK (by omega),ll1]
     ·dsimp only
      rw[zD (by simp;omega)]
      repeat rw[zH (by omega)]
      exact ei
     ·dsimp only
      rw[zN (by simp;omega)]
      show _=some (some (⟨111,5,[p.cells]⟩:AObj))
      simp -dsimp -implicitDefEqProofs [-getElem?_pos,go_sem,ll1,cPy]
    ·have hjo':=kk _ _ (by simp) hjo
     have ltj:=(gsI hjo)
     have ltj1:=(zM.1 hjo').1
     have nj3:¬jd=3:=by omega
     have nj3':¬3=jd:=by omega
     simp -dsimp -implicitDefEqProofs [-getElem?_pos,go_sem,hP,t20,t19,t11,hH,ep,ltp,e3,t125,wk,hjo',ltj1,nj3,nj3',l3]
     refine⟨by omega,by omega,?_⟩
     refine⟨W.length-(k+1),by omega,?_⟩
     rw[hI]
     refine⟨k+1,id,.sref (n+1) 0 (zs.length+1),ys,(zs++[p]),by omega,rfl,ny.symm,nz.symm,by omega,by rw[zK];simp;omega,by omega,t1,t2,t3,t6,t7,t11,t123,t124,rfl,t17,?_,?_,?_,?_,?_,.inr ⟨n+1,by omega,by omega,by rw[zK];rfl,?_⟩⟩
     ·dsimp only
      rw[zD (by simp;omega)]
      repeat rw[zH (by omega)]
      exact e0
     ·dsimp only
      rw[zD (by simp;omega)]
      repeat rw[zH (by omega)]
      exact e1
     ·dsimp only
      rw[zD (by simp;omega)]
      repeat rw[zH (by omega)]
      exact e2
     ·dsimp only
      rw[zD (by simp;omega),wK (by simp;omega),ll1]
     ·dsimp only
      rw[zD (by simp;omega)]
      repeat rw[zH (by omega)]
      exact ei
     ·dsimp only
      rw[zN (by simp;omega)]
      rw[←aX]
      simp -dsimp -implicitDefEqProofs [-getElem?_pos,go_sem,ll1,cPy]
  simp -dsimp -implicitDefEqProofs [-getElem?_pos,go_sem,hP,t2]
  obtain⟨I,hI⟩:∃I:Nat→St→Prop,I=fun m s=>∃(k:Nat),k≤ws.length∧m=ws.length-k∧(ws.take k).Nodup∧(∀w,w∈ws.take k→∃p,p∈q.Waiting∧p.Warrant=w∧p.Due≤day)∧s.t 1=iv day∧s.t 2= .list 1 (ws.map fun x=>[iv x])∧s.t 3= .ref 0 0 0∧s.t 6= .ref 1 0 0∧s.t 7= .ref 2 0 0∧s.t 11= .ref 3 0 0∧s.t 83= .list 1 (ws.map fun x=>[iv x])∧s.t 84=iv ws.length∧s.t 85=iv k∧s.H=[some ⟨32,3,[[aQ q.Waiting,.list 1 (q.Known.map fun x=>[iv x]),cd q.Batches]]⟩,some ⟨32,3,[[.nil,.nil,.nil]]⟩,some ⟨161,3,[[iv 0,iv 0,.nil]]⟩,some ⟨161,3,[[iv ((q.Batches.length:Int)+1),iv day,.nil]]⟩]:=⟨_,rfl⟩
  refine az I (ws.length) (by rw[hN];rfl) ?_ ?_
  ·rw[hI]
   exact⟨0,by omega,by omega,by simp,by simp,t1,t2,t3,t6,t7,rfl,rfl,rfl,rfl,rfl⟩
  clear t1 t2 t3 t6 t7 t10 hH
  intro m s hs'
  rw[hI]at hs'
  obtain⟨k,hk,hm,hnd,hall,t1,t2,t3,t6,t7,t11,t83,t84,t85,hH⟩:=hs'
  simp -dsimp -implicitDefEqProofs [-getElem?_pos,go_sem,hP,t84,t85]
  refine aB ?_ ?_<;>intro hh
  rotate_left
  ·have hk:k=ws.length:=by simp at hh;omega
   subst hk
   rw[zT]at hnd hall
   simp -dsimp -implicitDefEqProofs [-getElem?_pos,go_sem,hP]
   refine⟨_,Weaker.refl _,?_⟩
   rw[hInv1]
   exact⟨mW.2 ⟨hnd,hall⟩,t1,t2,t3,t6,t7,t11,hH⟩
  have hk:k<ws.length:=by simpa using hh
  obtain⟨w,hw'⟩:∃w,ws[k]?=some w:=⟨_,zF hk⟩
  have wk:=ae ((k:Int)+1) (by omega)
  have wt:=uj q w (by omega)
  rw[cQu]at wt
  simp only[aA]at wt
  simp -dsimp -implicitDefEqProofs [-getElem?_pos,go_sem,hP,t85,t83,hw',t3,hH]
  refine af wt hP J9 (by simpa[an]using iq) .sc ?_
  by_cases c7:fF q w<0
  ·have d7:decide (fF q w<0)=true:=zC c7
   have:=f6 (Bool.eq_false_iff.2 fun h=>by
    obtain⟨p,hp,e,_⟩:=(mW.1 h).2 w (zE hw')
    exact rX.1 c7 p hp e)
   simp -dsimp -implicitDefEqProofs [-getElem?_pos,go_sem,hP,d7,t6,t7,hH]
   refine cJ ?_
   rw[this];rfl
  have d7:decide (fF q w<0)=false:=zA c7
  obtain⟨i,p,hi,hip,hpw,hil⟩:=nk c7
  have d7':=d7
  rw[hi]at d7'
  by_cases c8:day<p.Due
  ·have d8:decide (day<p.Due)=true:=zC c8
   have:=f6 (Bool.eq_false_iff.2 fun h=>by
    obtain⟨p',hp',e,hd⟩:=(mW.1 h).2 w (zE hw')
    have:=y9 hq.asc.nd hp' (zE hip) (e.trans hpw.symm)
    subst this
    omega)
   simp -dsimp -implicitDefEqProofs [-getElem?_pos,go_sem,hP,hi,d7',t6,t7,hH,t3,hip,cPy,t1,d8]
   refine cJ ?_
   rw[this];rfl
  have d8:decide (day<p.Due)=false:=zA c8
  obtain⟨T,hT⟩:∃T,T=ws.take k:=⟨_,rfl⟩
  have g1:(ws.map fun x=>[iv x]).take k=T.map fun x=>[iv x]:=by rw[hT,List.map_take]
  have hk':k≤ws.length:=by omega
  have lk:T.length=k:=by rw[hT,zY];omega
  simp -dsimp -implicitDefEqProofs [-getElem?_pos,go_sem,hP,hi,d7',hH,t3,hip,cPy,t1,d8,t2,bL,dL,dD,hk',g1,lk]
  obtain⟨J,hJ⟩:∃I:Nat→St→Prop,I=fun m s=>∃(j:Nat),j≤k∧m=k-j∧(∀x,x∈T.take j→x≠w)∧s.t 1=iv day∧s.t 2= .list 1 (ws.map fun x=>[iv x])∧s.t 3= .ref 0 0 0∧s.t 6= .ref 1 0 0∧s.t 7= .ref 2 0 0∧s.t 11= .ref 3 0 0∧s.t 13=iv w∧s.t 83= .list 1 (ws.map fun x=>[iv x])∧s.t 84=iv ws.length∧s.t 85=iv k∧s.t 109= .list 1 (T.map fun x=>[iv x])∧s.t 110=iv k∧s.t 111=iv j∧s.H=[some ⟨32,3,[[aQ q.Waiting,.list 1 (q.Known.map fun x=>[iv x]),cd q.Batches]]⟩,some ⟨32,3,[[.nil,.nil,.nil]]⟩,some ⟨161,3,[[iv 0,iv 0,.nil]]⟩,some ⟨161,3,[[iv ((q.Batches.length:Int)+1),iv day,.nil]]⟩]:=⟨_,rfl⟩
  refine az J (k) (by rw[hN];rfl) ?_ ?_
  ·rw[hJ]
   exact⟨0,by omega,by omega,by simp,t1,t2,t3,t6,t7,t11,rfl,t83,t84,t85,rfl,by simp -dsimp[-getElem?_pos,go_sem,lk],rfl,by simp -dsimp[-getElem?_pos,go_sem,hH]⟩
  clear t1 t2 t3 t6 t7 t11 t83 t84 t85 hH
  intro m s hs'
  rw[hJ]at hs'
  obtain⟨j,hj,hm,hne,t1,t2,t3,t6,t7,t11,t13,t83,t84,t85,t109,t110,t111,hH⟩:=hs'
  simp -dsimp -implicitDefEqProofs [-getElem?_pos,go_sem,hP,t110,t111]
  refine aB ?_ ?_<;>intro hh
  ·have hj:j<k:=by simpa using hh
   obtain⟨x,hx⟩:∃x,T[j]?=some x:=⟨_,zF (by omega)⟩
   have wj:=ae ((j:Int)+1) (by omega)
   by_cases c9:x=w
   ·have d9:decide (x=w)=true:=zC c9
    have:=f6 (Bool.eq_false_iff.2 fun h=>by
     have hn:=(mW.1 h).1
     have e1:(ws.take (k+1)).Nodup:=hn.sublist (List.take_sublist _ _)
     rw[ce hw',←hT,List.nodup_append]at e1
     exact e1.2.2 x (zE hx) w (by simp) c9)
    simp -dsimp -implicitDefEqProofs [-getElem?_pos,go_sem,hP,t111,t109,hx,t13,d9,c9,t6,t7,hH]
    refine cJ ?_
    rw[this];rfl
   ·have d9:decide (x=w)=false:=zA c9
    simp -dsimp -implicitDefEqProofs [-getElem?_pos,go_sem,hP,t111,t109,hx,t13,d9,c9,wj]
    refine⟨k-(j+1),by omega,?_⟩
    rw[hJ]
    refine⟨j+1,by omega,rfl,?_,t1,t2,t3,t6,t7,t11,t13,t83,t84,t85,t109,t110,rfl,hH⟩
    intro y hy
    rw[ce hx]at hy
    rcases wA.1 hy with hy|hy
    ·exact hne y hy
    ·simp at hy;subst hy;exact c9
  ·have hj:j=k:=by simp at hh;omega
   subst hj
   rw[zQ (by omega)]at hne
   simp -dsimp -implicitDefEqProofs [-getElem?_pos,go_sem,hP,t85,wk]
   refine⟨ws.length-(j+1),by omega,?_⟩
   rw[hI]
   refine⟨j+1,by omega,rfl,?_,?_,t1,t2,t3,t6,t7,t11,t83,t84,rfl,hH⟩
   ·rw[ce hw',←hT,List.nodup_append]
    refine⟨hT▸hnd,by simp,fun a ha b hb=>?_⟩
    simp at hb
    subst hb
    exact hne a ha
   ·intro y hy
    rw[ce hw']at hy
    rcases wA.1 hy with hy|hy
    ·exact hall y hy
    ·simp at hy;subst hy
     exact⟨p,zE hip,hpw,by omega⟩
 have bad66:iG day=false→cK q day ws=(bU,dU,66):=fun c2=>by rw[cK,if_pos c1,if_neg (by simp[c2])]
 by_cases c2a:day<0
 ·have d2:decide (day<0)=true:=zC c2a
  have:=bad66 (by rw[iG,fp (by omega)];rfl)
  simp -dsimp -implicitDefEqProofs [-getElem?_pos,go_sem,hP,d2]
  refine cJ ?_
  rw[this];rfl
 have d2a:decide (day<0)=false:=zA c2a
 by_cases c2b:36000<day
 ·have d2:decide (36000<day)=true:=zC c2b
  have:=bad66 (by rw[iG,fp (by omega)];rfl)
  simp -dsimp -implicitDefEqProofs [-getElem?_pos,go_sem,hP,d2a,d2]
  refine cJ ?_
  rw[this];rfl
 have d2b:decide (36000<day)=false:=zA c2b
 simp -dsimp -implicitDefEqProofs [-getElem?_pos,go_sem,hP,d2a,d2b]
 refine aJ ((kL day).lift _ _) hP Kf (by simp[an]) .sc ?_
 cases c2:iG day
 ·have:=bad66 c2
  simp -dsimp -implicitDefEqProofs [-getElem?_pos,go_sem,hP,c2]
  refine cJ ?_
  rw[this];rfl
 have c7:∀P:Prop,(q.Batches.length=0→day<fU q→False):=fun _ h1 h2=>by
  have:q.Batches=[]:=wF h1
  rw[fU,this]at h2
  simp at h2
  omega
 by_cases c3:day<fU q
 ·have:cK q day ws=(bU,dU,8):=by rw[cK,if_pos c1,if_pos c2,if_pos c3]
  have hpos:¬q.Batches.length=0:=fun h=>c7 True h c3
  obtain⟨b,hlast⟩:∃b,q.Batches.getLast?=some b:=⟨_,List.getLast?_eq_some_getLast (by intro h;simp[h]at hpos)⟩
  have l0:fU q=b.Day:=by rw[fU,hlast]
  have hb:q.Batches[q.Batches.length-1]?=some b:=by rw[←List.getLast?_eq_getElem?];exact hlast
  have d0:decide ((0:Int)<(q.Batches.length:Int))=true:=zC (by omega)
  have w1:IntKind.i64.wrap ((q.Batches.length:Int)-1)=((q.Batches.length-1:Nat):Int):=by rw[ae _ (by omega)];omega
  have d3:decide (day<b.Day)=true:=zC (by omega)
  have hp0:0<q.Batches.length:=by omega
  simp -dsimp -implicitDefEqProofs [-getElem?_pos,go_sem,hP,c2,d0,w1,hb,cBt,d3,hp0]
  refine cJ ?_
  rw[this];rfl
 by_cases c0:q.Batches.length=0
 ·have d0:decide ((0:Int)<(q.Batches.length:Int))=false:=zA (by omega)
  have d0n:decide (0<q.Batches.length)=false:=zA (by omega)
  by_cases c4:ws.length=0
  ·have d4:decide ((ws.length:Int)=0)=true:=zC (by omega)
   have:cK q day ws=(bU,dU,10):=by rw[cK,if_pos c1,if_pos c2,if_neg c3,if_pos c4]
   simp -dsimp -implicitDefEqProofs [-getElem?_pos,go_sem,hP,c2,d0,d0n,d4,c4]
   refine cJ ?_
   rw[this];rfl
  have d4:decide ((ws.length:Int)=0)=false:=zA (by omega)
  by_cases c5:10<ws.length
  ·have d5:decide ((10:Int)<(ws.length:Int))=true:=zC (by omega)
   have:cK q day ws=(bU,dU,3):=by rw[cK,if_pos c1,if_pos c2,if_neg c3,if_neg c4,if_pos (.inl c5)]
   simp -dsimp -implicitDefEqProofs [-getElem?_pos,go_sem,hP,c2,d0,d0n,d4,c4,d5]
   refine cJ ?_
   rw[this];rfl
  have d5:decide ((10:Int)<(ws.length:Int))=false:=zA (by omega)
  by_cases c6:200≤q.Batches.length
  ·have d6:decide ((200:Int)≤(q.Batches.length:Int))=true:=zC (by omega)
   have:cK q day ws=(bU,dU,3):=by rw[cK,if_pos c1,if_pos c2,if_neg c3,if_neg c4,if_pos (.inr c6)]
   simp -dsimp -implicitDefEqProofs [-getElem?_pos,go_sem,hP,c2,d0,d0n,d4,c4,d5,d6]
   refine cJ ?_
   rw[this];rfl
  have d6:decide ((200:Int)≤(q.Batches.length:Int))=false:=zA (by omega)
  simp -dsimp -implicitDefEqProofs [-getElem?_pos,go_sem,hP,c2,d0,d0n,d4,c4,d5,d6]
  refine⟨_,Weaker.refl _,?_⟩
  rw[hInv]
  exact⟨c2,c3,c4,c5,c6,rfl,rfl,rfl,rfl,rfl,rfl,rfl⟩
 ·obtain⟨b,hlast⟩:∃b,q.Batches.getLast?=some b:=⟨_,List.getLast?_eq_some_getLast (by intro h;simp[h]at c0)⟩
  have l0:fU q=b.Day:=by rw[fU,hlast]
  have hb:q.Batches[q.Batches.length-1]?=some b:=by rw[←List.getLast?_eq_getElem?];exact hlast
  have d0:decide ((0:Int)<(q.Batches.length:Int))=true:=zC (by omega)
  have w1:IntKind.i64.wrap ((q.Batches.length:Int)-1)=((q.Batches.length-1:Nat):Int):=by rw[ae _ (by omega)];omega
  have d3:decide (day<b.Day)=false:=zA (by omega)
  have hp0:0<q.Batches.length:=by omega
  by_cases c4:ws.length=0
  ·have d4:decide ((ws.length:Int)=0)=true:=zC (by omega)
   have:cK q day ws=(bU,dU,10):=by rw[cK,if_pos c1,if_pos c2,if_neg c3,if_pos c4]
   simp -dsimp -implicitDefEqProofs [-getElem?_pos,go_sem,hP,c2,d0,w1,hb,cBt,d3,hp0,d4,c4]
   refine cJ ?_
   rw[this];rfl
  have d4:decide ((ws.length:Int)=0)=false:=zA (by omega)
  by_cases c5:10<ws.length
  ·have d5:decide ((10:Int)<(ws.length:Int))=true:=zC (by omega)
   have:cK q day ws=(bU,dU,3):=by rw[cK,if_pos c1,if_pos c2,if_neg c3,if_neg c4,if_pos (.inl c5)]
   simp -dsimp -implicitDefEqProofs [-getElem?_pos,go_sem,hP,c2,d0,w1,hb,cBt,d3,hp0,d4,c4,d5]
   refine cJ ?_
   rw[this];rfl
  have d5:decide ((10:Int)<(ws.length:Int))=false:=zA (by omega)
  by_cases c6:200≤q.Batches.length
  ·have d6:decide ((200:Int)≤(q.Batches.length:Int))=true:=zC (by omega)
   have:cK q day ws=(bU,dU,3):=by rw[cK,if_pos c1,if_pos c2,if_neg c3,if_neg c4,if_pos (.inr c6)]
   simp -dsimp -implicitDefEqProofs [-getElem?_pos,go_sem,hP,c2,d0,w1,hb,cBt,d3,hp0,d4,c4,d5,d6]
   refine cJ ?_
   rw[this];rfl
  have d6:decide ((200:Int)≤(q.Batches.length:Int))=false:=zA (by omega)
  simp -dsimp -implicitDefEqProofs [-getElem?_pos,go_sem,hP,c2,d0,w1,hb,cBt,d3,hp0,d4,c4,d5,d6]
  refine⟨_,Weaker.refl _,?_⟩
  rw[hInv]
  exact⟨c2,c3,c4,c5,c6,rfl,rfl,rfl,rfl,rfl,rfl,rfl⟩
end Go.Proofs.YtfbogibogkbhmaaGreatDoor
namespace Go.PA
open Go.RowKit
theorem ti {P:Program} {row src:Option Nat} {f:FuncId} {args:List AV} {C:AV→ah→Prop} {Q:AV→Prop} (h:MFun P row src f args [] C)
  (hC:∀r H',C r H'→∃x,Weak (dR H' r) x∧Imm (dR H' r)∧Imm x∧Q x):PFun P row src f args Q:=by
 intro w ok vs h1 h2 h3 h4
 let E:Env:={P:=P,w0:=w,okA:=ok,row:=row,src:=src,N:=0,W:=fun _=>False,ρ0:=fun _=>none,H0:=[]}
 have g:Good E w (fun _=>none) [] ok:=⟨rfl,rfl,rfl,zZ _,fun _ _ _ _=>rfl,h2,fun b hb=>⟨(h1 b hb).1,(h1 b hb).2,.inl hb⟩,by simp,by simp,by simp,by simp⟩
 refine ((h E rfl rfl rfl).2 w (fun _=>none) ok vs g h3 h4).mono ?_
 rintro e w' ⟨v,r,H',ρ,ok',rfl,hc,g',_,hrep⟩
 obtain⟨x,hwk,hi,hix,hx⟩:=hC r H' hc
 refine⟨v,x,rfl,hx,hix,?_,⟨g'.os,g'.tape,g'.output,g'.size,fun k hk hne=>g'.blk k hk (fun h=>h) hne⟩,?_⟩
 ·refine Rep.weak hwk ((AG g' hrep hi).imm (fun b hb=>?_) hi)
  rcases hb with hb|⟨_,_,_,ho,hρ⟩
  ·obtain⟨b1,_,b3⟩:=g'.oks b hb
   exact b3.imp id fun h=>⟨h,b1⟩
  ·have hobj:=g'.obj _ _ ho
   rw[hρ]at hobj
   obtain⟨_,_,b3⟩:=g'.own _ _ b _ ho hρ
   exact .inr ⟨b3.resolve_left (fun h=>h),hobj.lt⟩
 ·refine⟨⟨h2.1.1,h2.1.2.at g'.inv.1.2⟩,fun p hp=>?_⟩
  exact g'.inv.2 p hp
end Go.PA
namespace Go.Proofs.YtfbogibogkbhmaaGreatDoor
open Go.PA
open Go.RowKit
theorem cQn (q:TQueue):q.cells=[aQ q.Waiting,eQ q.Known,cd q.Batches]:=rfl
theorem cDn (d:TDesk):d.cells=[iv d.Account.Credit,bw d.Account.Subs,cU d.Account.Entries,aQ d.Queue.Waiting,eQ d.Queue.Known,cd d.Queue.Batches,fg d.Items]:=rfl
theorem Ej (a b:List Int) (ha:a.length≤100000) (hb:b.length≤100000):
  PFun Tryz.prog none none 115 [.list 1 (ao eE a),.list 1 (ao eE b)] (·=bv (decide (a=b))):=by
 refine ab Tryz.func115 rfl (by simp[Tryz.f115]) (by kernel_rfl) ?_
 intro E hP hr hs hW hN
 by_cases hlen:a.length=b.length
 rotate_left
 ·have hne:¬a=b:=fun h=>hlen (by rw[h])
  have hl:decide ((a.length:Int)=(b.length:Int))=false:=by simp;omega
  simp -dsimp -implicitDefEqProofs [-getElem?_pos,go_sem,hP,hl,hne]
 have hl:decide ((a.length:Int)=(b.length:Int))=true:=by simp;omega
 simp -dsimp -implicitDefEqProofs [-getElem?_pos,go_sem,hP,hl]
 obtain⟨I,hI⟩:∃I:Nat→St→Prop,I=fun m s=>∃k:Nat,k≤a.length∧m=a.length-k∧s.t 0= .list 1 (ao eE a)∧s.t 1= .list 1 (ao eE b)∧s.t 12=iv a.length∧s.t 13=iv k∧a.take k=b.take k:=⟨_,rfl⟩
 refine az I (a.length) (by rw[hN];rfl) ?_ ?_
 ·rw[hI]
  exact⟨0,by omega,by omega,rfl,rfl,rfl,rfl,by simp⟩
 intro m s hs'
 rw[hI]at hs'
 obtain⟨k,hk,hm,t0,t1,t12,t13,heq⟩:=hs'
 simp -dsimp -implicitDefEqProofs [go_sem,hP,t12,t13]
 refine aB ?_ ?_<;>intro h
 ·have hk:k<a.length:=by simpa using h
  obtain⟨x,hx⟩:=gkE hk
  obtain⟨y,hy⟩:∃y,b[k]?=some y:=⟨_,zF (by omega)⟩
  have wk:=ae ((k:Int)+1) (by omega)
  have tx:a.take (k+1)=a.take k++[x]:=by rw[wJ,hx];rfl
  have ty:b.take (k+1)=b.take k++[y]:=by rw[wJ,hy];rfl
  simp -dsimp -implicitDefEqProofs [go_sem,hP,t13]
  refine aq (fun _=>true) [] hP (by kernel_rfl) (by kernel_rfl) ?_
  by_cases hxy:x=y
  ·subst hxy
   simp -dsimp -implicitDefEqProofs [go_sem,hP,t0,t1,hx,hy,eE,t13,wk]
   refine⟨a.length-(k+1),by omega,?_⟩
   rw[hI]
   exact⟨k+1,by omega,rfl,t0,t1,t12,rfl,by rw[tx,ty,heq]⟩
  ·have hne:¬a=b:=fun h=>by
    subst h
    rw[hx]at hy
    exact hxy (wT hy)
   have dxy:decide (x=y)=false:=zA hxy
   simp -dsimp -implicitDefEqProofs [go_sem,hP,t0,t1,hx,hy,eE,t13,wk,dxy,hne]
 ·have hk:k=a.length:=by simp at h;omega
  subst hk
  rw[zT]at heq
  rw[hlen,zT]at heq
  simp -dsimp -implicitDefEqProofs [go_sem,hP,heq]
theorem G7 (l:List TPayment) (v:TPayment) (hl:l.length≤1000000):PFun Tryz.prog none none 248 [aQ l,.agg v.cells] (·=iv (fD (fun x=>decide (v=x)) l)):=by
 refine ab Tryz.func248 rfl (by simp[Tryz.f248]) (by kernel_rfl) ?_
 intro E hP hr hs hW hN
 simp -dsimp -implicitDefEqProofs [go_sem,hP,cPy]
 obtain⟨I,hI⟩:∃I:Nat→St→Prop,I=fun m s=>∃k:Nat,k≤l.length∧m=l.length-k∧fD (fun x=>decide (v=x)) l=bE (fun x=>decide (v=x)) k (l.drop k)∧s.t 0=aQ l∧s.t 3= .ref 0 0 0∧s.t 7=iv l.length∧s.t 8=iv k∧s.H[0]?=some (some ⟨111,5,[[iv v.Warrant,iv v.Payee,iv v.Amount,iv v.Due,iv v.Sub]]⟩):=⟨_,rfl⟩
 refine az I (l.length) (by rw[hN];rfl) ?_ ?_
 ·rw[hI]
  exact⟨0,by omega,by omega,by simp[fD],rfl,rfl,rfl,rfl,rfl⟩
 intro m s hs'
 rw[hI]at hs'
 obtain⟨k,hk,hm,hi,t0,t3,t7,t8,h0⟩:=hs'
 have lt0:=(gsI h0)
 simp -dsimp -implicitDefEqProofs [go_sem,hP,t7,t8]
 refine aB ?_ ?_<;>intro h
 ·have hk:k<l.length:=by simpa using h
  obtain⟨a,ha⟩:=gkE hk
  have wk:=ae ((k:Int)+1) (by omega)
  rw[dt ha]at hi
  simp only[bE]at hi
  simp -dsimp -implicitDefEqProofs [go_sem,hP,t8]
  refine aq (fun _=>true) [] hP (by kernel_rfl) (by kernel_rfl) ?_
  by_cases hp:v=a
  ·subst hp
   rw[if_pos (by simp)]at hi
   simp -dsimp -implicitDefEqProofs [-getElem?_pos,go_sem,hP,t8,t3,t0,ha,h0,lt0,cPy]
   exact hi.symm
  ·rw[if_neg (by simpa using hp)]at hi
   simp -dsimp -implicitDefEqProofs [-getElem?_pos,go_sem,hP,t8,t3,t0,ha,h0,lt0,cPy,wk]
   refine aB ?_ ?_<;>intro h
   ·exact absurd (by cases v;cases a;simp at h;simp[h]) hp
   ·simp -dsimp -implicitDefEqProofs [go_sem,hP,t8,wk]
    refine⟨l.length-(k+1),by omega,?_⟩
    rw[hI]
    exact⟨k+1,by omega,rfl,hi,t0,t3,t7,rfl,h0⟩
 ·have hk:k=l.length:=by simp at h;omega
  subst hk
  rw[wG]at hi
  simp -dsimp -implicitDefEqProofs [go_sem,hP]
  exact hi.symm
theorem At (l:List TPayment) (v:TPayment) (hl:l.length≤1000000):PFun Tryz.prog none none 175 [aQ l,.agg v.cells] (·=bv (decide (v∈l))):=by
 refine ab Tryz.func175 rfl (by simp[Tryz.f175]) (by kernel_rfl) ?_
 intro E hP hr hs hW hN
 have ix:=G7 l v hl
 have iv':=dX v
 have il:=cg l
 rw[cPy]at ix iv'
 simp -dsimp -implicitDefEqProofs [go_sem,hP,cPy]
 refine af ix hP Vq (by simpa using⟨il,iv'⟩) .sc ?_
 rcases dF (fun x=>decide (v=x)) l with⟨h1,h2⟩|⟨i,a,h1,h2,h3,_⟩
 ·have:decide (v∈l)=false:=zA fun hv=>by simpa using h2 v hv
  simp -dsimp -implicitDefEqProofs [go_sem,hP,h1,this]
 ·have d:decide ((0:Int)≤(i:Int))=true:=zC (by omega)
  have hva:v=a:=by simpa using h2
  have:decide (v∈l)=true:=zC (hva▸zE h1)
  simp -dsimp -implicitDefEqProofs [go_sem,hP,h3,d,this]
open Go.PA
open Go.RowKit
theorem Uz (x:TItem):PFun Tryz.prog none none 252 [.agg x.cells] (·=bv (iu x)):=by
 refine ab Tryz.func252 rfl (by simp[Tryz.f252]) (by kernel_rfl) ?_
 intro E hP hr hs hW hN
 by_cases h1:x.State=2
 ·simp -dsimp -implicitDefEqProofs [go_sem,hP,cIt,h1,iu]
 ·have d1:=zA h1
  simp -dsimp -implicitDefEqProofs [go_sem,hP,cIt,h1,d1,iu]
theorem PU (p:TPayment) (w:Int):PFun Tryz.prog none none 251 [.agg p.cells,.iref [iv w]] (·=bv (dJ w p)):=by
 refine ab Tryz.func251 rfl (by simp[Tryz.f251]) (by kernel_rfl) ?_
 intro E hP hr hs hW hN
 simp -dsimp -implicitDefEqProofs [go_sem,hP,cPy,dJ]
theorem Te (q:TQueue) (w:Int) (hf:FitQ q):PFun Tryz.prog none none 178 [.agg q.cells,iv w] (·=iv (AJ q w)):=by
 refine ab Tryz.func178 rfl (by simp[Tryz.f178]) (by kernel_rfl) ?_
 intro E hP hr hs hW hN
 obtain⟨R,hR⟩:∃R,R=AJ q w:=⟨_,rfl⟩
 rw[←hR]
 rw[AJ]at hR
 have lb:=hf.b
 have each:=hf.each
 obtain⟨l,hl⟩:∃l,l=q.Batches:=⟨_,rfl⟩
 rw[←hl]at hR lb each
 simp -dsimp -implicitDefEqProofs [go_sem,hP,cQn,←hl]
 obtain⟨I,hI⟩:∃I:Nat→St→Prop,I=fun m s=>∃k:Nat,k≤l.length∧m=l.length-k∧s.t 3= .ref 1 0 0∧s.t 5=iv ((l.take k).countP fun b=>b.Payments.any (dJ w))∧s.t 9=cd l∧s.t 10=iv l.length∧s.t 11=iv k∧s.H[1]?=some (some ⟨3,1,[[iv w]]⟩):=⟨_,rfl⟩
 refine az I (l.length) (by rw[hN];rfl) ?_ ?_
 ·rw[hI]
  exact⟨0,by omega,by omega,rfl,rfl,rfl,rfl,rfl,rfl⟩
 intro m s hs'
 rw[hI]at hs'
 obtain⟨k,hk,hm,t3,t5,t9,t10,t11,h1⟩:=hs'
 have lt1:=(gsI h1)
 simp -dsimp -implicitDefEqProofs [go_sem,hP,t10,t11]
 refine aB ?_ ?_<;>intro h
 ·have hk:k<l.length:=by simpa using h
  obtain⟨b,hb⟩:=gkE hk
  have wk:=ae ((k:Int)+1) (by omega)
  have hbl:=each b (zE hb)
  have ip:=cg b.Payments
  have g1:∀x:Option AObj,(s.H++[x])[1]?=some (some ⟨3,1,[[iv w]]⟩):=fun x=>by rw[zD lt1];exact h1
  have es:(l.take (k+1)).countP (fun b=>b.Payments.any (dJ w))=(l.take k).countP (fun b=>b.Payments.any (dJ w))+if b.Payments.any (dJ w)=true then 1 else 0:=by rw[ce hb,vP,uF,List.countP_nil,vR]
  have lc:=List.countP_le_length (p:=fun b:TBatch=>b.Payments.any (dJ w)) (l:=l.take k)
  rw[zY]at lc
  generalize (l.take k).countP (fun b=>b.Payments.any (dJ w))=c at es t5 lc
  have wc:=ae ((c:Int)+1) (by omega)
  simp -dsimp -implicitDefEqProofs [go_sem,hP,t9,t11,hb,cBt,t3]
  refine ai (oG b.Payments 251 [.iref [iv w]] (dJ w) (by omega) Vo (by simp[cY,an]) fun p _=>PU p w) hP Pn (aL ip (jO (cs:=[.ref 1 0 0]) (by simp -dsimp[-getElem?_pos,go_sem,ij,g1,lt1,h1]) (by simp[cY,an]) (aZ.2 trivial))) .sc ?_
  cases hc:b.Payments.any (dJ w)
  ·rw[hc]at es
   simp -dsimp -implicitDefEqProofs [go_sem,hP,t5,t11,wk]
   refine⟨l.length-(k+1),by omega,?_⟩
   rw[hI]
   exact⟨k+1,by omega,rfl,t3,by simp -dsimp[go_sem,t5,es],t9,t10,rfl,by simp -dsimp[-getElem?_pos,go_sem,lt1,h1]⟩
  ·rw[hc]at es
   simp -dsimp -implicitDefEqProofs [go_sem,hP,t5,t11,wk,wc]
   refine⟨l.length-(k+1),by omega,?_⟩
   rw[hI]
   exact⟨k+1,by omega,rfl,t3,by simp -dsimp[-getElem?_pos,go_sem,es],t9,t10,rfl,by simp -dsimp[-getElem?_pos,go_sem,lt1,h1]⟩
 ·have hk:k=l.length:=by simp at h;omega
  subst hk
  rw[zT]at t5
  simp -dsimp -implicitDefEqProofs [go_sem,hP,t5,hR]
theorem Ob (a:TAccount) (x:TItem) (he:a.Entries.length≤100000) (hs1:1≤x.Payment.Sub):PFun Tryz.prog none none 179 [.agg a.cells,.agg x.cells] (·=bv (mj a x)):=by
 refine ab Tryz.func179 rfl (by simp[Tryz.f179]) (by kernel_rfl) ?_
 intro E hP hr hs hW hN
 have ix:=eI x
 have ot:=Uz x
 rw[cIt]at ix ot
 obtain⟨R,hR⟩:∃R,R=mj a x:=⟨_,rfl⟩
 rw[←hR]
 rw[mj]at hR
 obtain⟨l,hl⟩:∃l,l=a.Entries:=⟨_,rfl⟩
 rw[←hl]at hR he
 simp -dsimp -implicitDefEqProofs [go_sem,hP,cA,cIt,←hl]
 obtain⟨I,hI⟩:∃I:Nat→St→Prop,I=fun m s=>∃k:Nat,k≤l.length∧m=l.length-k∧(l.take k).all (okE x.Payment)=true∧s.t 3= .ref 1 0 0∧s.t 5=iv ((l.take k).countP (fJ x.Payment))∧s.t 6=iv ((l.take k).countP (inE x.Payment))∧s.t 10=cU l∧s.t 11=iv l.length∧s.t 12=iv k∧s.H[1]?=some (some ⟨195,7,[[iv x.Payment.Warrant,iv x.Payment.Payee,iv x.Payment.Amount,iv x.Payment.Due,iv x.Payment.Sub,iv x.State,iv x.Attempts]]⟩):=⟨_,rfl⟩
 refine az I (l.length) (by rw[hN];rfl) ?_ ?_
 ·rw[hI]
  exact⟨0,by omega,by omega,by simp,rfl,rfl,rfl,rfl,rfl,rfl,rfl⟩
 intro m s hs'
 rw[hI]at hs'
 obtain⟨k,hk,hm,hall,t3,t5,t6,t10,t11,t12,h1⟩:=hs'
 have lt1:=(gsI h1)
 have lo:=List.countP_le_length (p:=fJ x.Payment) (l:=l.take k)
 have li:=List.countP_le_length (p:=inE x.Payment) (l:=l.take k)
 rw[zY]at lo li
 simp -dsimp -implicitDefEqProofs [go_sem,hP,t11,t12]
 refine aB ?_ ?_<;>intro h
 ·have hk:k<l.length:=by simpa using h
  obtain⟨e,hee⟩:=gkE hk
  have wk:=ae ((k:Int)+1) (by omega)
  have g1:∀y:Option AObj,(s.H++[y])[1]?=some (some ⟨195,7,[[iv x.Payment.Warrant,iv x.Payment.Payee,iv x.Payment.Amount,iv x.Payment.Due,iv x.Payment.Sub,iv x.State,iv x.Attempts]]⟩):=fun y=>by rw[zD lt1];exact h1
  have eo:(l.take (k+1)).countP (fJ x.Payment)=(l.take k).countP (fJ x.Payment)+if fJ x.Payment e=true then 1 else 0:=by rw[ce hee,vP,uF,List.countP_nil,vR]
  have ei:(l.take (k+1)).countP (inE x.Payment)=(l.take k).countP (inE x.Payment)+if inE x.Payment e=true then 1 else 0:=by rw[ce hee,vP,uF,List.countP_nil,vR]
  have ea:(l.take (k+1)).all (okE x.Payment)=okE x.Payment e:=by rw[ce hee,List.all_append,hall];simp
  generalize (l.take k).countP (fJ x.Payment)=co at eo t5 lo
  generalize (l.take k).countP (inE x.Payment)=ci at ei t6 li
  have wo:=ae ((co:Int)+1) (by omega)
  have wi:=ae ((ci:Int)+1) (by omega)
  have fin:∀s':St,okE x.Payment e=true→s'.t 3= .ref 1 0 0→s'.t 5=iv ((l.take (k+1)).countP (fJ x.Payment))→s'.t 6=iv ((l.take (k+1)).countP (inE x.Payment))→s'.t 10=cU l→s'.t 11=iv l.length→s'.t 12=iv (k+1)→s'.H[1]?=some (some ⟨195,7,[[iv x.Payment.Warrant,iv x.Payment.Payee,iv x.Payment.Amount,iv x.Payment.Due,iv x.Payment.Sub,iv x.State,iv x.Attempts]]⟩)→∃m',m'<m∧I m' s':=fun s' a1 a2 a3 a4 a5 a6 a7 a8=>by
   refine⟨l.length-(k+1),by omega,?_⟩
   rw[hI]
   exact⟨k+1,by omega,rfl,by rw[ea];exact a1,a2,a3,a4,a5,a6,a7,a8⟩
  have bad:okE x.Payment e=false→R=false:=fun h=>by
   rw[hR,Bool.and_eq_false_iff]
   refine .inl (List.all_eq_false.2 ⟨e,zE hee,by simp[h]⟩)
  by_cases c1:e.Ref=x.Payment.Warrant
  rotate_left
  ·have d1:=zA c1
   rw[show fJ x.Payment e=false by simp[fJ,d1],if_neg (by simp)]at eo
   rw[show inE x.Payment e=false by simp[inE,d1],if_neg (by simp)]at ei
   simp -dsimp -implicitDefEqProofs [-getElem?_pos,go_sem,hP,t10,t12,hee,cE,t3,g1,lt1,h1,c1,d1,wk]
   exact fin _ (by simp[okE,d1]) t3 (by simp -dsimp[go_sem,t5,eo]) (by simp -dsimp[go_sem,t6,ei]) t10 t11 rfl (by simp -dsimp[-getElem?_pos,go_sem,lt1,h1])
  have d1:decide (e.Ref=x.Payment.Warrant)=true:=zC c1
  have bool1:∀a b c d f:Bool,(a&&(b&&c))=false→(d&&(f&&c))=false→(!true||(c&&(a&&b||d&&f)))=false:=by decide
  simp -dsimp -implicitDefEqProofs [-getElem?_pos,go_sem,hP,t10,t12,hee,cE,t3,g1,lt1,h1,c1]
  refine aB ?_ ?_<;>intro q1
  ·simp only[zG,zI]at q1
   obtain⟨q1,q2,q3⟩:=q1
   rw[show fJ x.Payment e=true by simp[fJ,c1,q1,q2],if_pos rfl]at eo
   rw[show inE x.Payment e=false by simp[inE,c1,q1];omega,if_neg (by simp)]at ei
   simp -dsimp -implicitDefEqProofs [go_sem,hP,t5,t12,wo,wk]
   exact fin _ (by simp[okE,d1,q1,q2,q3]) t3 (by simp -dsimp[-getElem?_pos,go_sem,eo]) (by simp -dsimp[go_sem,t6,ei]) t10 t11 rfl (by simp -dsimp[-getElem?_pos,go_sem,lt1,h1])
  simp -dsimp -implicitDefEqProofs [-getElem?_pos,go_sem,hP,t3,g1,lt1,h1]
  refine aB ?_ ?_<;>intro q5
  ·simp only[zG,zI]at q5
   obtain⟨q5,q6,q7⟩:=q5
   rw[show fJ x.Payment e=false by simp[fJ,c1,q5];omega,if_neg (by simp)]at eo
   rw[show inE x.Payment e=true by simp[inE,c1,q5,q6],if_pos rfl]at ei
   simp -dsimp -implicitDefEqProofs [go_sem,hP,t6,t12,wi,wk]
   exact fin _ (by simp[okE,d1,q5,q6,q7]) t3 (by simp -dsimp[go_sem,t5,eo]) (by simp -dsimp[-getElem?_pos,go_sem,ei]) t10 t11 rfl (by simp -dsimp[-getElem?_pos,go_sem,lt1,h1])
  have:=bad (by rw[okE,d1];exact bool1 _ _ _ _ _ q1 q5)
  simp -dsimp -implicitDefEqProofs [go_sem,hP,this]
 ·have hk:k=l.length:=by simp at h;omega
  subst hk
  rw[zT]at t5 t6 hall lo li
  rw[hall,zP]at hR
  generalize l.countP (fJ x.Payment)=co at hR t5 lo
  generalize l.countP (inE x.Payment)=ci at hR t6 li
  have wi:=ae ((ci:Int)+1) (by omega)
  simp -dsimp -implicitDefEqProofs [-getElem?_pos,go_sem,hP,t3,h1,lt1]
  refine af ot hP Uj (by simpa using ix) .sc ?_
  cases hg:iu x
  ·rw[show dZ x=0 by simp[dZ,hg]]at hR
   by_cases c2:(co:Int)=x.Attempts
   ·have d2:=zC c2
    rw[d2,zP]at hR
    simp -dsimp -implicitDefEqProofs [-getElem?_pos,go_sem,hP,hg,t5,t6,t3,h1,lt1,d2,hR,c2]
   ·have d2:=zA c2
    rw[d2,zJ]at hR
    simp -dsimp -implicitDefEqProofs [-getElem?_pos,go_sem,hP,hg,t5,t6,t3,h1,lt1,d2,hR,c2]
  ·rw[show dZ x=1 by simp[dZ,hg]]at hR
   by_cases c2:(co:Int)=x.Attempts
   ·have d2:=zC c2
    rw[d2,zP]at hR
    simp -dsimp -implicitDefEqProofs [-getElem?_pos,go_sem,hP,hg,t5,t6,t3,h1,lt1,d2,hR,c2,wi]
   ·have d2:=zA c2
    rw[d2,zJ]at hR
    simp -dsimp -implicitDefEqProofs [-getElem?_pos,go_sem,hP,hg,t5,t6,t3,h1,lt1,d2,hR,c2,wi]
open Go.PA
open Go.RowKit
abbrev jT (d:TDesk):AObj:=⟨35,7,[[iv d.Account.Credit,bw d.Account.Subs,cU d.Account.Entries,aQ d.Queue.Waiting,eQ d.Queue.Known,cd d.Queue.Batches,fg d.Items]]⟩
abbrev P8 (x:TItem):AObj:=⟨195,7,[[iv x.Payment.Warrant,iv x.Payment.Payee,iv x.Payment.Amount,iv x.Payment.Due,iv x.Payment.Sub,iv x.State,iv x.Attempts]]⟩
set_option maxHeartbeats 2000000 in
theorem O6 (d:TDesk) (x:TItem) (hf:FitD d):PFun Tryz.prog none none 114 [.agg d.cells,.agg x.cells] (·=bv (mq d x)):=by
 refine ee Tryz.func114 rfl (by simp[Tryz.f114]) ?_
 intro E hP hr hs hW hN
 have ix:=eI x
 have ia:=cQ d.Account
 have iq:=df d.Queue
 have ip:=dX x.Payment
 have i1:=cg d.Queue.Waiting
 have bl:=Km d.Account x.Payment.Sub hf.s hf.e
 have py:=KS x.Payment
 have cp:=At d.Queue.Waiting x.Payment (by have:=hf.q.w;omega)
 have sn:=Te d.Queue x.Payment.Warrant hf.q
 have mv:=fun h=>Ob d.Account x hf.e h
 rw[cIt]at ix
 rw[cA]at ia bl
 rw[cPy]at ip py cp
 rw[cQn]at iq sn
 rw[cA,cIt]at mv
 obtain⟨R,hR⟩:∃R,R=mq d x:=⟨_,rfl⟩
 rw[←hR]
 rw[mq]at hR
 refine aM (by rw[hN];kernel_rfl) ?_
 simp -dsimp -implicitDefEqProofs [go_sem,hP,cDn,cIt]
 refine aM (by rw[hN];kernel_rfl) ?_
 simp -dsimp -implicitDefEqProofs [go_sem,hP]
 obtain⟨Inv,hInv⟩:∃Inv:St→Prop,Inv=fun s=>s.t 2= .ref 0 0 0∧s.t 3= .ref 1 0 0∧s.t 5=iv (tL x)∧s.t 6=iv (kK x)∧s.H=[some (jT d),some (P8 x)]:=⟨_,rfl⟩
 refine eN Inv (by rw[hN];kernel_rfl) ?_ ?_
 ·by_cases s1:x.State=1
  ·have e1:tL x=4:=by rw[tL,if_pos s1]
   have e2:kK x=0:=by rw[kK,if_pos s1]
   simp -dsimp -implicitDefEqProofs [go_sem,hP,s1]
   refine⟨_,Weaker.refl _,?_⟩
   rw[hInv]
   exact⟨rfl,rfl,by simp -dsimp[-getElem?_pos,go_sem,e1],by simp -dsimp[-getElem?_pos,go_sem,e2],by simp[s1]⟩
  have d1:=zA s1
  have e1:tL x=5:=by rw[tL,if_neg s1]
  by_cases s5:x.State=5
  ·have e2:kK x=0:=by rw[kK,if_neg s1,if_pos s5]
   simp -dsimp -implicitDefEqProofs [go_sem,hP,s1,d1,s5]
   refine⟨_,Weaker.refl _,?_⟩
   rw[hInv]
   exact⟨rfl,rfl,by simp -dsimp[-getElem?_pos,go_sem,e1],by simp -dsimp[-getElem?_pos,go_sem,e2],by simp[s5]⟩
  ·have d5:=zA s5
   have e2:kK x=1:=by rw[kK,if_neg s1,if_neg s5]
   simp -dsimp -implicitDefEqProofs [go_sem,hP,s1,d1,s5,d5]
   refine⟨_,Weaker.refl _,?_⟩
   rw[hInv]
   exact⟨rfl,rfl,by simp -dsimp[-getElem?_pos,go_sem,e1],by simp -dsimp[-getElem?_pos,go_sem,e2],rfl⟩
 intro s hs'
 rw[hInv]at hs'
 obtain⟨t2,t3,t5,t6,hH⟩:=hs'
 clear hInv Inv
 refine be _ _ _ (by rw[hN];kernel_rfl) ?_
 simp -dsimp -implicitDefEqProofs [go_sem,hP,t2,t3,hH]
 refine af cp hP Ul (by simpa using⟨i1,ip⟩) .sc ?_
 simp -dsimp -implicitDefEqProofs [go_sem,hP,t2,t3,hH]
 refine af bl hP Vg (by simpa[an]using ia) (aj .sc .sc) ?_
 simp -dsimp -implicitDefEqProofs [go_sem,hP,t2,t3,hH]
 refine aq (fun _=>true) [] hP (by kernel_rfl) (by kernel_rfl) ?_
 cases c1:(bF d.Account x.Payment.Sub).2
 ·rw[c1,zJ]at hR
  simp -dsimp -implicitDefEqProofs [go_sem,hP,c1,hR]
 rw[c1,zP]at hR
 simp -dsimp -implicitDefEqProofs [go_sem,hP,t2,t3,hH]
 refine af py hP Oh (by simpa using ip) .sc ?_
 cases c2:gx x.Payment
 ·rw[c2,zJ]at hR
  simp -dsimp -implicitDefEqProofs [go_sem,hP,c2,hR]
 have hsub:=((g8 x.Payment).1 c2).sub.1
 rw[c2,zP]at hR
 simp -dsimp -implicitDefEqProofs [go_sem,hP,t2,t3,hH]
 by_cases c3:1≤x.State
 rotate_left
 ·rw[fp (by omega),zJ]at hR
  have d3:=zA c3
  simp -dsimp -implicitDefEqProofs [go_sem,hP,t2,t3,c3,d3,hR]
 have d3:=zC c3
 by_cases c4:x.State≤5
 rotate_left
 ·rw[fp (by omega),zJ]at hR
  have d4:=zA c4
  simp -dsimp -implicitDefEqProofs [go_sem,hP,t2,t3,d3,d4,hR]
 have d4:=zC c4
 rw[dH.2 ⟨c3,c4⟩,zP]at hR
 by_cases c5:kK x≤x.Attempts
 rotate_left
 ·rw[fp (by omega),zJ]at hR
  have d5:=zA c5
  simp -dsimp -implicitDefEqProofs [go_sem,hP,t2,t3,d3,d4,d5,hR,t5,t6]
 have d5:=zC c5
 by_cases c6:x.Attempts≤tL x
 rotate_left
 ·rw[fp (by omega),zJ]at hR
  have d6:=zA c6
  simp -dsimp -implicitDefEqProofs [go_sem,hP,t2,t3,d3,d4,d5,d6,hR,t5,t6]
 have d6:=zC c6
 rw[dH.2 ⟨c5,c6⟩,zP]at hR
 simp -dsimp -implicitDefEqProofs [go_sem,hP,t2,t3,d3,d4,d5,d6,t5,t6]
 by_cases c7:decide (x.Payment∈d.Queue.Waiting)=decide (x.State=1)
 rotate_left
 ·rw[zA c7,zJ]at hR
  have d7:(decide (x.Payment∈d.Queue.Waiting)==decide (x.State=1))=false:=by rw[beq_eq_false_iff_ne];exact c7
  simp -dsimp -implicitDefEqProofs [go_sem,hP,t2,t3,d7,hR]
 have d7:(decide (x.Payment∈d.Queue.Waiting)==decide (x.State=1))=true:=by rw[beq_iff_eq];exact c7
 rw[zC c7,zP]at hR
 simp -dsimp -implicitDefEqProofs [go_sem,hP,t2,t3,d7]
 refine af sn hP Vh (by simpa[an]using iq) .sc ?_
 by_cases c8:(AJ d.Queue x.Payment.Warrant:Int)=x.Attempts
 rotate_left
 ·rw[zA c8,zJ]at hR
  have d8:=zA c8
  simp -dsimp -implicitDefEqProofs [go_sem,hP,t2,t3,d7,d8,hR]
 have d8:=zC c8
 rw[d8,zP]at hR
 simp -dsimp -implicitDefEqProofs [go_sem,hP,t2,t3,d7,d8]
 refine aJ ((mv hsub).lift _ _) hP Uw (by simpa using⟨ia,ix⟩) .sc ?_
 simp -dsimp -implicitDefEqProofs [go_sem,hP,d7,d8,hR]
theorem Oy {d:TDesk} (hq:QOk d.Queue) (ha:aF d.Account=0):bS d=if N3 d=true then 0 else 68:=by
 rw[bS,if_pos ha,if_pos (dw.2 hq),Pg hq]
theorem qS {l:List TItem} {k:Nat} {x:TItem} (h:l[k]?=some x):(l.take (k+1)).map wrt=(l.take k).map wrt++[wrt x]:=by rw[ce h,List.map_append];rfl
set_option maxHeartbeats 2000000 in
theorem LP (d:TDesk) (hf:FitD d):PFun Tryz.prog none none 45 [.agg d.cells] (·=iv (bS d)):=by
 refine ab Tryz.func45 rfl (by simp[Tryz.f45]) (by kernel_rfl) ?_
 intro E hP hr hs hW hN
 have ia:=cQ d.Account
 have iq:=df d.Queue
 have id':=ba d
 have cka:=yX d.Account hf.s hf.e
 have ckq:=MD d.Queue hf.q
 have rt:=fun x=>O6 d x hf
 rw[cA]at ia cka
 rw[cQn]at iq ckq
 rw[cDn]at id'
 simp only[cDn]at rt
 have li:=hf.i
 have lk:=hf.q.k
 have lw:=hf.q.w
 obtain⟨R,hR⟩:∃R,R=bS d:=⟨_,rfl⟩
 rw[←hR]
 simp -dsimp -implicitDefEqProofs [go_sem,hP,cDn]
 refine af cka hP PY (by simpa using ia) .sc ?_
 by_cases c1:aF d.Account=0
 rotate_left
 ·have:R=aF d.Account:=by rw[hR,bS,if_neg c1]
  simp -dsimp -implicitDefEqProofs [go_sem,hP,c1,this]
 simp -dsimp -implicitDefEqProofs [go_sem,hP,c1]
 refine af ckq hP Vx (by simpa using iq) .sc ?_
 by_cases c2:cH d.Queue=0
 rotate_left
 ·have:R=cH d.Queue:=by rw[hR,bS,if_pos c1,if_neg c2]
  simp -dsimp -implicitDefEqProofs [go_sem,hP,c2,this]
 have hq:=dw.1 c2
 rw[Oy hq c1]at hR
 obtain⟨l,hl⟩:∃l,l=d.Items:=⟨_,rfl⟩
 have hRl:R=if (l.all (mq d)&&(decide (l.map wrt=d.Queue.Known)&&decide (l.countP cz=d.Queue.Waiting.length)))=true then 0 else 68:=by rw[hR,hl];rfl
 clear hR
 rw[←hl]at li
 simp only[←hl]at rt id'
 simp -dsimp -implicitDefEqProofs [go_sem,hP,c2,←hl]
 refine cV 5 3 1 rfl ?_
 obtain⟨I,hI⟩:∃I:Nat→St→Prop,I=fun m s=>∃(k id:Nat),k≤l.length∧m=l.length-k∧(l.take k).all (mq d)=true∧1≤id∧s.t 1= .ref 0 0 0∧s.t 5= .sref id 0 k∧s.t 6=iv ((l.take k).countP cz)∧s.t 22=fg l∧s.t 23=iv l.length∧s.t 24=iv k∧s.H[0]?=some (some ⟨35,7,[[iv d.Account.Credit,bw d.Account.Subs,cU d.Account.Entries,aQ d.Queue.Waiting,eQ d.Queue.Known,cd d.Queue.Batches,fg l]]⟩)∧s.H[id]?=some (some ⟨3,1,ao eE ((l.take k).map wrt)⟩):=⟨_,rfl⟩
 refine az I (l.length) (by rw[hN];rfl) ?_ ?_
 ·rw[hI]
  exact⟨0,1,by omega,by omega,by simp,by omega,rfl,rfl,rfl,rfl,rfl,rfl,rfl,by simp -dsimp[-getElem?_pos,go_sem,ao]⟩
 intro m s hs'
 rw[hI]at hs'
 obtain⟨k,id,hk,hm,hall,hid,t1,t5,t6,t22,t23,t24,h0,hH⟩:=hs'
 have lt0:=(gsI h0)
 have lti:=(gsI hH)
 have lc:=List.countP_le_length (p:=cz) (l:=l.take k)
 rw[zY]at lc
 have lws:(ao eE ((l.take k).map wrt)).length=k:=by rw[ar,wL,zY];omega
 simp -dsimp -implicitDefEqProofs [go_sem,hP,t23,t24]
 refine aB ?_ ?_<;>intro hh
 ·have hk:k<l.length:=by simpa using hh
  obtain⟨x,hx⟩:=gkE hk
  have wk:=ae ((k:Int)+1) (by omega)
  have ix:=eI x
  have rx:=rt x
  rw[cIt]at ix rx
  have g0:∀y:Option AObj,(s.H++[y])[0]?=some (some ⟨35,7,[[iv d.Account.Credit,bw d.Account.Subs,cU d.Account.Entries,aQ d.Queue.Waiting,eQ d.Queue.Known,cd d.Queue.Batches,fg l]]⟩):=fun y=>by rw[zD lt0];exact h0
  have gi:∀y:Option AObj,(s.H++[y])[id]?=some (some ⟨3,1,ao eE ((l.take k).map wrt)⟩):=fun y=>by rw[zD lti];exact hH
  have ec:(l.take (k+1)).countP cz=(l.take k).countP cz+if cz x=true then 1 else 0:=by rw[ce hx,vP,uF,List.countP_nil,vR]
  have ea:(l.take (k+1)).all (mq d)=mq d x:=by rw[ce hx,List.all_append,hall];simp
  have ew:ao eE ((l.take (k+1)).map wrt)=ao eE ((l.take k).map wrt)++[[iv x.Payment.Warrant]]:=by rw[qS hx];exact (aX eE _ _).symm
  generalize (l.take k).countP cz=cq at ec t6 lc
  generalize ao eE ((l.take k).map wrt)=ws at ew hH gi lws
  have wq:=ae ((cq:Int)+1) (by omega)
  simp -dsimp -implicitDefEqProofs [-getElem?_pos,go_sem,hP,t22,t24,hx,cIt,t1,g0,lt0,h0]
  refine af rx hP T9 (by simpa using⟨id',ix⟩) .sc ?_
  have n0:¬id=0:=by omega
  cases hrx:mq d x
  ·have:R=68:=by
    rw[hRl,if_neg]
    rw[zG]
    rintro⟨h1,_⟩
    have:=zS.1 h1 x (zE hx)
    rw[hrx]at this
    cases this
   simp -dsimp -implicitDefEqProofs [go_sem,hP,this]
  rw[hrx]at ea
  have fin:∀s':St,s'.t 1= .ref 0 0 0→s'.t 5= .sref (s.H.length+1) 0 (k+1)→s'.t 6=iv ((l.take (k+1)).countP cz)→s'.t 22=fg l→s'.t 23=iv l.length→s'.t 24=iv (k+1)→s'.H[0]?=some (some ⟨35,7,[[iv d.Account.Credit,bw d.Account.Subs,cU d.Account.Entries,aQ d.Queue.Waiting,eQ d.Queue.Known,cd d.Queue.Batches,fg l]]⟩)→s'.H[s.H.length+1]?=some (some ⟨3,1,ws++[[iv x.Payment.Warrant]]⟩)→∃m',m'<m∧I m' s':=fun s' a1 a2 a3 a4 a5 a6 a7 a8=>by
   refine⟨l.length-(k+1),by omega,?_⟩
   rw[hI]
   exact⟨k+1,s.H.length+1,by omega,rfl,ea,by omega,a1,a2,a3,a4,a5,a6,a7,by rw[ew];exact a8⟩
  by_cases hs:x.State=1
  ·rw[show cz x=true by simp[cz,hs],if_pos rfl]at ec
   simp -dsimp -implicitDefEqProofs [-getElem?_pos,go_sem,hP,hs,t6,wq,t5,gi,hH,lti,lws,t24,wk]
   refine⟨by omega,by omega,?_⟩
   exact fin _ t1 rfl (by simp -dsimp[-getElem?_pos,go_sem,ec]) t22 t23 rfl (by simp -dsimp[-getElem?_pos,go_sem,lt0,h0,n0]) (by simp -dsimp[-getElem?_pos,go_sem])
  ·rw[show cz x=false by simp[cz,hs],if_neg (by simp)]at ec
   have ds:=zA hs
   simp -dsimp -implicitDefEqProofs [-getElem?_pos,go_sem,hP,hs,ds,t5,gi,hH,lti,lws,t24,wk]
   refine⟨by omega,by omega,?_⟩
   exact fin _ t1 rfl (by simp -dsimp[go_sem,t6,ec]) t22 t23 rfl (by simp -dsimp[-getElem?_pos,go_sem,lt0,h0,n0]) (by simp -dsimp[-getElem?_pos,go_sem])
 ·have hk:k=l.length:=by simp at hh;omega
  subst hk
  rw[zT]at t6 hall hH
  rw[hall,zP]at hRl
  have eq:=Ej (l.map wrt) d.Queue.Known (by rw[wL];omega) (by omega)
  simp -dsimp -implicitDefEqProofs [-getElem?_pos,go_sem,hP,t5,t1,h0,lt0]
  refine ai eq hP TX (ez hH (by rw[ar,wL]) (gK _) (aL (gK _) (aZ.2 trivial))) .sc ?_
  by_cases c3:l.map wrt=d.Queue.Known
  rotate_left
  ·have d3:=zA c3
   rw[d3,zJ]at hRl
   simp -dsimp -implicitDefEqProofs [go_sem,hP,d3,hRl]
  have d3:=zC c3
  rw[d3,zP]at hRl
  by_cases c4:l.countP cz=d.Queue.Waiting.length
  ·have d4:decide ((l.countP cz:Int)=(d.Queue.Waiting.length:Int))=true:=zC (by omega)
   rw[zC c4]at hRl
   simp -dsimp -implicitDefEqProofs [-getElem?_pos,go_sem,hP,d3,t1,h0,lt0,t6,d4,hRl]
  ·have d4:decide ((l.countP cz:Int)=(d.Queue.Waiting.length:Int))=false:=zA (by omega)
   rw[zA c4]at hRl
   simp -dsimp -implicitDefEqProofs [-getElem?_pos,go_sem,hP,d3,t1,h0,lt0,t6,d4,hRl]
open Go.PA
open Go.RowKit
open Go.PA
open Go.RowKit
theorem DOk.ks {d:TDesk} (h:DOk d):(d.Items.map wrt).Pairwise (·<·):=by rw[h.k];exact h.q.ks
theorem DOk.nd {d:TDesk} (h:DOk d):(d.Items.map wrt).Nodup:=nW h.ks
theorem yK {l:List TItem} (hn:(l.map wrt).Nodup) {k:Nat} {x:TItem} (hx:l[k]?=some x):sy l x.Payment.Warrant=k:=by
 unfold sy
 rcases dF (fun y:TItem=>decide (y.Payment.Warrant=x.Payment.Warrant)) l with⟨h1,h2⟩|⟨i,a,h1,h2,h3,_⟩
 ·have:=h2 x (zE hx)
  simp at this
 ·have h2:a.Payment.Warrant=x.Payment.Warrant:=by simpa using h2
  have e1:(l.map wrt)[i]?=some x.Payment.Warrant:=by rw[zR,h1];exact congrArg some h2
  have e2:(l.map wrt)[k]?=some x.Payment.Warrant:=by rw[zR,hx];rfl
  have:=(List.getElem?_inj (gsI e1) hn).1 (e1.trans e2.symm)
  rw[h3,this]
theorem uU {l:List TItem} {w:Int} (h:w∉l.map wrt):sy l w= -1:=by
 unfold sy
 rcases dF (fun y:TItem=>decide (y.Payment.Warrant=w)) l with⟨h1,h2⟩|⟨i,a,h1,h2,h3,_⟩
 ·exact h1
 ·have h2:a.Payment.Warrant=w:=by simpa using h2
  exact absurd (zV.2 ⟨a,zE h1,h2⟩) h
theorem xO {d:TDesk} {w st:Int} {f:TDesk→TItem→Done1} (h:¬bS d=0):gq d w st f=(cR,bS d):=by rw[gq,if_neg h]
theorem sU {d:TDesk} {w st:Int} {f:TDesk→TItem→Done1} (h:bS d=0) (hw:w∉d.Items.map wrt):gq d w st f=(cR,6):=by
 rw[gq,if_pos h]
 split
 ·rfl
 ·rw[if_pos (by rw[uU hw];omega)]
theorem r8 {d:TDesk} {st:Int} {f:TDesk→TItem→Done1} (h:bS d=0) {k:Nat} {x:TItem} (hx:d.Items[k]?=some x):gq d x.Payment.Warrant st f=if x.State=st then (if (f d x).e=0 then (⟨(f d x).a,(f d x).q,d.Items.set k (f d x).x⟩,0)else (cR,(f d x).e))else (cR,67):=by
 have hp:=yK (fd.1 h).nd hx
 rw[gq,if_pos h,hp,Int.toNat_natCast,hx]
 simp only
 rw[if_neg (by omega)]
theorem GD {H:ah}:CW H [iv 0,.nil,.nil,.nil,.nil,.nil,.nil] cR.cells:=xA (eS (eS (eS (eS (eS (eS .nil))))))
theorem du {H:ah} {n:Int} {Q:AV→Prop} {b:Bx Q} (h:Q (.tup [.agg cR.cells,iv n])):jh H (.tup [.agg [iv 0,.nil,.nil,.nil,.nil,.nil,.nil],iv n]) Q b:=dO GD h
open Go.PA
open Go.RowKit
theorem kR {α:Type} (f:α→List AV) (l:List α) (i:Nat) (x:α):(ao f l).set i (f x)=ao f (l.set i x):=by
 simp[ao,List.map_set]
open Go.PA
open Go.RowKit
theorem Ph (d:TDesk) (w:Int) (hl:d.Items.length≤1000000):PFun Tryz.prog none none 149 [.agg d.cells,iv w] (·=iv (sy d.Items w)):=by
 refine ab Tryz.func149 rfl (by simp[Tryz.f149]) (by kernel_rfl) ?_
 intro E hP hr hs hW hN
 obtain⟨R,hR⟩:∃R,R=sy d.Items w:=⟨_,rfl⟩
 rw[←hR]
 rw[sy]at hR
 obtain⟨l,hll⟩:∃l,l=d.Items:=⟨_,rfl⟩
 rw[←hll]at hR hl
 simp -dsimp[go_sem,hP,cDn,←hll]
 obtain⟨I,hI⟩:∃I:Nat→St→Prop,I=fun m s=>∃k:Nat,k≤l.length∧m=l.length-k∧R=bE (fun x:TItem=>decide (x.Payment.Warrant=w)) k (l.drop k)∧s.t 1=iv w∧s.t 8=fg l∧s.t 9=iv l.length∧s.t 10=iv k:=⟨_,rfl⟩
 refine az I (l.length) (by rw[hN];rfl) ?_ ?_
 ·rw[hI]
  exact⟨0,by omega,by omega,by rw[hR];rfl,rfl,rfl,rfl,rfl⟩
 intro m s hs'
 rw[hI]at hs'
 obtain⟨k,hk,hm,hq,t1,t8,t9,t10⟩:=hs'
 simp -dsimp[go_sem,hP,t9,t10]
 refine aB ?_ ?_<;>intro h
 ·have hk:k<l.length:=by simpa using h
  obtain⟨a,ha⟩:=gkE hk
  have wk:=ae ((k:Int)+1) (by omega)
  rw[dt ha,bE]at hq
  by_cases c:a.Payment.Warrant=w
  ·rw[if_pos (by simpa using c)]at hq
   simp -dsimp[go_sem,hP,t8,t10,ha,cIt,t1,c,hq]
  ·rw[if_neg (by simpa using c)]at hq
   have d:=zA c
   simp -dsimp[go_sem,hP,t8,t10,ha,cIt,t1,c,d,wk]
   refine⟨l.length-(k+1),by omega,?_⟩
   rw[hI]
   exact⟨k+1,by omega,rfl,hq,t1,t8,t9,rfl⟩
 ·have hk:k=l.length:=by simp at h;omega
  subst hk
  rw[wG,bE]at hq
  simp -dsimp[go_sem,hP,hq]
abbrev KQ:TPayment:=⟨0,0,0,0,0⟩
theorem Gg (q:TQueue) (w:Int) (hl:q.Waiting.length≤1000000):PFun Tryz.prog none none 221 [.agg q.cells,iv w] (·= .tup [.agg ((j7 q w).getD KQ).cells,bv (j7 q w).isSome]):=by
 refine ab Tryz.func221 rfl (by simp[Tryz.f221]) (by kernel_rfl) ?_
 intro E hP hr hs hW hN
 obtain⟨o,ho⟩:∃o,o=j7 q w:=⟨_,rfl⟩
 rw[←ho]
 rw[j7]at ho
 obtain⟨l,hll⟩:∃l,l=q.Waiting:=⟨_,rfl⟩
 rw[←hll]at ho hl
 simp -dsimp[go_sem,hP,cQn,←hll]
 obtain⟨I,hI⟩:∃I:Nat→St→Prop,I=fun m s=>∃k:Nat,k≤l.length∧m=l.length-k∧o=(l.drop k).find? (dJ w)∧s.t 1=iv w∧s.t 4= .ref 1 0 0∧s.t 9=aQ l∧s.t 10=iv l.length∧s.t 11=iv k∧s.H[1]?=some (some ⟨111,5,[[iv 0,iv 0,iv 0,iv 0,iv 0]]⟩):=⟨_,rfl⟩
 refine az I (l.length) (by rw[hN];rfl) ?_ ?_
 ·rw[hI]
  exact⟨0,by omega,by omega,by rw[ho];rfl,rfl,rfl,rfl,rfl,rfl,rfl⟩
 intro m s hs'
 rw[hI]at hs'
 obtain⟨k,hk,hm,hq,t1,t4,t9,t10,t11,h1⟩:=hs'
 have lt1:=(gsI h1)
 simp -dsimp[go_sem,hP,t10,t11]
 refine aB ?_ ?_<;>intro h
 ·have hk:k<l.length:=by simpa using h
  obtain⟨a,ha⟩:=gkE hk
  have wk:=ae ((k:Int)+1) (by omega)
  have g1:∀x:Option AObj,(s.H++[x])[1]?=some (some ⟨111,5,[[iv 0,iv 0,iv 0,iv 0,iv 0]]⟩):=fun x=>by rw[zD lt1];exact h1
  rw[dt ha,List.find?_cons]at hq
  by_cases c:a.Warrant=w
  ·rw[show dJ w a=true by simp[dJ,c]]at hq
   simp only at hq
   simp -dsimp[-getElem?_pos,go_sem,hP,t9,t11,ha,cPy,t1,c,t4,g1,lt1,h1]
   refine aw (aj (dX ⟨w,a.Payee,a.Amount,a.Due,a.Sub⟩) .sc) ?_
   rw[hq,Option.getD_some,cPy,c]
   rfl
  ·rw[show dJ w a=false by simp[dJ,c]]at hq
   simp only at hq
   have d:=zA c
   simp -dsimp[go_sem,hP,t9,t11,ha,cPy,t1,c,d,wk]
   refine⟨l.length-(k+1),by omega,?_⟩
   rw[hI]
   exact⟨k+1,by omega,rfl,hq,t1,t4,t9,t10,rfl,by simp -dsimp[-getElem?_pos,go_sem,lt1,h1]⟩
 ·have hk:k=l.length:=by simp at h;omega
  subst hk
  rw[wG,List.find?_nil]at hq
  simp -dsimp[-getElem?_pos,go_sem,hP,t4,h1,lt1,hq]
  exact aw (aj (dX KQ) .sc) (by rw[hq];rfl)
theorem Hc (q:TQueue) (w:Int) (hf:FitQ q):PFun Tryz.prog none none 222 [.agg q.cells,iv w] (·=iv (oJ q w)):=by
 refine ab Tryz.func222 rfl (by simp[Tryz.f222]) (by kernel_rfl) ?_
 intro E hP hr hs hW hN
 obtain⟨R,hR⟩:∃R,R=oJ q w:=⟨_,rfl⟩
 rw[←hR]
 rw[oJ]at hR
 have lb:=hf.b
 have each:=hf.each
 obtain⟨l,hl⟩:∃l,l=q.Batches:=⟨_,rfl⟩
 rw[←hl]at hR lb each
 simp -dsimp -implicitDefEqProofs [go_sem,hP,cQn,←hl]
 obtain⟨I,hI⟩:∃I:Nat→St→Prop,I=fun m s=>∃(k c:Nat),k≤l.length∧m=l.length-k∧c=((l.take k).map fun b=>b.Payments.countP (dJ w)).sum∧c≤100000*k∧s.t 1=iv w∧s.t 5=iv c∧s.t 11=cd l∧s.t 12=iv l.length∧s.t 13=iv k:=⟨_,rfl⟩
 refine az I (l.length) (by rw[hN];rfl) ?_ ?_
 ·rw[hI]
  exact⟨0,0,by omega,by omega,by simp,by omega,rfl,rfl,rfl,rfl,rfl⟩
 intro m s hs'
 rw[hI]at hs'
 obtain⟨k,c,hk,hm,hc,hcl,t1,t5,t11,t12,t13⟩:=hs'
 simp -dsimp -implicitDefEqProofs [go_sem,hP,t12,t13]
 refine aB ?_ ?_<;>intro h
 ·have hk:k<l.length:=by simpa using h
  obtain⟨b,hb⟩:=gkE hk
  have wk:=ae ((k:Int)+1) (by omega)
  have hbl:=each b (zE hb)
  have es:((l.take (k+1)).map fun b=>b.Payments.countP (dJ w)).sum=((l.take k).map fun b=>b.Payments.countP (dJ w)).sum+b.Payments.countP (dJ w):=by rw[ce hb,List.map_append,List.sum_append];simp
  have lp:=List.countP_le_length (p:=dJ w) (l:=b.Payments)
  obtain⟨P,hPP⟩:∃P,P=b.Payments:=⟨_,rfl⟩
  rw[←hPP]at hbl es lp
  simp -dsimp -implicitDefEqProofs [go_sem,hP,t11,t13,hb,cBt,←hPP]
  obtain⟨J,hJ⟩:∃I:Nat→St→Prop,I=fun m s=>∃(j:Nat),j≤P.length∧m=P.length-j∧s.t 1=iv w∧s.t 5=iv (c+(P.take j).countP (dJ w))∧s.t 11=cd l∧s.t 12=iv l.length∧s.t 13=iv k∧s.t 18=aQ P∧s.t 19=iv P.length∧s.t 20=iv j:=⟨_,rfl⟩
  refine az J (P.length) (by rw[hN];rfl) ?_ ?_
  ·rw[hJ]
   exact⟨0,by omega,by omega,t1,t5,t11,t12,t13,rfl,rfl,rfl⟩
  clear t1 t5 t11 t12 t13
  intro m s hs'
  rw[hJ]at hs'
  obtain⟨j,hj,hm2,t1,t5,t11,t12,t13,t18,t19,t20⟩:=hs'
  simp -dsimp -implicitDefEqProofs [go_sem,hP,t19,t20]
  refine aB ?_ ?_<;>intro h
  ·have hj:j<P.length:=by simpa using h
   obtain⟨p,hp⟩:=gkE hj
   have wj:=ae ((j:Int)+1) (by omega)
   have ej:(P.take (j+1)).countP (dJ w)=(P.take j).countP (dJ w)+if dJ w p=true then 1 else 0:=by rw[ce hp,vP,uF,List.countP_nil,vR]
   have lj:=List.countP_le_length (p:=dJ w) (l:=P.take j)
   rw[zY]at lj
   generalize (P.take j).countP (dJ w)=cj at ej t5 lj
   have wc:=ae ((c:Int)+cj+1) (by omega)
   by_cases e:p.Warrant=w
   ·rw[show dJ w p=true by simp[dJ,e],if_pos rfl]at ej
    have e1:(c:Int)+((P.take (j+1)).countP (dJ w):Nat)=c+cj+1:=by rw[ej];omega
    simp -dsimp -implicitDefEqProofs [go_sem,hP,t18,t20,hp,cPy,t1,e,t5,wc,wj]
    refine⟨P.length-(j+1),by omega,?_⟩
    rw[hJ]
    exact⟨j+1,by omega,rfl,t1,by simp -dsimp[-getElem?_pos,go_sem,e1],t11,t12,t13,t18,t19,rfl⟩
   ·rw[show dJ w p=false by simp[dJ,e],if_neg (by simp)]at ej
    have d:=zA e
    simp -dsimp -implicitDefEqProofs [go_sem,hP,t18,t20,hp,cPy,t1,e,d,wj]
    refine⟨P.length-(j+1),by omega,?_⟩
    rw[hJ]
    exact⟨j+1,by omega,rfl,t1,by simp -dsimp[go_sem,t5,ej],t11,t12,t13,t18,t19,rfl⟩
  ·have hj:j=P.length:=by simp at h;omega
   subst hj
   rw[zT]at t5
   simp -dsimp -implicitDefEqProofs [go_sem,hP,t13,wk]
   refine⟨l.length-(k+1),by omega,?_⟩
   rw[hI]
   exact⟨k+1,c+P.countP (dJ w),by omega,rfl,by rw[es,hc],by omega,t1,t5,t11,t12,rfl⟩
 ·have hk:k=l.length:=by simp at h;omega
  subst hk
  rw[zT]at hc
  simp -dsimp -implicitDefEqProofs [go_sem,hP,t5,hR,hc]
theorem Ho (a:TAccount) (p:TPayment) (he:a.Entries.length≤100000) (hs1:1≤p.Sub):PFun Tryz.prog none none 223 [.agg a.cells,.agg p.cells] (·= .tup [iv (a.Entries.countP (fJ p)),iv (a.Entries.countP (inE p)),bv (a.Entries.all (okE p))]):=by
 refine ab Tryz.func223 rfl (by simp[Tryz.f223]) (by kernel_rfl) ?_
 intro E hP hr hs hW hN
 obtain⟨l,hl⟩:∃l,l=a.Entries:=⟨_,rfl⟩
 rw[←hl]at he
 simp -dsimp -implicitDefEqProofs [go_sem,hP,cA,cPy,←hl]
 obtain⟨I,hI⟩:∃I:Nat→St→Prop,I=fun m s=>∃(k o i:Nat),k≤l.length∧m=l.length-k∧o≤k∧i≤k∧o=(l.take k).countP (fJ p)∧i=(l.take k).countP (inE p)∧s.t 3= .ref 1 0 0∧s.t 7=iv o∧s.t 8=iv i∧s.t 9=bv ((l.take k).all (okE p))∧s.t 13=cU l∧s.t 14=iv l.length∧s.t 15=iv k∧s.H[1]?=some (some ⟨111,5,[[iv p.Warrant,iv p.Payee,iv p.Amount,iv p.Due,iv p.Sub]]⟩):=⟨_,rfl⟩
 refine az I (l.length) (by rw[hN];rfl) ?_ ?_
 ·rw[hI]
  exact⟨0,0,0,by omega,by omega,by omega,by omega,by simp,by simp,rfl,rfl,rfl,rfl,rfl,rfl,rfl,rfl⟩
 intro m s hs'
 rw[hI]at hs'
 obtain⟨k,o,i,hk,hm,lo,li,ho,hi,t3,t7,t8,t9,t13,t14,t15,h1⟩:=hs'
 have lt1:=(gsI h1)
 simp -dsimp -implicitDefEqProofs [go_sem,hP,t14,t15]
 refine aB ?_ ?_<;>intro h
 ·have hk:k<l.length:=by simpa using h
  obtain⟨e,hee⟩:=gkE hk
  have wk:=ae ((k:Int)+1) (by omega)
  have g1:∀y:Option AObj,(s.H++[y])[1]?=some (some ⟨111,5,[[iv p.Warrant,iv p.Payee,iv p.Amount,iv p.Due,iv p.Sub]]⟩):=fun y=>by rw[zD lt1];exact h1
  have eo:(l.take (k+1)).countP (fJ p)=(l.take k).countP (fJ p)+if fJ p e=true then 1 else 0:=by rw[ce hee,vP,uF,List.countP_nil,vR]
  have ei:(l.take (k+1)).countP (inE p)=(l.take k).countP (inE p)+if inE p e=true then 1 else 0:=by rw[ce hee,vP,uF,List.countP_nil,vR]
  have ea:(l.take (k+1)).all (okE p)=((l.take k).all (okE p)&&okE p e):=by rw[ce hee,List.all_append];simp
  rw[←ho]at eo
  rw[←hi]at ei
  generalize (l.take k).all (okE p)=bk at ea t9
  have wo:=ae ((o:Int)+1) (by omega)
  have wi:=ae ((i:Int)+1) (by omega)
  have fin:∀(s':St) (o' i':Nat),o'≤k+1→i'≤k+1→o'=(l.take (k+1)).countP (fJ p)→i'=(l.take (k+1)).countP (inE p)→s'.t 3= .ref 1 0 0→s'.t 7=iv o'→s'.t 8=iv i'→s'.t 9=bv (bk&&okE p e)→s'.t 13=cU l→s'.t 14=iv l.length→s'.t 15=iv (k+1)→s'.H[1]?=some (some ⟨111,5,[[iv p.Warrant,iv p.Payee,iv p.Amount,iv p.Due,iv p.Sub]]⟩)→∃m',m'<m∧I m' s':=fun s' o' i' b1 b2 b3 b4 a1 a2 a3 a4 a5 a6 a7 a8=>by
   refine⟨l.length-(k+1),by omega,?_⟩
   rw[hI]
   exact⟨k+1,o',i',by omega,rfl,b1,b2,b3,b4,a1,a2,a3,by rw[ea];exact a4,a5,a6,a7,a8⟩
  by_cases c1:e.Ref=p.Warrant
  rotate_left
  ·have d1:=zA c1
   have hok:okE p e=true:=by simp[okE,d1]
   rw[show fJ p e=false by simp[fJ,d1],if_neg (by simp)]at eo
   rw[show inE p e=false by simp[inE,d1],if_neg (by simp)]at ei
   simp -dsimp -implicitDefEqProofs [-getElem?_pos,go_sem,hP,t13,t15,hee,cE,t3,g1,lt1,h1,c1,d1,wk]
   exact fin _ o i (by omega) (by omega) (by omega) (by omega) t3 t7 t8 (by simp -dsimp[go_sem,t9,hok]) t13 t14 rfl (by simp -dsimp[-getElem?_pos,go_sem,lt1,h1])
  have d1:decide (e.Ref=p.Warrant)=true:=zC c1
  by_cases c2:e.From=p.Sub
  ·have c3:¬e.From=0:=by omega
   have d3:=zA c3
   by_cases c4:e.To=0
   ·have hok:okE p e=decide (e.Amount=p.Amount):=by simp[okE,c1,c2,c4]
    rw[show fJ p e=true by simp[fJ,c1,c2,c4],if_pos rfl]at eo
    rw[show inE p e=false by simp[inE,c3],if_neg (by simp)]at ei
    cases bk
    ·simp -dsimp -implicitDefEqProofs [-getElem?_pos,go_sem,hP,t13,t15,hee,cE,t3,g1,lt1,h1,c1,c2,c4,t7,t9,wo,wk]
     exact fin _ (o+1) i (by omega) (by omega) (by omega) (by omega) t3 rfl t8 rfl t13 t14 rfl (by simp -dsimp[-getElem?_pos,go_sem,lt1,h1])
    ·simp -dsimp -implicitDefEqProofs [-getElem?_pos,go_sem,hP,t13,t15,hee,cE,t3,g1,lt1,h1,c1,c2,c4,t7,t9,wo,wk]
     exact fin _ (o+1) i (by omega) (by omega) (by omega) (by omega) t3 rfl t8 (by simp -dsimp[-getElem?_pos,go_sem,hok]) t13 t14 rfl (by simp -dsimp[-getElem?_pos,go_sem,lt1,h1])
   ·have d4:=zA c4
    have hok:okE p e=false:=by simp[okE,d1,d3,d4]
    rw[show fJ p e=false by simp[fJ,d4],if_neg (by simp)]at eo
    rw[show inE p e=false by simp[inE,d3],if_neg (by simp)]at ei
    have nz:¬p.Sub=0:=by omega
    simp -dsimp -implicitDefEqProofs [-getElem?_pos,go_sem,hP,t13,t15,hee,cE,t3,g1,lt1,h1,c1,c2,c4,d4,nz,d3,wk]
    exact fin _ o i (by omega) (by omega) (by omega) (by omega) t3 t7 t8 (by simp -dsimp[-getElem?_pos,go_sem,hok]) t13 t14 rfl (by simp -dsimp[-getElem?_pos,go_sem,lt1,h1])
  ·have d2:=zA c2
   rw[show fJ p e=false by simp[fJ,d2],if_neg (by simp)]at eo
   by_cases c3:e.From=0
   ·by_cases c4:e.To=p.Sub
    ·have hok:okE p e=decide (e.Amount=p.Amount):=by simp[okE,d1,c3,c4]
     rw[show inE p e=true by simp[inE,c1,c3,c4],if_pos rfl]at ei
     have d2':decide ((0:Int)=p.Sub)=false:=by rw[←c3];exact d2
     cases bk
     ·simp -dsimp -implicitDefEqProofs [-getElem?_pos,go_sem,hP,t13,t15,hee,cE,t3,g1,lt1,h1,c1,c2,d2,d2',c3,c4,t8,t9,wi,wk]
      exact fin _ o (i+1) (by omega) (by omega) (by omega) (by omega) t3 t7 rfl rfl t13 t14 rfl (by simp -dsimp[-getElem?_pos,go_sem,lt1,h1,c3])
     ·simp -dsimp -implicitDefEqProofs [-getElem?_pos,go_sem,hP,t13,t15,hee,cE,t3,g1,lt1,h1,c1,c2,d2,d2',c3,c4,t8,t9,wi,wk]
      exact fin _ o (i+1) (by omega) (by omega) (by omega) (by omega) t3 t7 rfl (by simp -dsimp[-getElem?_pos,go_sem,hok]) t13 t14 rfl (by simp -dsimp[-getElem?_pos,go_sem,lt1,h1,c3])
    ·have d4:=zA c4
     have hok:okE p e=false:=by simp[okE,d1,d2,d4]
     have d2':decide ((0:Int)=p.Sub)=false:=by rw[←c3];exact d2
     rw[show inE p e=false by simp[inE,d4],if_neg (by simp)]at ei
     simp -dsimp -implicitDefEqProofs [-getElem?_pos,go_sem,hP,t13,t15,hee,cE,t3,g1,lt1,h1,c1,c2,d2,d2',c3,c4,d4,wk]
     exact fin _ o i (by omega) (by omega) (by omega) (by omega) t3 t7 t8 (by simp -dsimp[-getElem?_pos,go_sem,hok]) t13 t14 rfl (by simp -dsimp[-getElem?_pos,go_sem,lt1,h1,c3])
   ·have d3:=zA c3
    have hok:okE p e=false:=by simp[okE,d1,d2,d3]
    rw[show inE p e=false by simp[inE,d3],if_neg (by simp)]at ei
    simp -dsimp -implicitDefEqProofs [-getElem?_pos,go_sem,hP,t13,t15,hee,cE,t3,g1,lt1,h1,c1,c2,d2,c3,d3,wk]
    exact fin _ o i (by omega) (by omega) (by omega) (by omega) t3 t7 t8 (by simp -dsimp[-getElem?_pos,go_sem,hok]) t13 t14 rfl (by simp -dsimp[-getElem?_pos,go_sem,lt1,h1])
 ·have hk:k=l.length:=by simp at h;omega
  subst hk
  rw[zT]at t9 ho hi
  simp -dsimp -implicitDefEqProofs [go_sem,hP,t7,t8,t9]
  exact aw (eF .sc .sc .sc) (by rw[ho,hi,hl])
open Go.PA
open Go.RowKit
theorem Sd {a b:TPayment} (h1:a.Warrant=b.Warrant) (h2:a.Payee=b.Payee) (h3:a.Amount=b.Amount) (h4:a.Due=b.Due) (h5:a.Sub=b.Sub):a=b:=by
 cases a;cases b
 simp only at h1 h2 h3 h4 h5
 simp[h1,h2,h3,h4,h5]
set_option maxHeartbeats 4000000 in
theorem pq (d:TDesk) (hf:FitD d):PFun Tryz.prog none none 143 [.agg d.cells] (·=iv (bS d)):=by
 refine ab Tryz.func143 rfl (by simp[Tryz.f143]) (by kernel_rfl) ?_
 intro E hP hr hs hW hN
 have ia:=cQ d.Account
 have iq:=df d.Queue
 have cka:=nF d.Account hf.s hf.e
 have ckq:=iE d.Queue hf.q
 rw[cA]at ia cka
 rw[cQn]at iq ckq
 have li:=hf.i
 have lk:=hf.q.k
 obtain⟨R,hR⟩:∃R,R=bS d:=⟨_,rfl⟩
 rw[←hR]
 simp -dsimp -implicitDefEqProofs [-getElem?_pos,go_sem,hP,cDn]
 refine af cka hP KR (by simpa using ia) .sc ?_
 by_cases c1:aF d.Account=0
 rotate_left
 ·have:R=aF d.Account:=by rw[hR,bS,if_neg c1]
  simp -dsimp -implicitDefEqProofs [-getElem?_pos,go_sem,hP,c1,this]
 simp -dsimp -implicitDefEqProofs [-getElem?_pos,go_sem,hP,c1]
 refine af ckq hP tY (by simpa using iq) .sc ?_
 by_cases c2:cH d.Queue=0
 rotate_left
 ·have:R=cH d.Queue:=by rw[hR,bS,if_pos c1,if_neg c2]
  simp -dsimp -implicitDefEqProofs [-getElem?_pos,go_sem,hP,c2,this]
 rw[bS,if_pos c1,if_pos c2,Dr]at hR
 obtain⟨l,hl⟩:∃l,l=d.Items:=⟨_,rfl⟩
 obtain⟨K,hK⟩:∃K,K=d.Queue.Known:=⟨_,rfl⟩
 obtain⟨itB,hit⟩:∃f,f=rn d:=⟨_,rfl⟩
 rw[←hl,←hK,←hit]at hR
 rw[←hl]at li
 rw[←hK]at lk
 rw[←hK]at iq
 by_cases c3:l.length=K.length
 rotate_left
 ·have d3:decide ((l.length:Int)=(K.length:Int))=false:=zA (by omega)
  have hne:¬l.map wrt=K:=fun e=>c3 (by rw[←e,wL])
  rw[zA hne,zJ,if_neg (by simp)]at hR
  simp -dsimp -implicitDefEqProofs [-getElem?_pos,go_sem,hP,c2,←hl,←hK,d3,hR]
 have d3:decide ((l.length:Int)=(K.length:Int))=true:=zC (by omega)
 simp -dsimp -implicitDefEqProofs [-getElem?_pos,go_sem,hP,c2,←hl,←hK,d3]
 obtain⟨I,hI⟩:∃I:Nat→St→Prop,I=fun m s=>∃(k:Nat),k≤l.length∧m=l.length-k∧(l.take k).map wrt=K.take k∧(l.take k).all itB=true∧s.t 1= .ref 0 0 0∧s.t 37=fg l∧s.t 38=iv l.length∧s.t 39=iv k∧s.H[0]?=some (some ⟨35,7,[[iv d.Account.Credit,bw d.Account.Subs,cU d.Account.Entries,aQ d.Queue.Waiting,eQ K,cd d.Queue.Batches,fg l]]⟩):=⟨_,rfl⟩
 refine az I (l.length) (by rw[hN];rfl) ?_ ?_
 ·rw[hI]
  exact⟨0,by omega,by omega,by simp,by simp,rfl,rfl,rfl,rfl,rfl⟩
 intro m s hs'
 rw[hI]at hs'
 obtain⟨k,hk,hm,hmap,hall,t1,t37,t38,t39,h0⟩:=hs'
 have lt0:=(gsI h0)
 simp -dsimp -implicitDefEqProofs [-getElem?_pos,go_sem,hP,t38,t39]
 refine aB ?_ ?_<;>intro hh
 rotate_left
 ·have hk:k=l.length:=by simp at hh;omega
  subst hk
  rw[zT]at hmap hall
  rw[c3,zT]at hmap
  rw[zC hmap,hall]at hR
  simp -dsimp -implicitDefEqProofs [-getElem?_pos,go_sem,hP,hR]
 have hk:k<l.length:=by simpa using hh
 obtain⟨x,hx⟩:=gkE hk
 obtain⟨w,hw⟩:∃w,K[k]?=some w:=⟨_,zF (by omega)⟩
 have wk:=ae ((k:Int)+1) (by omega)
 have badI:itB x=false→R=68:=fun e=>by
  rw[hR,if_neg]
  rw[zG]
  rintro⟨_,h1⟩
  have:=zS.1 h1 x (zE hx)
  rw[e]at this
  cases this
 have badW:¬x.Payment.Warrant=w→R=68:=fun e=>by
  rw[hR,if_neg]
  rw[zG]
  rintro⟨h1,_⟩
  have h1:l.map wrt=K:=of_decide_eq_true h1
  have:(l.map wrt)[k]?=some x.Payment.Warrant:=by rw[zR,hx];rfl
  rw[h1,hw]at this
  exact e (wT this).symm
 have hitx:itB x=(gx x.Payment&&((bF d.Account x.Payment.Sub).2&&(amg x.State 1 5&&(B5 x&&(pR d.Queue x&&(decide ((oJ d.Queue x.Payment.Warrant:Int)=x.Attempts)&&mj d.Account x)))))):=by rw[hit,rn]
 have ix:=eI x
 have ip:=dX x.Payment
 have bl:=tF d.Account x.Payment.Sub hf.s hf.e
 have py:=yM x.Payment
 have wt:=Gg d.Queue x.Payment.Warrant (by have:=hf.q.w;omega)
 have bt:=Hc d.Queue x.Payment.Warrant hf.q
 have ct:=fun h=>Ho d.Account x.Payment hf.e h
 rw[cIt]at ix
 simp only[cA]at bl ct
 simp only[cPy]at ip py wt ct
 simp only[cQn,←hK]at wt bt
 obtain⟨n,hn⟩:∃n,n=s.H.length:=⟨_,rfl⟩
 obtain⟨H1,hH1⟩:∃H1,H1=s.H++[some (P8 x),some (⟨111,5,[[iv x.Payment.Warrant,iv x.Payment.Payee,iv x.Payment.Amount,iv x.Payment.Due,iv x.Payment.Sub]]⟩:AObj)]:=⟨_,rfl⟩
 have l1:H1.length=n+2:=by rw[hH1,hn];simp
 have k0:H1[0]?=some (some ⟨35,7,[[iv d.Account.Credit,bw d.Account.Subs,cU d.Account.Entries,aQ d.Queue.Waiting,eQ K,cd d.Queue.Batches,fg l]]⟩):=by rw[hH1,zD lt0];exact h0
 have kn:H1[n]?=some (some (P8 x)):=by rw[hH1,hn,zN (zZ _),Nat.sub_self];rfl
 have kp:H1[n+1]?=some (some ⟨111,5,[[iv x.Payment.Warrant,iv x.Payment.Payee,iv x.Payment.Amount,iv x.Payment.Due,iv x.Payment.Sub]]⟩):=by rw[hH1,hn,zN (by omega),Nat.add_sub_cancel_left];rfl
 have q0:0<H1.length:=by omega
 have qn:n<H1.length:=by omega
 have qp:n+1<H1.length:=by omega
 simp -dsimp -implicitDefEqProofs [-getElem?_pos,go_sem,hP,t37,t39,hx,cIt,t1,h0,lt0]
 rw[←hH1,←hn]
 refine af bl hP Pj (by simpa[an]using ia) (aj .sc .sc) ?_
 simp -dsimp -implicitDefEqProofs [-getElem?_pos,go_sem,hP]
 refine aq (fun _=>true) [] hP (by kernel_rfl) (by kernel_rfl) ?_
 by_cases e1:x.Payment.Warrant=w
 rotate_left
 ·have f1:=zA e1
  simp -dsimp -implicitDefEqProofs [-getElem?_pos,go_sem,hP,kp,qp,t1,k0,q0,hw,eE,f1,badW e1]
 subst e1
 simp -dsimp -implicitDefEqProofs [-getElem?_pos,go_sem,hP,kp,qp,t1,k0,q0,hw,eE]
 refine af py hP D7 (by simpa using ip) .sc ?_
 cases e2:gx x.Payment
 ·rw[e2,zJ]at hitx
  simp -dsimp -implicitDefEqProofs [-getElem?_pos,go_sem,hP,kn,qn,badI hitx]
 rw[e2,zP]at hitx
 have hsub:=((g8 x.Payment).1 e2).sub.1
 cases e3:(bF d.Account x.Payment.Sub).2
 ·rw[e3,zJ]at hitx
  simp -dsimp -implicitDefEqProofs [-getElem?_pos,go_sem,hP,kn,qn,e3,badI hitx]
 rw[e3,zP]at hitx
 by_cases e4:x.State<1
 ·rw[fp (by omega),zJ]at hitx
  simp -dsimp -implicitDefEqProofs [-getElem?_pos,go_sem,hP,kn,qn,e3,e4,badI hitx]
 have f4:=zA e4
 by_cases e5:5<x.State
 ·rw[fp (by omega),zJ]at hitx
  simp -dsimp -implicitDefEqProofs [-getElem?_pos,go_sem,hP,kn,qn,e3,f4,e5,badI hitx]
 have f5:=zA e5
 rw[dH.2 (by omega),zP,B5]at hitx
 by_cases e6:x.Attempts<0
 ·rw[fp (by omega),zJ,zJ]at hitx
  simp -dsimp -implicitDefEqProofs [-getElem?_pos,go_sem,hP,kn,qn,e3,f4,f5,e6,badI hitx]
 have f6:=zA e6
 by_cases e7:5<x.Attempts
 ·rw[fp (by omega),zJ,zJ]at hitx
  simp -dsimp -implicitDefEqProofs [-getElem?_pos,go_sem,hP,kn,qn,e3,f4,f5,f6,e7,badI hitx]
 have f7:=zA e7
 rw[dH.2 (by omega),zP]at hitx
 simp -dsimp -implicitDefEqProofs [-getElem?_pos,go_sem,hP,kn,qn,kp,qp,t1,k0,q0,e3,f4,f5,f6,f7]
 obtain⟨y,hy⟩:∃y,y=(j7 d.Queue x.Payment.Warrant).getD KQ:=⟨_,rfl⟩
 obtain⟨is,his⟩:∃b,b=(j7 d.Queue x.Payment.Warrant).isSome:=⟨_,rfl⟩
 rw[←hy,←his]at wt
 refine af wt hP Vc (by simpa[an]using iq) (aj (dX _) .sc) ?_
 simp -dsimp -implicitDefEqProofs [-getElem?_pos,go_sem,hP,kn,qn,cPy]
 obtain⟨H2,hH2⟩:∃H2,H2=H1++[some (⟨111,5,[[iv y.Warrant,iv y.Payee,iv y.Amount,iv y.Due,iv y.Sub]]⟩:AObj)]:=⟨_,rfl⟩
 have l2:H2.length=n+3:=by rw[hH2];simp;omega
 have j0:=(show H2[0]?=H1[0]? by rw[hH2,zD q0]).trans k0
 have jn:=(show H2[n]?=H1[n]? by rw[hH2,zD qn]).trans kn
 have jp:=(show H2[n+1]?=H1[n+1]? by rw[hH2,zD qp]).trans kp
 have jy:H2[n+2]?=some (some ⟨111,5,[[iv y.Warrant,iv y.Payee,iv y.Amount,iv y.Due,iv y.Sub]]⟩):=by rw[hH2,←l1,zN (zZ _),Nat.sub_self];rfl
 have z0:0<H2.length:=by omega
 have zn:n<H2.length:=by omega
 have zp:n+1<H2.length:=by omega
 have zy:n+2<H2.length:=by omega
 rw[←hH2,l1]
 obtain⟨Inv,hInv⟩:∃Inv:St→Prop,Inv=fun s'=>(s'.t 122=bv true∧R=68∨s'.t 122=bv false∧itB x=(!(decide (x.Attempts=5)&&decide (x.State=1))&&!(decide (x.Attempts=0)&&!(decide (x.State=1)||decide (x.State=5)))&&mj d.Account x))∧s'.t 1= .ref 0 0 0∧s'.t 6= .ref n 0 0∧s'.t 7= .ref (n+1) 0 0∧s'.t 37=fg l∧s'.t 38=iv l.length∧s'.t 39=iv k∧s'.H=H2:=⟨_,rfl⟩
 refine uy Inv ?_ ?_
 ·have bad':∀s':St,itB x=false→s'.t 122=bv true→s'.t 1= .ref 0 0 0→s'.t 6= .ref n 0 0→s'.t 7= .ref (n+1) 0 0→s'.t 37=fg l→s'.t 38=iv l.length→s'.t 39=iv k→s'.H=H2→Inv s':=fun s' a b1 b2 b3 b4 b5 b6 b7 b8=>by
   rw[hInv]
   exact⟨.inl ⟨b1,badI a⟩,b2,b3,b4,b5,b6,b7,b8⟩
  rw[pR]at hitx
  cases hwo:j7 d.Queue x.Payment.Warrant with
  |none=>
   rw[hwo]at hitx his hy
   simp only[Option.isSome_none]at hitx his
   subst his
   by_cases e8:x.State=1
   ·rw[zC e8,Bool.not_true,zJ,vM]at hitx
    refine aq (fun _=>true) [] hP (by kernel_rfl) (by kernel_rfl) ?_
    simp -dsimp -implicitDefEqProofs [-getElem?_pos,go_sem,hP,jn,zn,e8]
    exact bad' _ hitx rfl t1 (by simp -dsimp[-getElem?_pos,go_sem,hn]) (by simp -dsimp[-getElem?_pos,go_sem,hn]) t37 t38 t39 rfl
   have f8:=zA e8
   rw[f8,Bool.not_false,zP]at hitx
   refine aq (fun _=>true) [] hP (by kernel_rfl) (by kernel_rfl) ?_
   simp -dsimp -implicitDefEqProofs [-getElem?_pos,go_sem,hP,jn,zn,e8,f8,t1,j0,z0,jp,zp]
   refine af bt hP Pb (by simpa[an]using iq) .sc ?_
   by_cases e10:(oJ d.Queue x.Payment.Warrant:Int)=x.Attempts
   ·have f10:=zC e10
    rw[f10,zP]at hitx
    simp -dsimp -implicitDefEqProofs [-getElem?_pos,go_sem,hP,e8,f8,f10,jn,zn]
    rw[hInv]
    exact⟨.inr ⟨rfl,by rw[hitx,f8]⟩,t1,by simp -dsimp[-getElem?_pos,go_sem,hn],by simp -dsimp[-getElem?_pos,go_sem,hn],t37,t38,t39,rfl⟩
   ·have f10:=zA e10
    rw[f10,zJ,vM]at hitx
    simp -dsimp -implicitDefEqProofs [-getElem?_pos,go_sem,hP,e8,f8,f10,jn,zn]
    exact bad' _ hitx rfl t1 (by simp -dsimp[-getElem?_pos,go_sem,hn]) (by simp -dsimp[-getElem?_pos,go_sem,hn]) t37 t38 t39 rfl
  |some w=>
   rw[hwo]at hitx his hy
   simp only[Option.isSome_some,Option.getD_some]at hitx his hy
   subst his
   subst hy
   by_cases e8:x.State=1
   rotate_left
   ·have f8:=zA e8
    rw[f8,zJ,zJ,vM]at hitx
    refine aq (fun _=>true) [] hP (by kernel_rfl) (by kernel_rfl) ?_
    simp -dsimp -implicitDefEqProofs [-getElem?_pos,go_sem,hP,jn,zn,e8,f8]
    exact bad' _ hitx rfl t1 (by simp -dsimp[-getElem?_pos,go_sem,hn]) (by simp -dsimp[-getElem?_pos,go_sem,hn]) t37 t38 t39 rfl
   have f8:=zC e8
   rw[f8,zP]at hitx
   refine aq (fun _=>true) [] hP (by kernel_rfl) (by kernel_rfl) ?_
   simp -dsimp -implicitDefEqProofs [-getElem?_pos,go_sem,hP,jn,zn,e8,f8,t1,j0,z0,jp,zp,jy,zy]
   by_cases e9:y=x.Payment
   rotate_left
   ·have g9:(decide (y.Warrant=x.Payment.Warrant)&&(decide (y.Payee=x.Payment.Payee)&&(decide (y.Amount=x.Payment.Amount)&&(decide (y.Due=x.Payment.Due)&&decide (y.Sub=x.Payment.Sub)))))=false:=Bool.eq_false_iff.2 fun h=>e9 (by
     obtain⟨y1,y2,y3,y4,y5⟩:=y
     simp only[zG,zI]at h
     rw[h.1,h.2.1,h.2.2.1,h.2.2.2.1,h.2.2.2.2])
    rw[zA e9,zJ,vM]at hitx
    simp -dsimp -implicitDefEqProofs [-getElem?_pos,go_sem,hP,g9,e8]
    exact bad' _ hitx (by
     simp -dsimp -implicitDefEqProofs [-getElem?_pos,go_sem,g9]
     exact fun h1 h2 h3 h4 h5=>absurd (Sd h1 h2 h3 h4 h5) e9) t1 (by simp -dsimp[-getElem?_pos,go_sem,hn]) (by simp -dsimp[-getElem?_pos,go_sem,hn]) t37 t38 t39 rfl
   have g9:(decide (y.Warrant=x.Payment.Warrant)&&(decide (y.Payee=x.Payment.Payee)&&(decide (y.Amount=x.Payment.Amount)&&(decide (y.Due=x.Payment.Due)&&decide (y.Sub=x.Payment.Sub)))))=true:=by simp[e9]
   rw[zC e9,zP]at hitx
   simp -dsimp -implicitDefEqProofs [-getElem?_pos,go_sem,hP,g9,e8,t1,j0,z0,jp,zp]
   refine af bt hP Pb (by simpa[an]using iq) .sc ?_
   by_cases e10:(oJ d.Queue x.Payment.Warrant:Int)=x.Attempts
   ·have f10:=zC e10
    rw[f10,zP]at hitx
    simp -dsimp -implicitDefEqProofs [-getElem?_pos,go_sem,hP,g9,e8,f10,jn,zn]
    rw[hInv]
    exact⟨.inr ⟨(by simp -dsimp[-getElem?_pos,go_sem,g9];simp[e9]),by rw[hitx,f8]⟩,t1,by simp -dsimp[-getElem?_pos,go_sem,hn],by simp -dsimp[-getElem?_pos,go_sem,hn],t37,t38,t39,rfl⟩
   ·have f10:=zA e10
    rw[f10,zJ,vM]at hitx
    simp -dsimp -implicitDefEqProofs [-getElem?_pos,go_sem,hP,g9,e8,f10,jn,zn]
    exact bad' _ hitx (by simp -dsimp[-getElem?_pos,go_sem,g9]) t1 (by simp -dsimp[-getElem?_pos,go_sem,hn]) (by simp -dsimp[-getElem?_pos,go_sem,hn]) t37 t38 t39 rfl
 clear t1 t37 t38 t39
 rw[hInv]
 rintro s ⟨hA,t1,t6,t7,t37,t38,t39,hH⟩
 rcases hA with⟨t122,hA⟩|⟨t122,hA⟩
 ·simp -dsimp -implicitDefEqProofs [-getElem?_pos,go_sem,hP,t122,hA]
 clear hitx
 have fin:itB x=true→∀s':St,s'.t 1= .ref 0 0 0→s'.t 37=fg l→s'.t 38=iv l.length→s'.t 39=iv (k+1)→s'.H[0]?=some (some ⟨35,7,[[iv d.Account.Credit,bw d.Account.Subs,cU d.Account.Entries,aQ d.Queue.Waiting,eQ K,cd d.Queue.Batches,fg l]]⟩)→∃m',m'<m∧I m' s':=fun e s' b1 b2 b3 b4 b5=>by
  refine⟨l.length-(k+1),by omega,?_⟩
  rw[hI]
  refine⟨k+1,by omega,rfl,?_,?_,b1,b2,b3,b4,b5⟩
  ·rw[qS hx,hmap,ce hw];rfl
  ·rw[ce hx,List.all_append,hall];simp[e]
 rw[mj]at hA
 have ct':=ct hsub
 obtain⟨co,hco⟩:∃c,c=d.Account.Entries.countP (fJ x.Payment):=⟨_,rfl⟩
 obtain⟨ci,hci⟩:∃c,c=d.Account.Entries.countP (inE x.Payment):=⟨_,rfl⟩
 obtain⟨allE,hal⟩:∃c,c=d.Account.Entries.all (okE x.Payment):=⟨_,rfl⟩
 rw[←hco,←hci,←hal]at hA ct'
 by_cases e11:x.Attempts=5
 ·have f11:=zC e11
  have f13:decide (x.Attempts=0)=false:=zA (by omega)
  by_cases e12:x.State=1
  ·have f12:=zC e12
   rw[f11,f12,Bool.and_self,Bool.not_true,zJ,zJ]at hA
   simp -dsimp -implicitDefEqProofs [-getElem?_pos,go_sem,hP,t122,t6,hH,jn,zn,e11,e12,badI hA]
  have f12:=zA e12
  rw[f11,f12,f13,vM,Bool.not_false,zP,zJ,Bool.not_false,zP]at hA
  simp -dsimp -implicitDefEqProofs [-getElem?_pos,go_sem,hP,t122,t6,hH,jn,zn,f11,f12,f13,t1,j0,z0,t7,jp,zp]
  refine aJ (ct'.lift _ _) hP EL (by simpa using⟨ia,ip⟩) (eF .sc .sc .sc) ?_
  cases ea:allE
  ·rw[ea,zJ]at hA
   rcases (show x.State=2∨x.State=3∨(¬x.State=2∧¬x.State=3) by omega)with s2|s3|⟨s2,s3⟩
   ·simp -dsimp -implicitDefEqProofs [-getElem?_pos,go_sem,hP,t6,jn,zn,s2,badI hA]
   ·simp -dsimp -implicitDefEqProofs [-getElem?_pos,go_sem,hP,t6,jn,zn,s3,badI hA]
   ·have s2d:=zA s2
    have s3d:=zA s3
    simp -dsimp -implicitDefEqProofs [-getElem?_pos,go_sem,hP,t6,jn,zn,s2,s3,s2d,s3d,badI hA]
  rw[ea,zP]at hA
  rcases (show x.State=2∨x.State=3∨(¬x.State=2∧¬x.State=3) by omega)with s2|s3|⟨s2,s3⟩
  ·have hg:dZ x=1:=by simp[dZ,iu,s2]
   have wg:=ae (x.Attempts-1) (by omega)
   have wg:IntKind.i64.wrap (x.Attempts-1)=x.Attempts-1:=wg
   rw[hg]at hA
   by_cases g1:(co:Int)=x.Attempts
   rotate_left
   ·have g2:=zA g1
    rw[g2,zJ]at hA
    simp -dsimp -implicitDefEqProofs [-getElem?_pos,go_sem,hP,t6,s2,g2,g1,jn,zn,badI hA]
   have g2:=zC g1
   rw[g2,zP]at hA
   by_cases g3:(ci:Int)=x.Attempts-1
   ·have g4:decide ((ci:Int)=x.Attempts-1)=true:=zC g3
    rw[zC (by omega)]at hA
    simp -dsimp -implicitDefEqProofs [-getElem?_pos,go_sem,hP,t6,s2,g2,g4,wg,jn,zn,t39,wk]
    exact fin hA _ t1 t37 t38 rfl j0
   ·have g4:decide ((ci:Int)=x.Attempts-1)=false:=zA g3
    rw[zA (by omega)]at hA
    simp -dsimp -implicitDefEqProofs [-getElem?_pos,go_sem,hP,t6,s2,g2,g4,wg,jn,zn,badI hA]
  ·have hg:dZ x=1:=by simp[dZ,iu,s3]
   have wg:=ae (x.Attempts-1) (by omega)
   have wg:IntKind.i64.wrap (x.Attempts-1)=x.Attempts-1:=wg
   rw[hg]at hA
   by_cases g1:(co:Int)=x.Attempts
   rotate_left
   ·have g2:=zA g1
    rw[g2,zJ]at hA
    simp -dsimp -implicitDefEqProofs [-getElem?_pos,go_sem,hP,t6,s3,g2,g1,jn,zn,badI hA]
   have g2:=zC g1
   rw[g2,zP]at hA
   by_cases g3:(ci:Int)=x.Attempts-1
   ·have g4:decide ((ci:Int)=x.Attempts-1)=true:=zC g3
    rw[zC (by omega)]at hA
    simp -dsimp -implicitDefEqProofs [-getElem?_pos,go_sem,hP,t6,s3,g2,g4,wg,jn,zn,t39,wk]
    exact fin hA _ t1 t37 t38 rfl j0
   ·have g4:decide ((ci:Int)=x.Attempts-1)=false:=zA g3
    rw[zA (by omega)]at hA
    simp -dsimp -implicitDefEqProofs [-getElem?_pos,go_sem,hP,t6,s3,g2,g4,wg,jn,zn,badI hA]
  ·have s2d:=zA s2
   have s3d:=zA s3
   have hg:dZ x=0:=by simp[dZ,iu,s2,s3]
   have wg:=ae x.Attempts (by omega)
   rw[hg]at hA
   by_cases g1:(co:Int)=x.Attempts
   rotate_left
   ·have g2:=zA g1
    rw[g2,zJ]at hA
    simp -dsimp -implicitDefEqProofs [-getElem?_pos,go_sem,hP,t6,s2,s3,s2d,s3d,g2,g1,jn,zn,badI hA]
   have g2:=zC g1
   rw[g2,zP]at hA
   by_cases g3:(ci:Int)=x.Attempts
   ·have g4:decide ((ci:Int)=x.Attempts)=true:=zC g3
    rw[zC (by omega)]at hA
    simp -dsimp -implicitDefEqProofs [-getElem?_pos,go_sem,hP,t6,s2,s3,s2d,s3d,g2,g4,wg,jn,zn,t39,wk]
    exact fin hA _ t1 t37 t38 rfl j0
   ·have g4:decide ((ci:Int)=x.Attempts)=false:=zA g3
    rw[zA (by omega)]at hA
    simp -dsimp -implicitDefEqProofs [-getElem?_pos,go_sem,hP,t6,s2,s3,s2d,s3d,g2,g4,wg,jn,zn,badI hA]
 have f11:=zA e11
 by_cases e13:x.Attempts=0
 ·have f13:=zC e13
  by_cases e12:x.State=1
  ·have f12:=zC e12
   rw[f11,f12,f13,zJ,Bool.not_false,zP,Bool.true_or,Bool.not_true,vM,Bool.not_false,zP]at hA
   simp -dsimp -implicitDefEqProofs [-getElem?_pos,go_sem,hP,t122,t6,hH,jn,zn,f11,f13,e12,t1,j0,z0,t7,jp,zp]
   refine aJ (ct'.lift _ _) hP EL (by simpa using⟨ia,ip⟩) (eF .sc .sc .sc) ?_
   cases ea:allE
   ·rw[ea,zJ]at hA
    simp -dsimp -implicitDefEqProofs [-getElem?_pos,go_sem,hP,t6,jn,zn,e12,badI hA]
   rw[ea,zP]at hA
   have hg:dZ x=0:=by simp[dZ,iu,e12]
   have wg:=ae x.Attempts (by omega)
   rw[hg]at hA
   by_cases g1:(co:Int)=x.Attempts
   rotate_left
   ·have g2:=zA g1
    rw[g2,zJ]at hA
    simp -dsimp -implicitDefEqProofs [-getElem?_pos,go_sem,hP,t6,e12,g2,g1,jn,zn,badI hA]
   have g2:=zC g1
   rw[g2,zP]at hA
   by_cases g3:(ci:Int)=x.Attempts
   ·have g4:decide ((ci:Int)=x.Attempts)=true:=zC g3
    rw[zC (by omega)]at hA
    simp -dsimp -implicitDefEqProofs [-getElem?_pos,go_sem,hP,t6,e12,g2,g4,wg,jn,zn,t39,wk]
    exact fin hA _ t1 t37 t38 rfl j0
   ·have g4:decide ((ci:Int)=x.Attempts)=false:=zA g3
    rw[zA (by omega)]at hA
    simp -dsimp -implicitDefEqProofs [-getElem?_pos,go_sem,hP,t6,e12,g2,g4,wg,jn,zn,badI hA]
  have f12':=zA e12
  have n12:=e12
  clear e12
  by_cases e12:x.State=5
  ·have f12:=zC e12
   rw[f11,f12',f12,f13,zJ,Bool.not_false,zP,Bool.or_true,Bool.not_true,vM,Bool.not_false,zP]at hA
   simp -dsimp -implicitDefEqProofs [-getElem?_pos,go_sem,hP,t122,t6,hH,jn,zn,f11,f13,e12,t1,j0,z0,t7,jp,zp]
   refine aJ (ct'.lift _ _) hP EL (by simpa using⟨ia,ip⟩) (eF .sc .sc .sc) ?_
   cases ea:allE
   ·rw[ea,zJ]at hA
    simp -dsimp -implicitDefEqProofs [-getElem?_pos,go_sem,hP,t6,jn,zn,e12,badI hA]
   rw[ea,zP]at hA
   have hg:dZ x=0:=by simp[dZ,iu,e12]
   have wg:=ae x.Attempts (by omega)
   rw[hg]at hA
   by_cases g1:(co:Int)=x.Attempts
   rotate_left
   ·have g2:=zA g1
    rw[g2,zJ]at hA
    simp -dsimp -implicitDefEqProofs [-getElem?_pos,go_sem,hP,t6,e12,g2,g1,jn,zn,badI hA]
   have g2:=zC g1
   rw[g2,zP]at hA
   by_cases g3:(ci:Int)=x.Attempts
   ·have g4:decide ((ci:Int)=x.Attempts)=true:=zC g3
    rw[zC (by omega)]at hA
    simp -dsimp -implicitDefEqProofs [-getElem?_pos,go_sem,hP,t6,e12,g2,g4,wg,jn,zn,t39,wk]
    exact fin hA _ t1 t37 t38 rfl j0
   ·have g4:decide ((ci:Int)=x.Attempts)=false:=zA g3
    rw[zA (by omega)]at hA
    simp -dsimp -implicitDefEqProofs [-getElem?_pos,go_sem,hP,t6,e12,g2,g4,wg,jn,zn,badI hA]
  have f12:=zA e12
  rw[f11,f12',f12,f13,zJ,Bool.not_false,Bool.or_self,Bool.not_false,Bool.and_self,Bool.not_true,vM,zJ]at hA
  simp -dsimp -implicitDefEqProofs [-getElem?_pos,go_sem,hP,t122,t6,hH,jn,zn,f11,f13,f12',f12,badI hA]
 have f13:=zA e13
 rw[f11,f13,zJ,zJ,Bool.not_false,zP,zP]at hA
 simp -dsimp -implicitDefEqProofs [-getElem?_pos,go_sem,hP,t122,t6,hH,jn,zn,f11,f13,t1,j0,z0,t7,jp,zp]
 refine aJ (ct'.lift _ _) hP EL (by simpa using⟨ia,ip⟩) (eF .sc .sc .sc) ?_
 cases ea:allE
 ·rw[ea,zJ]at hA
  rcases (show x.State=2∨x.State=3∨(¬x.State=2∧¬x.State=3) by omega)with s2|s3|⟨s2,s3⟩
  ·simp -dsimp -implicitDefEqProofs [-getElem?_pos,go_sem,hP,t6,jn,zn,s2,badI hA]
  ·simp -dsimp -implicitDefEqProofs [-getElem?_pos,go_sem,hP,t6,jn,zn,s3,badI hA]
  ·have s2d:=zA s2
   have s3d:=zA s3
   simp -dsimp -implicitDefEqProofs [-getElem?_pos,go_sem,hP,t6,jn,zn,s2,s3,s2d,s3d,badI hA]
 rw[ea,zP]at hA
 rcases (show x.State=2∨x.State=3∨(¬x.State=2∧¬x.State=3) by omega)with s2|s3|⟨s2,s3⟩
 ·have hg:dZ x=1:=by simp[dZ,iu,s2]
  have wg:=ae (x.Attempts-1) (by omega)
  have wg:IntKind.i64.wrap (x.Attempts-1)=x.Attempts-1:=wg
  rw[hg]at hA
  by_cases g1:(co:Int)=x.Attempts
  rotate_left
  ·have g2:=zA g1
   rw[g2,zJ]at hA
   simp -dsimp -implicitDefEqProofs [-getElem?_pos,go_sem,hP,t6,s2,g2,g1,jn,zn,badI hA]
  have g2:=zC g1
  rw[g2,zP]at hA
  by_cases g3:(ci:Int)=x.Attempts-1
  ·have g4:decide ((ci:Int)=x.Attempts-1)=true:=zC g3
   rw[zC (by omega)]at hA
   simp -dsimp -implicitDefEqProofs [-getElem?_pos,go_sem,hP,t6,s2,g2,g4,wg,jn,zn,t39,wk]
   exact fin hA _ t1 t37 t38 rfl j0
  ·have g4:decide ((ci:Int)=x.Attempts-1)=false:=zA g3
   rw[zA (by omega)]at hA
   simp -dsimp -implicitDefEqProofs [-getElem?_pos,go_sem,hP,t6,s2,g2,g4,wg,jn,zn,badI hA]
 ·have hg:dZ x=1:=by simp[dZ,iu,s3]
  have wg:=ae (x.Attempts-1) (by omega)
  have wg:IntKind.i64.wrap (x.Attempts-1)=x.Attempts-1:=wg
  rw[hg]at hA
  by_cases g1:(co:Int)=x.Attempts
  rotate_left
  ·have g2:=zA g1
   rw[g2,zJ]at hA
   simp -dsimp -implicitDefEqProofs [-getElem?_pos,go_sem,hP,t6,s3,g2,g1,jn,zn,badI hA]
  have g2:=zC g1
  rw[g2,zP]at hA
  by_cases g3:(ci:Int)=x.Attempts-1
  ·have g4:decide ((ci:Int)=x.Attempts-1)=true:=zC g3
   rw[zC (by omega)]at hA
   simp -dsimp -implicitDefEqProofs [-getElem?_pos,go_sem,hP,t6,s3,g2,g4,wg,jn,zn,t39,wk]
   exact fin hA _ t1 t37 t38 rfl j0
  ·have g4:decide ((ci:Int)=x.Attempts-1)=false:=zA g3
   rw[zA (by omega)]at hA
   simp -dsimp -implicitDefEqProofs [-getElem?_pos,go_sem,hP,t6,s3,g2,g4,wg,jn,zn,badI hA]
 ·have s2d:=zA s2
  have s3d:=zA s3
  have hg:dZ x=0:=by simp[dZ,iu,s2,s3]
  have wg:=ae x.Attempts (by omega)
  rw[hg]at hA
  by_cases g1:(co:Int)=x.Attempts
  rotate_left
  ·have g2:=zA g1
   rw[g2,zJ]at hA
   simp -dsimp -implicitDefEqProofs [-getElem?_pos,go_sem,hP,t6,s2,s3,s2d,s3d,g2,g1,jn,zn,badI hA]
  have g2:=zC g1
  rw[g2,zP]at hA
  by_cases g3:(ci:Int)=x.Attempts
  ·have g4:decide ((ci:Int)=x.Attempts)=true:=zC g3
   rw[zC (by omega)]at hA
   simp -dsimp -implicitDefEqProofs [-getElem?_pos,go_sem,hP,t6,s2,s3,s2d,s3d,g2,g4,wg,jn,zn,t39,wk]
   exact fin hA _ t1 t37 t38 rfl j0
  ·have g4:decide ((ci:Int)=x.Attempts)=false:=zA g3
   rw[zA (by omega)]at hA
   simp -dsimp -implicitDefEqProofs [-getElem?_pos,go_sem,hP,t6,s2,s3,s2d,s3d,g2,g4,wg,jn,zn,badI hA]
open Go.PA
open Go.RowKit
abbrev ow:TItem:=⟨KQ,0,0⟩
def gy (d:TDesk) (w st:Int):Int×TItem×Int:=
 if bS d=0 then (match d.Items[(sy d.Items w).toNat]? with
  |none=>(0,ow,6)
  |some x=>if sy d.Items w<0 then (0,ow,6)else if x.State=st then (sy d.Items w,x,0)else (0,ow,67))else (0,ow,bS d)
theorem A4 {d:TDesk} {w st:Int} (h:bS d=0) (hw:w∉d.Items.map wrt):gy d w st=(0,ow,6):=by
 rw[gy,if_pos h]
 split
 ·rfl
 ·rw[if_pos (by rw[uU hw];omega)]
theorem s4 {d:TDesk} {st:Int} (h:bS d=0) {k:Nat} {x:TItem} (hx:d.Items[k]?=some x):gy d x.Payment.Warrant st=if x.State=st then ((k:Int),x,0)else (0,ow,67):=by
 have hp:=yK (fd.1 h).nd hx
 rw[gy,if_pos h,hp,Int.toNat_natCast,hx]
 simp only
 rw[if_neg (by omega)]
theorem nI (d:TDesk) (w st:Int):((gy d w st).2.2≠0∧∀f,gq d w st f=(cR,(gy d w st).2.2))∨∃(k:Nat) (x:TItem),gy d w st=((k:Int),x,0)∧bS d=0∧d.Items[k]?=some x∧x.Payment.Warrant=w∧x.State=st∧∀f:TDesk→TItem→Done1,gq d w st f=if (f d x).e=0 then (⟨(f d x).a,(f d x).q,d.Items.set k (f d x).x⟩,0)else (cR,(f d x).e):=by
 by_cases c1:bS d=0
 rotate_left
 ·have:gy d w st=(0,ow,bS d):=by rw[gy,if_neg c1]
  rw[this]
  exact .inl ⟨c1,fun f=>xO c1⟩
 by_cases c2:w∈d.Items.map wrt
 rotate_left
 ·rw[A4 c1 c2]
  exact .inl ⟨by decide,fun f=>sU c1 c2⟩
 obtain⟨x,hx,e⟩:=zV.1 c2
 obtain⟨k,hk⟩:=wN hx
 have e:x.Payment.Warrant=w:=e
 subst e
 by_cases c3:x.State=st
 ·refine .inr ⟨k,x,by rw[s4 c1 hk,if_pos c3],c1,hk,rfl,c3,fun f=>by rw[r8 c1 hk,if_pos c3]⟩
 ·refine .inl ⟨by rw[s4 c1 hk,if_neg c3];decide,fun f=>by rw[r8 c1 hk,if_neg c3,s4 c1 hk,if_neg c3]⟩
theorem tN (d:TDesk) (i:Nat) (x:TItem) (hl:d.Items.length≤100000) (hi:i<d.Items.length):PFun Tryz.prog none none 150 [.agg d.cells,iv i,.agg x.cells] (·= .agg (TDesk.mk d.Account d.Queue (d.Items.set i x)).cells):=by
 refine ab Tryz.func150 rfl (by simp[Tryz.f150]) (by kernel_rfl) ?_
 intro E hP hr hs hW hN
 have i1:=aU d.Account.Subs
 have i2:=pz d.Account.Entries
 have i3:=cg d.Queue.Waiting
 have i4:=gK d.Queue.Known
 have i5:=iV d.Queue.Batches
 have hle:(ao TItem.cells d.Items).length=d.Items.length:=ar _ _
 have es:=kR TItem.cells d.Items i x
 rw[cIt]at es
 have hne:¬d.Items.length=0:=by omega
 obtain⟨z,hz⟩:=gkE hi
 simp -dsimp[-getElem?_pos,go_sem,hP,cDn,cIt,hle,hne,hi,hz,es]
 refine⟨by omega,by omega,?_⟩
 refine FO (cs':=TDesk.cells ⟨d.Account,d.Queue,d.Items.set i x⟩) ?_ rfl
 exact xA (dg i1 (dg i2 (dg i3 (dg i4 (dg i5 (gP (ty:=195) rfl (by rw[ar,wX]) (Di _) .nil))))))
set_option maxHeartbeats 1000000 in
theorem tE (d:TDesk) (w st:Int) (hf:FitD d):PFun Tryz.prog none none 151 [.agg d.cells,iv w,iv st] (·= .tup [iv (gy d w st).1,.agg (gy d w st).2.1.cells,iv (gy d w st).2.2]):=by
 refine ab Tryz.func151 rfl (by simp[Tryz.f151]) (by kernel_rfl) ?_
 intro E hP hr hs hW hN
 have li:=hf.i
 have id':=ba d
 have ck:=pq d hf
 have rt:=Ph d w (by omega)
 rw[cDn]at id' ck rt
 obtain⟨R,hR⟩:∃R,R=AV.tup [iv (gy d w st).1,.agg (gy d w st).2.1.cells,iv (gy d w st).2.2]:=⟨_,rfl⟩
 rw[←hR]
 have zer:∀n,gy d w st=(0,ow,n)→AV.tup [iv 0,.agg ow.cells,iv n]=R:=fun n h=>by rw[hR,h]
 have iz:∀n,Imm (.tup [iv 0,.agg ow.cells,iv n]):=fun n=>eF .sc (eI ow) .sc
 simp -dsimp -implicitDefEqProofs [go_sem,hP,cDn]
 refine af ck hP Jv (by simpa using id') .sc ?_
 by_cases c1:bS d=0
 rotate_left
 ·have:gy d w st=(0,ow,bS d):=by rw[gy,if_neg c1]
  simp -dsimp -implicitDefEqProofs [go_sem,hP,c1]
  exact aw (iz _) (zer _ this)
 simp -dsimp -implicitDefEqProofs [go_sem,hP,c1]
 refine af rt hP Pc (by simpa[an]using id') .sc ?_
 by_cases c2:w∈d.Items.map wrt
 rotate_left
 ·have h:=A4 (st:=st) c1 c2
  have hp:=uU c2
  simp -dsimp -implicitDefEqProofs [go_sem,hP,hp]
  exact aw (iz _) (zer _ h)
 obtain⟨x,hx,e⟩:=zV.1 c2
 obtain⟨k,hk⟩:=wN hx
 have e:x.Payment.Warrant=w:=e
 have hp:=yK (fd.1 c1).nd hk
 have hfi:=s4 (st:=st) c1 hk
 rw[e]at hp hfi
 have d0:decide ((k:Int)<0)=false:=zA (by omega)
 by_cases c3:x.State=st
 rotate_left
 ·have d3:=zA c3
  rw[if_neg c3]at hfi
  simp -dsimp -implicitDefEqProofs [go_sem,hP,hp,d0,hk,cIt,d3]
  exact aw (iz _) (zer _ hfi)
 rw[if_pos c3]at hfi
 simp -dsimp -implicitDefEqProofs [go_sem,hP,hp,d0,hk,cIt,c3]
 refine aq (fun i=>decide (i=0)) [7] hP (by kernel_rfl) (by kernel_rfl) ?_
 simp -dsimp -implicitDefEqProofs [go_sem,hP,hp,d0,hk,cIt,c3]
 refine aw (eF .sc (by have:=eI x;rw[cIt,c3]at this;exact this) .sc) ?_
 rw[hR,hfi,←c3]
 rfl
open Go.PA
open Go.RowKit
theorem Hy (d:TDesk) (w:Int) (hf:FitD d):PFun Tryz.prog none none 82 [.agg d.cells,iv w] (·= .tup [.agg (jJ d w).1.cells,iv (jJ d w).2]):=by
 refine ab Tryz.func82 rfl (by simp[Tryz.f82]) (by kernel_rfl) ?_
 intro E hP hr hs hW hN
 have li:=hf.i
 have id':=ba d
 have fi:=tE d w 2 hf
 have ifi:=eI (gy d w 2).2.1
 rw[cDn]at id' fi
 rw[cIt]at ifi fi
 obtain⟨R,hR⟩:∃R,R=AV.tup [.agg (jJ d w).1.cells,iv (jJ d w).2]:=⟨_,rfl⟩
 rw[←hR]
 simp -dsimp -implicitDefEqProofs [go_sem,hP,cDn]
 refine af fi hP EF (by simpa[an]using id') (eF .sc ifi .sc) ?_
 rcases nI d w 2 with⟨h1,h2⟩|⟨k,x,h1,h2,h3,h4,h5,h6⟩
 ·have d1:=zA h1
  simp -dsimp -implicitDefEqProofs [go_sem,hP,d1]
  refine du ?_
  rw[hR,jJ,h2]
 have hil:=(gsI h3)
 have wt:=tN d k ⟨x.Payment,3,x.Attempts⟩ li hil
 have io:=ba (TDesk.mk d.Account d.Queue (d.Items.set k ⟨x.Payment,3,x.Attempts⟩))
 have ia:=eI ⟨x.Payment,3,x.Attempts⟩
 simp only[cDn,cIt]at wt io ia
 rw[h1]
 simp -dsimp -implicitDefEqProofs [go_sem,hP]
 refine af wt hP AB (by simpa[an]using⟨id',ia⟩) io ?_
 simp -dsimp -implicitDefEqProofs [go_sem,hP]
 refine aw (aj io .sc) ?_
 rw[hR,jJ,h6]
 rfl
theorem FT (d:TDesk) (w:Int) (hf:FitD d):PFun Tryz.prog none none 85 [.agg d.cells,iv w] (·= .tup [.agg (jH d w).1.cells,iv (jH d w).2]):=by
 refine ab Tryz.func85 rfl (by simp[Tryz.f85]) (by kernel_rfl) ?_
 intro E hP hr hs hW hN
 have li:=hf.i
 have id':=ba d
 have fi:=tE d w 1 hf
 have ifi:=eI (gy d w 1).2.1
 have iq:=df d.Queue
 have dp:=Ns d.Queue w hf.q
 have idp:=df (gu d.Queue w).1
 rw[cDn]at id' fi
 rw[cIt]at ifi fi
 simp only[cQn]at iq dp idp
 obtain⟨R,hR⟩:∃R,R=AV.tup [.agg (jH d w).1.cells,iv (jH d w).2]:=⟨_,rfl⟩
 rw[←hR]
 simp -dsimp -implicitDefEqProofs [go_sem,hP,cDn]
 refine af fi hP EF (by simpa[an]using id') (eF .sc ifi .sc) ?_
 rcases nI d w 1 with⟨h1,h2⟩|⟨k,x,h1,h2,h3,h4,h5,h6⟩
 ·have d1:=zA h1
  simp -dsimp -implicitDefEqProofs [go_sem,hP,d1]
  refine du ?_
  rw[hR,jH,h2]
 have hil:=(gsI h3)
 have hr6:=h6 (EZ w)
 rw[←jH]at hr6
 have hef:EZ w d x=⟨d.Account,(gu d.Queue w).1,⟨x.Payment,5,x.Attempts⟩,(gu d.Queue w).2⟩:=rfl
 rw[hef]at hr6
 simp only at hr6
 rw[h1]
 simp -dsimp -implicitDefEqProofs [go_sem,hP]
 refine af dp hP Uq (by simpa[an]using iq) (aj idp .sc) ?_
 by_cases c1:(gu d.Queue w).2=0
 rotate_left
 ·have d1:=zA c1
  rw[if_neg c1]at hr6
  simp -dsimp -implicitDefEqProofs [go_sem,hP,d1]
  refine du ?_
  rw[hR,hr6]
 rw[if_pos c1]at hr6
 have wt:=tN ⟨d.Account,(gu d.Queue w).1,d.Items⟩ k ⟨x.Payment,5,x.Attempts⟩ li hil
 have iw:=ba ⟨d.Account,(gu d.Queue w).1,d.Items⟩
 have io:=ba (TDesk.mk d.Account (gu d.Queue w).1 (d.Items.set k ⟨x.Payment,5,x.Attempts⟩))
 have ia:=eI ⟨x.Payment,5,x.Attempts⟩
 simp only[cDn,cIt]at wt io ia iw
 simp -dsimp -implicitDefEqProofs [go_sem,hP,c1]
 refine af wt hP AB (by simpa[an]using⟨iw,ia⟩) io ?_
 simp -dsimp -implicitDefEqProofs [go_sem,hP]
 refine aw (aj io .sc) ?_
 rw[hR,hr6]
 rfl
theorem G8 (d:TDesk) (w day:Int) (hf:FitD d):PFun Tryz.prog none none 83 [.agg d.cells,iv w,iv day] (·= .tup [.agg (jG d w day).1.cells,iv (jG d w day).2]):=by
 refine ab Tryz.func83 rfl (by simp[Tryz.f83]) (by kernel_rfl) ?_
 intro E hP hr hs hW hN
 have li:=hf.i
 have id':=ba d
 have fi:=tE d w 2 hf
 have ifi:=eI (gy d w 2).2.1
 have iac:=cQ d.Account
 rw[cDn]at id' fi
 rw[cIt]at ifi fi
 simp only[cA]at iac
 obtain⟨R,hR⟩:∃R,R=AV.tup [.agg (jG d w day).1.cells,iv (jG d w day).2]:=⟨_,rfl⟩
 rw[←hR]
 simp -dsimp -implicitDefEqProofs [go_sem,hP,cDn]
 refine af fi hP EF (by simpa[an]using id') (eF .sc ifi .sc) ?_
 rcases nI d w 2 with⟨h1,h2⟩|⟨k,x,h1,h2,h3,h4,h5,h6⟩
 ·have d1:=zA h1
  simp -dsimp -implicitDefEqProofs [go_sem,hP,d1]
  refine du ?_
  rw[hR,jG,h2]
 have hil:=(gsI h3)
 have hr6:=h6 (yP w day)
 rw[←jG]at hr6
 have nx:=uR d.Account day 0 x.Payment.Sub x.Payment.Amount w hf.e
 obtain⟨e,hee⟩:∃e,e=fT d.Account day 0 x.Payment.Sub x.Payment.Amount w:=⟨_,rfl⟩
 have hef:yP w day d x=⟨(bX d.Account e).1,d.Queue,⟨x.Payment,4,x.Attempts⟩,(bX d.Account e).2⟩:=by rw[yP,hee]
 rw[hef]at hr6
 simp only at hr6
 rw[←hee]at nx
 have ie:=gR e
 have po:=uo d.Account e hf.s hf.e
 have ipo:=cQ (bX d.Account e).1
 simp only[cA]at nx po ipo
 rw[h1]
 simp -dsimp -implicitDefEqProofs [go_sem,hP]
 refine v7 (fun i=>decide (i<3)) [18] [12,13] hP (by kernel_rfl) (by kernel_rfl) ?_
 simp -dsimp -implicitDefEqProofs [go_sem,hP]
 refine gl (nx.lift _ _) hP Pr (by simpa[an]using iac) ie ?_
 simp -dsimp -implicitDefEqProofs [go_sem,hP]
 refine gl (po.lift _ _) hP Qc (by simpa using⟨iac,ie⟩) (aj ipo .sc) ?_
 simp -dsimp -implicitDefEqProofs [go_sem,hP]
 refine⟨yR,?_⟩
 by_cases c1:(bX d.Account e).2=0
 rotate_left
 ·have d1:=zA c1
  rw[if_neg c1]at hr6
  simp -dsimp -implicitDefEqProofs [go_sem,hP,d1]
  refine du ?_
  rw[hR,hr6]
 rw[if_pos c1]at hr6
 have wt:=tN ⟨(bX d.Account e).1,d.Queue,d.Items⟩ k ⟨x.Payment,4,x.Attempts⟩ li hil
 have iw:=ba ⟨(bX d.Account e).1,d.Queue,d.Items⟩
 have io:=ba (TDesk.mk (bX d.Account e).1 d.Queue (d.Items.set k ⟨x.Payment,4,x.Attempts⟩))
 have ia:=eI ⟨x.Payment,4,x.Attempts⟩
 simp only[cDn,cIt]at wt io ia iw
 simp -dsimp -implicitDefEqProofs [go_sem,hP,c1]
 refine af wt hP AB (by simpa[an]using⟨iw,ia⟩) io ?_
 simp -dsimp -implicitDefEqProofs [go_sem,hP]
 refine aw (aj io .sc) ?_
 rw[hR,hr6]
 rfl
theorem JZ (d:TDesk) (w due:Int) (hf:FitD d):PFun Tryz.prog none none 84 [.agg d.cells,iv w,iv due] (·= .tup [.agg (mf d w due).1.cells,iv (mf d w due).2]):=by
 refine ab Tryz.func84 rfl (by simp[Tryz.f84]) (by kernel_rfl) ?_
 intro E hP hr hs hW hN
 have li:=hf.i
 have id':=ba d
 have fi:=tE d w 4 hf
 have ifi:=eI (gy d w 4).2.1
 have iq:=df d.Queue
 rw[cDn]at id' fi
 rw[cIt]at ifi fi
 simp only[cQn]at iq
 obtain⟨R,hR⟩:∃R,R=AV.tup [.agg (mf d w due).1.cells,iv (mf d w due).2]:=⟨_,rfl⟩
 rw[←hR]
 simp -dsimp -implicitDefEqProofs [go_sem,hP,cDn]
 refine af fi hP EF (by simpa[an]using id') (eF .sc ifi .sc) ?_
 rcases nI d w 4 with⟨h1,h2⟩|⟨k,x,h1,h2,h3,h4,h5,h6⟩
 ·have d1:=zA h1
  simp -dsimp -implicitDefEqProofs [go_sem,hP,d1]
  refine du ?_
  rw[hR,mf,h2]
 have hil:=(gsI h3)
 have hd:=fd.1 h2
 have hatt:0≤x.Attempts∧x.Attempts≤5:=by
  have:=hd.i x (zE h3)
  simp only[rn,B5,zG,dH]at this
  exact this.2.2.2.1.1
 have hr6:=h6 (uT due)
 rw[←mf]at hr6
 rw[h1]
 by_cases c0:x.Attempts=5
 ·rw[uT,if_pos c0]at hr6
  simp only at hr6
  rw[if_neg (by decide)]at hr6
  simp -dsimp -implicitDefEqProofs [go_sem,hP,c0]
  refine du ?_
  rw[hR,hr6]
 have d0:decide (5≤x.Attempts)=false:=zA (by omega)
 rw[uT,if_neg c0]at hr6
 simp only at hr6
 obtain⟨y,hy⟩:∃y,y=mF x.Payment due:=⟨_,rfl⟩
 have ap:=Ko d.Queue y hf.q
 have iap:=df (dW d.Queue y).1
 have ip:=dX y
 rw[←hy]at hr6
 have cy:TPayment.cells y=[iv x.Payment.Warrant,iv x.Payment.Payee,iv x.Payment.Amount,iv due,iv x.Payment.Sub]:=by rw[hy];rfl
 simp only[cQn,cy]at ap iap ip
 simp -dsimp -implicitDefEqProofs [go_sem,hP,d0]
 refine af ap hP Un (by simpa using⟨iq,ip⟩) (aj iap .sc) ?_
 by_cases c1:(dW d.Queue y).2=0
 rotate_left
 ·have d1:=zA c1
  rw[if_neg c1]at hr6
  simp -dsimp -implicitDefEqProofs [go_sem,hP,d1]
  refine du ?_
  rw[hR,hr6]
 rw[if_pos c1]at hr6
 have wt:=tN ⟨d.Account,(dW d.Queue y).1,d.Items⟩ k ⟨y,1,x.Attempts⟩ li hil
 have iw:=ba ⟨d.Account,(dW d.Queue y).1,d.Items⟩
 have io:=ba (TDesk.mk d.Account (dW d.Queue y).1 (d.Items.set k ⟨y,1,x.Attempts⟩))
 have ia:=eI ⟨y,1,x.Attempts⟩
 have ciy:TItem.cells ⟨y,1,x.Attempts⟩=[iv x.Payment.Warrant,iv x.Payment.Payee,iv x.Payment.Amount,iv due,iv x.Payment.Sub,iv 1,iv x.Attempts]:=by rw[hy];rfl
 simp only[cDn,ciy]at wt io ia iw
 simp -dsimp -implicitDefEqProofs [go_sem,hP,c1]
 refine af wt hP AB (by simpa[an]using⟨iw,ia⟩) io ?_
 simp -dsimp -implicitDefEqProofs [go_sem,hP]
 refine aw (aj io .sc) ?_
 rw[hR,hr6]
 rfl
theorem M3 (a:TAccount) (hl:a.Subs.length≤100000) (he:a.Entries.length≤100000):PFun Tryz.prog none none 21 [.agg a.cells] (·= .tup [.agg (jW a).1.cells,iv (jW a).2]):=by
 refine ab Tryz.func21 rfl (by simp[Tryz.f21]) (by kernel_rfl) ?_
 intro E hP hr hs hW hN
 have ia:=cQ a
 have ck:=nF a hl he
 rw[cA]at ia ck
 have i1:=aU a.Subs
 have i2:=pz a.Entries
 obtain⟨R,hR⟩:∃R,R=AV.tup [.agg (jW a).1.cells,iv (jW a).2]:=⟨_,rfl⟩
 rw[←hR]
 simp -dsimp -implicitDefEqProofs [go_sem,hP,cA]
 refine af ck hP KR (by simpa using ia) .sc ?_
 by_cases c1:aF a=0
 rotate_left
 ·have:jW a=(cR,aF a):=by rw[jW,if_neg c1]
  simp -dsimp -implicitDefEqProofs [go_sem,hP,c1]
  refine du ?_
  rw[hR,this]
 simp -dsimp -implicitDefEqProofs [go_sem,hP,c1]
 obtain⟨l,hl'⟩:∃l,l=a.Entries:=⟨_,rfl⟩
 rw[←hl']at he i2
 obtain⟨I,hI⟩:∃I:Nat→St→Prop,I=fun m s=>∃k:Nat,k≤l.length∧m=l.length-k∧l.any (fun e=>!lv 0 e)=(l.drop k).any (fun e=>!lv 0 e)∧s.t 1= .ref 0 0 0∧s.t 2= .ref 1 0 0∧s.t 14=cU l∧s.t 15=iv l.length∧s.t 16=iv k∧s.H[0]?=some (some ⟨28,3,[[iv a.Credit,bw a.Subs,cU l]]⟩)∧s.H[1]?=some (some ⟨35,7,[[iv 0,.nil,.nil,.nil,.nil,.nil,.nil]]⟩):=⟨_,rfl⟩
 refine az I (l.length) (by rw[hN];rfl) ?_ ?_
 ·rw[hI]
  exact⟨0,by omega,by omega,by rfl,rfl,rfl,by simp -dsimp[go_sem,hl'],by simp -dsimp[go_sem,hl'],rfl,by simp -dsimp[go_sem,hl'],rfl⟩
 intro m s hs'
 rw[hI]at hs'
 obtain⟨k,hk,hm,hq,t1,t2,t14,t15,t16,h0,h1⟩:=hs'
 have lt0:=(gsI h0)
 have lt1:=(gsI h1)
 simp -dsimp -implicitDefEqProofs [go_sem,hP,t15,t16]
 refine aB ?_ ?_<;>intro h
 ·have hk:k<l.length:=by simpa using h
  obtain⟨e,hee⟩:=gkE hk
  have wk:=ae ((k:Int)+1) (by omega)
  have g1:∀x:Option AObj,(s.H++[x])[1]?=some (some ⟨35,7,[[iv 0,.nil,.nil,.nil,.nil,.nil,.nil]]⟩):=fun x=>by rw[zD lt1];exact h1
  rw[dt hee,List.any_cons]at hq
  by_cases c:e.Ref=0
  ·rw[show lv 0 e=true by simp[lv,c],Bool.not_true,Bool.false_or]at hq
   simp -dsimp -implicitDefEqProofs [go_sem,hP,t14,t16,hee,cE,c,wk]
   refine⟨l.length-(k+1),by omega,?_⟩
   rw[hI]
   exact⟨k+1,by omega,rfl,hq,t1,t2,t14,t15,rfl,by simp -dsimp[-getElem?_pos,go_sem,lt0,h0],by simp -dsimp[-getElem?_pos,go_sem,lt1,h1]⟩
  ·rw[show lv 0 e=false by simp[lv,c],Bool.not_false,Bool.true_or,hl']at hq
   have d:=zA c
   have:jW a=(cR,68):=by rw[jW,if_pos c1,if_pos hq]
   simp -dsimp -implicitDefEqProofs [-getElem?_pos,go_sem,hP,t14,t16,hee,cE,c,d,t2,g1,lt1,h1]
   refine du ?_
   rw[hR,this]
 ·have hk:k=l.length:=by simp at h;omega
  subst hk
  rw[wG,List.any_nil,hl']at hq
  have:jW a=(⟨a,bU,[]⟩,0):=by rw[jW,if_pos c1,if_neg (by simp[hq])]
  simp -dsimp -implicitDefEqProofs [-getElem?_pos,go_sem,hP,t1,h0,lt0,t2,h1,lt1]
  refine dO (cs':=[iv a.Credit,bw a.Subs,cU l,aQ [],eQ [],cd [],fg []]) (xA (dg (aU _) (dg (pz _) (eS (eS (eS (eS .nil))))))) ?_
  rw[hR,this,hl']
  rfl
open Go.PA
open Go.RowKit
set_option maxHeartbeats 4000000 in
theorem It (d:TDesk) (p:TPayment) (hf:FitD d):PFun Tryz.prog none none 78 [.agg d.cells,.agg p.cells] (·= .tup [.agg (fw d p).1.cells,iv (fw d p).2]):=by
 refine ab Tryz.func78 rfl (by simp[Tryz.f78]) (by kernel_rfl) ?_
 intro E hP hr hs hW hN
 have li:=hf.i
 have le:=hf.e
 have id':=ba d
 have ia:=cQ d.Account
 have iq:=df d.Queue
 have ip:=dX p
 have ck:=pq d hf
 have ad:=Ra d.Queue p hf.q
 have io:=df (j4 d.Queue p).1
 have bl:=tF d.Account p.Sub hf.s hf.e
 simp only[cDn]at id' ck
 simp only[cA]at ia bl
 simp only[cQn,cPy]at iq ip ad io
 obtain⟨R,hR⟩:∃R,R=AV.tup [.agg (fw d p).1.cells,iv (fw d p).2]:=⟨_,rfl⟩
 rw[←hR]
 have zer:∀n,fw d p=(cR,n)→AV.tup [.agg cR.cells,iv n]=R:=fun n h=>by rw[hR,h]
 simp -dsimp -implicitDefEqProofs [go_sem,hP,cDn,cPy]
 refine af ck hP Jv (by simpa using id') .sc ?_
 by_cases c1:bS d=0
 rotate_left
 ·have:fw d p=(cR,bS d):=by rw[fw,if_neg c1]
  simp -dsimp -implicitDefEqProofs [go_sem,hP,c1]
  exact du (zer _ this)
 have hd:=fd.1 c1
 simp -dsimp -implicitDefEqProofs [go_sem,hP,c1]
 refine af ad hP TZ (by simpa using⟨iq,ip⟩) (aj io .sc) ?_
 by_cases c2:(j4 d.Queue p).2=0
 rotate_left
 ·have:fw d p=(cR,(j4 d.Queue p).2):=by rw[fw,if_pos c1,if_neg c2]
  have d2:=zA c2
  simp -dsimp -implicitDefEqProofs [go_sem,hP,d2]
  exact du (zer _ this)
 simp -dsimp -implicitDefEqProofs [go_sem,hP,c2]
 refine af bl hP Pj (by simpa[an]using ia) (aj .sc .sc) ?_
 cases c3:(bF d.Account p.Sub).2
 ·have:fw d p=(cR,60):=by rw[fw,if_pos c1,if_pos c2,if_neg (by simp[c3])]
  simp -dsimp -implicitDefEqProofs [go_sem,hP,c3]
  exact du (zer _ this)
 simp -dsimp -implicitDefEqProofs [go_sem,hP,c3]
 obtain⟨es,hes⟩:∃es,es=d.Account.Entries:=⟨_,rfl⟩
 obtain⟨l,hl⟩:∃l,l=d.Items:=⟨_,rfl⟩
 obtain⟨q',hq'⟩:∃q',q'=(j4 d.Queue p).1:=⟨_,rfl⟩
 rw[←hes]at le
 rw[←hl]at li
 have hor:es.any (lv p.Warrant)=false→fw d p=(⟨d.Account,q',ins ltI l ⟨p,1,0⟩⟩,0):=fun h=>by rw[fw,if_pos c1,if_pos c2,if_pos c3,if_neg (by rw[←hes,h];simp),hq',hl]
 have hknown:es.any (lv p.Warrant)=true→fw d p=(cR,65):=fun h=>by rw[fw,if_pos c1,if_pos c2,if_pos c3,if_pos (by rw[←hes,h])]
 obtain⟨I,hI⟩:∃I:Nat→St→Prop,I=fun m s=>∃k:Nat,k≤es.length∧m=es.length-k∧es.any (lv p.Warrant)=(es.drop k).any (lv p.Warrant)∧s.t 2= .ref 0 0 0∧s.t 3= .ref 1 0 0∧s.t 4= .ref 2 0 0∧s.t 7= .ref 3 0 0∧s.t 44=cU es∧s.t 45=iv es.length∧s.t 46=iv k∧s.H[0]?=some (some ⟨35,7,[[iv d.Account.Credit,bw d.Account.Subs,cU es,aQ d.Queue.Waiting,eQ d.Queue.Known,cd d.Queue.Batches,fg l]]⟩)∧s.H[1]?=some (some ⟨111,5,[[iv p.Warrant,iv p.Payee,iv p.Amount,iv p.Due,iv p.Sub]]⟩)∧s.H[2]?=some (some ⟨35,7,[[iv 0,.nil,.nil,.nil,.nil,.nil,.nil]]⟩)∧s.H[3]?=some (some ⟨32,3,[[aQ q'.Waiting,eQ q'.Known,cd q'.Batches]]⟩):=⟨_,rfl⟩
 refine az I (es.length) (by rw[hN];rfl) ?_ ?_
 ·rw[hI]
  exact⟨0,by omega,by omega,by rfl,rfl,rfl,rfl,rfl,by simp -dsimp[-getElem?_pos,go_sem,hes],by simp -dsimp[-getElem?_pos,go_sem,hes],rfl,by simp -dsimp[-getElem?_pos,go_sem,hes,hl],rfl,rfl,by simp -dsimp[go_sem,hq']⟩
 intro m s hs'
 rw[hI]at hs'
 obtain⟨k,hk,hm,hq,t2,t3,t4,t7,t44,t45,t46,h0,h1,h2,h3⟩:=hs'
 have lt0:=(gsI h0)
 have lt1:=(gsI h1)
 have lt2:=(gsI h2)
 have lt3:=(gsI h3)
 simp -dsimp -implicitDefEqProofs [go_sem,hP,t45,t46]
 refine aB ?_ ?_<;>intro h
 ·have hk:k<es.length:=by simpa using h
  obtain⟨e,hee⟩:=gkE hk
  have wk:=ae ((k:Int)+1) (by omega)
  have g1:∀x:Option AObj,(s.H++[x])[1]?=s.H[1]?:=fun x=>zD lt1
  have g2:∀x:Option AObj,(s.H++[x])[2]?=s.H[2]?:=fun x=>zD lt2
  rw[dt hee,List.any_cons]at hq
  by_cases c:e.Ref=p.Warrant
  ·rw[show lv p.Warrant e=true by simp[lv,c],Bool.true_or]at hq
   simp -dsimp -implicitDefEqProofs [-getElem?_pos,go_sem,hP,t44,t46,hee,cE,t3,g1,lt1,h1,c,t4,g2,lt2,h2]
   exact du (zer _ (hknown hq))
  ·rw[show lv p.Warrant e=false by simp[lv,c],Bool.false_or]at hq
   have dd:=zA c
   simp -dsimp -implicitDefEqProofs [-getElem?_pos,go_sem,hP,t44,t46,hee,cE,t3,g1,lt1,h1,c,dd,wk]
   refine⟨es.length-(k+1),by omega,?_⟩
   rw[hI]
   exact⟨k+1,by omega,rfl,hq,t2,t3,t4,t7,t44,t45,rfl,by simp -dsimp[-getElem?_pos,go_sem,lt0,h0],by simp -dsimp[-getElem?_pos,go_sem,lt1,h1],by simp -dsimp[-getElem?_pos,go_sem,lt2,h2],by simp -dsimp[-getElem?_pos,go_sem,lt3,h3]⟩
 have hk:k=es.length:=by simp at h;omega
 subst hk
 rw[wG,List.any_nil]at hq
 have hor:=hor hq
 simp -dsimp -implicitDefEqProofs [go_sem,hP]
 clear hI I t44 t45 t46 hm hknown h
 obtain⟨J,hJ⟩:∃I:Nat→St→Prop,I=fun m s=>∃k:Nat,k≤l.length∧m=l.length-k∧ins ltI l ⟨p,1,0⟩=l.take k++ins ltI (l.drop k) ⟨p,1,0⟩∧s.t 2= .ref 0 0 0∧s.t 3= .ref 1 0 0∧s.t 4= .ref 2 0 0∧s.t 7= .ref 3 0 0∧s.t 13=iv k∧s.H[0]?=some (some ⟨35,7,[[iv d.Account.Credit,bw d.Account.Subs,cU es,aQ d.Queue.Waiting,eQ d.Queue.Known,cd d.Queue.Batches,fg l]]⟩)∧s.H[1]?=some (some ⟨111,5,[[iv p.Warrant,iv p.Payee,iv p.Amount,iv p.Due,iv p.Sub]]⟩)∧s.H[2]?=some (some ⟨35,7,[[iv 0,.nil,.nil,.nil,.nil,.nil,.nil]]⟩)∧s.H[3]?=some (some ⟨32,3,[[aQ q'.Waiting,eQ q'.Known,cd q'.Batches]]⟩):=⟨_,rfl⟩
 refine az J (l.length) (by rw[hN];rfl) ?_ ?_
 ·rw[hJ]
  exact⟨0,by omega,by omega,by simp,t2,t3,t4,t7,rfl,h0,h1,h2,h3⟩
 clear t2 t3 t4 t7 h0 h1 h2 h3 lt0 lt1 lt2 lt3 hk
 intro m s hs'
 rw[hJ]at hs'
 obtain⟨k,hk,hm,hi,t2,t3,t4,t7,t13,h0,h1,h2,h3⟩:=hs'
 have lt0:=(gsI h0)
 have lt1:=(gsI h1)
 have lt2:=(gsI h2)
 have lt3:=(gsI h3)
 simp -dsimp -implicitDefEqProofs [go_sem,hP]
 obtain⟨Inv,hInv⟩:∃Inv:St→Prop,Inv=fun s'=>∃b:Bool,s'.t 73=bv b∧(b=true→∃x,l[k]?=some x∧ltI x ⟨p,1,0⟩=true)∧(b=false→ins ltI (l.drop k) ⟨p,1,0⟩=⟨p,1,0⟩::l.drop k)∧s'.t 2= .ref 0 0 0∧s'.t 3= .ref 1 0 0∧s'.t 4= .ref 2 0 0∧s'.t 7= .ref 3 0 0∧s'.t 13=iv k∧s'.H=s.H:=⟨_,rfl⟩
 refine uy Inv ?_ ?_
 ·refine aq (fun _=>true) [] hP (by kernel_rfl) (by kernel_rfl) ?_
  by_cases c:k<l.length
  ·obtain⟨x,hx⟩:=gkE c
   have dk:decide ((k:Int)<(l.length:Int))=true:=zC (by omega)
   by_cases cb:x.Payment.Warrant<p.Warrant
   ·have db:=zC cb
    simp -dsimp -implicitDefEqProofs [-getElem?_pos,go_sem,hP,t2,t13,t3,h0,lt0,h1,lt1,dk,c,hx,cIt,db]
    rw[hInv]
    exact⟨true,rfl,fun _=>⟨x,hx,by simp[ltI,cb]⟩,fun h=>(by cases h),t2,t3,t4,t7,t13,rfl⟩
   ·have db:=zA cb
    simp -dsimp -implicitDefEqProofs [-getElem?_pos,go_sem,hP,t2,t13,t3,h0,lt0,h1,lt1,dk,c,hx,cIt,db]
    rw[hInv]
    exact⟨false,rfl,fun h=>(by cases h),fun _=>by rw[dt hx,AP (by simp[ltI,cb])],t2,t3,t4,t7,t13,rfl⟩
  ·have dk:decide ((k:Int)<(l.length:Int))=false:=zA (by omega)
   simp -dsimp -implicitDefEqProofs [-getElem?_pos,go_sem,hP,t2,t13,t3,h0,lt0,dk,c]
   rw[hInv]
   exact⟨false,rfl,fun h=>(by cases h),fun _=>by rw[vG (by omega),EK],t2,t3,t4,t7,t13,rfl⟩
 clear t2 t3 t4 t7 t13
 rw[hInv]
 rintro s' ⟨b,t73,hb1,hb0,t2,t3,t4,t7,t13,hH⟩
 cases b
 rotate_left
 ·obtain⟨x,hx,hlt⟩:=hb1 rfl
  have hk:k<l.length:=(gsI hx)
  have wk:=ae ((k:Int)+1) (by omega)
  rw[dt hx,A6 hlt]at hi
  simp -dsimp -implicitDefEqProofs [go_sem,hP,t73,t13,wk]
  refine⟨l.length-(k+1),by omega,?_⟩
  rw[hJ]
  refine⟨k+1,by omega,rfl,by rw[hi,ce hx];simp,t2,t3,t4,t7,rfl,?_,?_,?_,?_⟩
  ·dsimp only;rw[hH];exact h0
  ·dsimp only;rw[hH];exact h1
  ·dsimp only;rw[hH];exact h2
  ·dsimp only;rw[hH];exact h3
 rw[hb0 rfl]at hi
 simp -dsimp -implicitDefEqProofs [-getElem?_pos,go_sem,hP,t73,t7,hH,h3,lt3,t2,h0,lt0]
 obtain⟨H1,hH1⟩:∃H1,H1=s.H.set 0 (some (⟨35,7,[[iv d.Account.Credit,bw d.Account.Subs,cU es,aQ q'.Waiting,eQ q'.Known,cd q'.Batches,fg l]]⟩:AObj)):=⟨_,rfl⟩
 have k0:H1[0]?=some (some ⟨35,7,[[iv d.Account.Credit,bw d.Account.Subs,cU es,aQ q'.Waiting,eQ q'.Known,cd q'.Batches,fg l]]⟩):=by rw[hH1,wK lt0]
 have k1:H1[1]?=_:=(show H1[1]?=s.H[1]? by rw[hH1,zH (by omega)]).trans h1
 have k2:H1[2]?=_:=(show H1[2]?=s.H[2]? by rw[hH1,zH (by omega)]).trans h2
 have l1:H1.length=s.H.length:=by rw[hH1,wX]
 rw[←hH1]
 rw[←l1]at lt0 lt1 lt2
 obtain⟨A,hA⟩:∃A,A=l.take k:=⟨_,rfl⟩
 obtain⟨B,hB⟩:∃B,B=l.drop k:=⟨_,rfl⟩
 have lA:A.length=k:=by rw[hA,zY];omega
 have lB:B.length=l.length-k:=by rw[hB,wP]
 rw[←hA,←hB]at hi
 refine aq (fun i=>decide (i=0)||decide (i=1)) [15] hP (by kernel_rfl) (by kernel_rfl) ?_
 simp -dsimp -implicitDefEqProofs [-getElem?_pos,go_sem,hP,t2,t3,t13,k0,lt0,k1,lt1,bL,dL,dD,hk,gS,jo,←hA,←hB,lA,lB]
 have ag:∀(x y:ah),Agree (fun i=>decide (i=0)||decide (i=1)) (H1++x) (H1++y):=fun x y j hj=>by
  simp only[wZ,zI]at hj
  rw[zD (by omega),zD (by omega)]
 have ag0:∀(y:ah),Agree (fun i=>decide (i=0)||decide (i=1)) H1 (H1++y):=fun y=>by
  have:=ag [] y
  rwa[wY]at this
 refine⟨by omega,by omega,ag0 _,by omega,by omega,ag _ _,by omega,by omega,ag _ _,?_⟩
 have eIt:ao TItem.cells A++[iv p.Warrant,iv p.Payee,iv p.Amount,iv p.Due,iv p.Sub,AV.sc (.int .i64 1),AV.sc (.int .i64 0)]::ao TItem.cells B=ao TItem.cells (ins ltI l ⟨p,1,0⟩):=by
  rw[hi]
  simp[ao,cIt]
 have n20:¬2=0:=by omega
 have n02:¬0=2:=by omega
 have lt0':2<(H1.set 0 (some (⟨35,7,[[iv d.Account.Credit,bw d.Account.Subs,cU es,aQ q'.Waiting,eQ q'.Known,cd q'.Batches,.sref (H1.length+2) 0 (k+1+(l.length-k))]]⟩:AObj))).length:=by rw[wX];exact lt2
 rw[eIt]
 simp -dsimp -implicitDefEqProofs [-getElem?_pos,go_sem,hP,t4,k2,lt2,n20,n02,lt0']
 refine dO (cs':=TDesk.cells ⟨d.Account,q',ins ltI l ⟨p,1,0⟩⟩) ?_ ?_
 ·rw[cDn,←hes]
  refine xA (dg (aU _) (dg (pz _) (dg (cg _) (dg (gK _) (dg (iV _) (gP (ty:=195) ?_ ?_ (Di _) .nil))))))
  ·rw[zN (by simp)]
   simp
  ·rw[ar,p9];omega
 ·rw[hR,hor]
end Go.Proofs.YtfbogibogkbhmaaGreatDoor
