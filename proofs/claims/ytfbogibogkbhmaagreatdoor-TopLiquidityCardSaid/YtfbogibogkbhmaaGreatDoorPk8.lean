/- Several texts of this claim, joined: AccNet Rec9 Rec10 Rec16 Rec17 Rec18 PlayOdd BatGen AccGen Rec19 Rec20 Rec21 Rec8 RecSane RecSnd Positions Sane29 Splits UpTo29 Fc1 Fc2 RegT Rr1 Rr2 Rr3 Rg1. -/
import Derived.Test.YtfbogibogkbhmaaGreatDoorPk7
set_option linter.unusedSimpArgs false
set_option linter.unusedVariables false
set_option maxRecDepth 4000
namespace Go.Proofs.YtfbogibogkbhmaaGreatDoor
open Go.PA
def dE (id:Int) (e:TEntry):Int:=(if e.To=id then e.Amount else 0)-(if e.From=id then e.Amount else 0)
def Cy (id:Int) (es:List TEntry):Int:=yC (dE id) es
theorem vi (f:TEntry→Int) (e:TEntry) (l:List TEntry):yC f (e::l)=f e+yC f l:=by simp[yC]
theorem Lz {credit n d:Int} {l:List TSub} {e:TEntry} (h:(aV credit n d l e).1=0):(aV credit n d l e).2=l.map fun s=>⟨s.ID,s.Balance+dE s.ID e⟩:=by
 obtain⟨_,_,_,_,_,_,_,hne,_,_,_,_,h2⟩:=kC h
 rw[h2,adj,adj,List.map_map]
 apply vA
 intro s _
 simp only[Function.comp,dE]
 by_cases h1:s.ID=e.From
 ·have h3:¬s.ID=e.To:=fun h=>hne (h1.symm.trans h)
  have h3':¬e.To=s.ID:=fun h=>h3 h.symm
  simp[h1,h3,h3',hne,Ne.symm hne];try omega
 ·have h1':¬e.From=s.ID:=fun h=>h1 h.symm
  by_cases h3:s.ID=e.To
  ·simp[h1,h3,h1',Ne.symm hne,hne]
  ·have h3':¬e.To=s.ID:=fun h=>h3 h.symm
   simp[h1,h3,h1',h3']
theorem xu (credit:Int):∀(es:List TEntry) (n d:Int) (l:List TSub) (r:Int×Int×List TSub),bD credit n d l es=some r→r.2.2=l.map fun s=>⟨s.ID,s.Balance+Cy s.ID es⟩
 |[],n,d,l,r,h=>by
  simp only[bD,zB]at h
  subst h
  simp[Cy,yC]
 |e::es,n,d,l,r,h=>by
  rw[bD]at h
  split at h
  ·rename_i hp
   rw[xu credit es _ _ _ r h,Lz hp,List.map_map]
   apply vA
   intro s _
   simp only[Function.comp,Cy,vi]
   congr 1
   omega
  ·cases h
theorem Qs (l:List TSub) (es:List TEntry):((cC l).map fun s=>(⟨s.ID,s.Balance+Cy s.ID es⟩:TSub))=(ids l).map fun i=>⟨i,Cy i es⟩:=by
 simp[cC,ids,Function.comp_def]
theorem NC {a:TAccount} (h:aF a=0):a.Subs=(ids a.Subs).map fun i=>⟨i,Cy i a.Entries⟩:=by
 obtain⟨_,_,_,_,h5⟩:=iI h
 have:=xu _ _ _ _ _ _ h5
 rw[Qs]at this
 exact this
theorem lH {a b:Option AObj} {l l':ah}:Agree (fun id=>decide (id<2)) (a::b::l) (a::b::l'):=fun id hid=>by
 have:id<2:=by simpa using hid
 rcases id with _|_|id
 ·rfl
 ·rfl
 ·omega
def nP (f:Int→Int) (l:List Int):Int:=(l.map f).sum
theorem ii (f:Int→Int) (i:Int) (l:List Int):nP f (i::l)=f i+nP f l:=by simp[nP]
theorem Fm (f g:Int→Int):∀l:List Int,nP (fun i=>f i+g i) l=nP f l+nP g l
 |[]=>by simp[nP]
 |i::l=>by rw[ii,ii,ii,Fm f g l];omega
theorem Hr (f g:Int→Int):∀l:List Int,nP (fun i=>f i-g i) l=nP f l-nP g l
 |[]=>by simp[nP]
 |i::l=>by rw[ii,ii,ii,Hr f g l];omega
theorem Dk:∀l:List Int,nP (fun _=>0) l=0
 |[]=>by simp[nP]
 |i::l=>by rw[ii,Dk l];omega
theorem zo (x A:Int):∀l:List Int,l.Nodup→nP (fun i=>if x=i then A else 0) l=if x∈l then A else 0
 |[],_=>by simp[nP]
 |i::l,h=>by
  rw[List.nodup_cons]at h
  rw[ii,zo x A l h.2]
  by_cases h1:x=i
  ·subst h1
   simp[h.1]
  ·simp[h1]
def ioE (e:TEntry):Int:=(if e.From=0 then e.Amount else 0)-(if e.To=0 then e.Amount else 0)
theorem SW {l:List Int} (hn:l.Nodup) (h0:0∉l) {e:TEntry} (hf:e.From=0∨e.From∈l) (ht:e.To=0∨e.To∈l):nP (fun i=>dE i e) l=ioE e:=by
 unfold dE
 rw[Hr,zo _ _ _ hn,zo _ _ _ hn,ioE]
 have k:∀x:Int,(x=0∨x∈l)→(if x∈l then e.Amount else 0)=e.Amount-(if x=0 then e.Amount else 0):=fun x hx=>by
  by_cases h:x=0
  ·subst h;simp[h0]
  ·simp[h,hx.resolve_left h]
 rw[k _ hf,k _ ht]
 omega
theorem Db {l:List Int} (hn:l.Nodup) (h0:0∉l):∀es:List TEntry,(∀e,e∈es→(e.From=0∨e.From∈l)∧(e.To=0∨e.To∈l))→nP (fun i=>Cy i es) l=yC ioE es
 |[],_=>by simp[Cy,yC];exact Dk l
 |e::es,h=>by
  simp only[Cy,vi]
  rw[Fm]
  have:=Db hn h0 es fun x hx=>h x (uC _ hx)
  simp only[Cy]at this
  rw[this,SW hn h0 (h e (by simp)).1 (h e (by simp)).2]
theorem QL (g:Int→Int) (l:List Int):pF (l.map fun i=>⟨i,g i⟩)=nP g l:=by simp[pF,nP,Function.comp_def]
theorem MZ {a:TAccount} (h:aF a=0):pF a.Subs=yC ioE a.Entries:=by
 obtain⟨_,_,_,h4,_⟩:=iI h
 obtain⟨hn,h0,_⟩:=nA h4
 rw[NC h,QL]
 exact Db hn h0 _ fun e he=>(CX h e he).2.2.2.2.2
theorem M1 {a:TAccount} (h:aF a=0):mC a=yC ioE a.Entries:=by rw[mC,if_pos h,MZ h]
theorem sD {a:TAccount} {e:TEntry} (h:(bX a e).2=0):aF a=0∧a.Entries.length<400∧(aV a.Credit (cu a).Number (cu a).Day a.Subs e).1=0∧(bX a e).1=⟨a.Credit,(aV a.Credit (cu a).Number (cu a).Day a.Subs e).2,a.Entries++[e]⟩:=by
 unfold bX at h⊢
 by_cases c1:aF a=0
 ·rw[if_pos c1]at h⊢
  by_cases c2:a.Entries.length=400
  ·rw[if_pos c2]at h;simp at h
  ·rw[if_neg c2]at h⊢
   by_cases c3:(aV a.Credit (cu a).Number (cu a).Day a.Subs e).1=0
   ·rw[if_pos c3]
    have:=(iI c1).2.1
    exact⟨c1,by omega,c3,rfl⟩
   ·rw[if_neg c3]at h
    exact absurd h c3
 ·rw[if_neg c1]at h
  exact absurd h c1
theorem jD {a:TAccount} {e:TEntry} (h:(bX a e).2=0):aF (bX a e).1=0:=by
 obtain⟨c1,c2,c3,c4⟩:=sD h
 obtain⟨k1,k2,k3,k4,k5⟩:=iI c1
 rw[c4]
 have hi:=kx a.Credit (cu a).Number (cu a).Day a.Subs e
 have hl:(aV a.Credit (cu a).Number (cu a).Day a.Subs e).2.length=a.Subs.length:=by rw[←fG,hi,fG]
 have hz:cC (aV a.Credit (cu a).Number (cu a).Day a.Subs e).2=cC a.Subs:=by
  have:∀l:List TSub,cC l=(ids l).map fun i=>⟨i,0⟩:=fun l=>by simp[cC,ids,Function.comp_def]
  rw[this,this,hi]
 refine FW (n:=e.Number) (d:=e.Day) (by dsimp only;omega) (by simp;omega) k3 (by dsimp only;rw[hi];exact k4) ?_
 dsimp only
 rw[hz,wy,k5]
 simp only[Option.bind_some,bD,c3,if_true]
theorem zg {a:TAccount} {e:TEntry} (h:(bX a e).2=0):cu (bX a e).1=e:=by
 rw[(sD h).2.2.2,cu]
 simp
theorem tw {a:TAccount} {e:TEntry} (h:(bX a e).2=0):ids (bX a e).1.Subs=ids a.Subs:=by
 rw[(sD h).2.2.2]
 exact kx _ _ _ _ _
theorem iF {a:TAccount} {e:TEntry} (h:(bX a e).2=0):(bX a e).1.Entries=a.Entries++[e]:=by rw[(sD h).2.2.2]
theorem pC {a:TAccount} {e:TEntry} (h:(bX a e).2=0):(bX a e).1.Credit=a.Credit:=by rw[(sD h).2.2.2]
structure GenAcc (n:Nat) (a:TAccount):Prop where
 ok:aF a=0
 ids:ids a.Subs=[1,2,3,7]
 len:a.Entries.length≤n
 day:(cu a).Day≤2*(n:Int)
 small:∀e,e∈a.Entries→e.Amount≤500
 cred:a.Credit≤100
theorem GenAcc.post {n:Nat} {a:TAccount} {e:TEntry} (h:GenAcc n a) (hp:(bX a e).2=0) (hd:e.Day≤2*((n:Int)+1)) (ha:e.Amount≤500):GenAcc (n+1) (bX a e).1:=by
 refine⟨jD hp,(tw hp).trans h.ids,?_,?_,?_,by rw[pC hp];exact h.cred⟩
 ·rw[iF hp];have:=h.len;simp;omega
 ·rw[zg hp];omega
 ·rw[iF hp]
  intro x hx
  rcases wA.1 hx with hx|hx
  ·exact h.small x hx
  ·simp at hx;subst hx;exact ha
theorem GenAcc.mono {n m:Nat} {a:TAccount} (h:GenAcc n a) (hm:n≤m):GenAcc m a:=⟨h.ok,h.ids,by have:=h.len;omega,by have:=h.day;omega,h.small,h.cred⟩
theorem GenAcc.slen {n:Nat} {a:TAccount} (h:GenAcc n a):a.Subs.length=4:=by rw[←fG,h.ids];rfl
theorem GenAcc.open {c:Int} (hc:0≤c∧c≤100):GenAcc 0 (lr [1,2,3,7] c)∧oC [1,2,3,7] c=(lr [1,2,3,7] c,0):=by
 have hv:vB c=true:=by simp[vB,bu];omega
 have hb:iJ [1,2,3,7]=true:=by decide
 refine⟨⟨FW (n:=0) (d:=0) (by simp[lr,sV]) (by simp[lr]) (by simp[lr];omega) (by simp only[lr,Ao];exact hb) (by simp[lr,sV,cC,bD]),by simp[lr,Ao],by simp[lr],by simp[lr,cu],by simp[lr],by simp[lr];omega⟩,?_⟩
 unfold oC
 rw[if_pos hv,if_neg (by simp),if_pos hb]
open Go.PA
open Go.RowKit
theorem qf (ws:List Int) (x:TItem):(fE ws x).Payment=x.Payment:=by unfold fE;split<;>rfl
theorem CK (ws:List Int) (l:List TItem):(l.map (fE ws)).map wrt=l.map wrt:=by
 rw[List.map_map]
 exact vA fun x _=>by simp[wrt,qf]
theorem NF (l:List TItem):l.map (fE [])=l:=by
 have:fE []=id:=funext fun x=>by simp[fE]
 rw[this,List.map_id]
theorem Mv {l:List TItem} (hn:(l.map wrt).Nodup) {ws:List Int} {i:Nat} {x:TItem} (hx:l[i]?=some x) (hw:x.Payment.Warrant∉ws):
  (l.map (fE ws))[i]?=some x∧(l.map (fE ws)).set i ⟨x.Payment,2,x.Attempts+1⟩=l.map (fE (ws++[x.Payment.Warrant])):=by
 refine⟨by rw[zR,hx,vI,fE,if_neg hw],?_⟩
 apply List.ext_getElem?
 intro j
 rw[wO,zR,zR,wL]
 by_cases hij:i=j
 ·subst hij
  rw[if_pos rfl,if_pos (gsI hx),hx,vI,fE,if_pos (by simp)]
 ·rw[if_neg hij]
  cases hj:l[j]? with
  |none=>rfl
  |some y=>
   have hne:y.Payment.Warrant≠x.Payment.Warrant:=fun e=>by
    have e1:(l.map wrt)[i]?=some x.Payment.Warrant:=by rw[zR,hx];rfl
    have e2:(l.map wrt)[j]?=some x.Payment.Warrant:=by rw[zR,hj,←e];rfl
    exact hij ((List.getElem?_inj (gsI e1) hn).1 (e1.trans e2.symm))
   simp[fE,hne]
theorem kF (q:TQueue) (day:Int):(gV q day).Sublist q.Waiting:=by
 unfold gV
 split
 ·exact List.filter_sublist
 ·exact List.nil_sublist _
theorem Md {q:TQueue} (hq:QOk q) (day:Int):((gV q day).map (·.Warrant)).Nodup:=hq.asc.nd.sublist ((kF q day).map _)
theorem uM {d:TDesk} (hd:DOk d) {p:TPayment} (hp:p∈d.Queue.Waiting):∃(i:Nat) (x:TItem),d.Items[i]?=some x∧x.Payment=p∧x.State=1:=by
 have hw:∀x,x∈d.Items→pR d.Queue x=true:=fun x hx=>by
  have:=hd.i x hx
  simp only[rn,zG]at this
  exact this.2.2.2.2.1
 obtain⟨h1,h2⟩:=(uk hd.q hd.k).1 hw
 obtain⟨x,hx,hs,e⟩:=G2 hd.q hd.k h1 h2 p hp
 obtain⟨i,hi⟩:=wN hx
 exact⟨i,x,hi,e,hs⟩
theorem Kq {d:TDesk} (hd:DOk d) {x:TItem} (hx:x∈d.Items):PayOk x.Payment∧(bF d.Account x.Payment.Sub).2=true∧(1≤x.State∧x.State≤5)∧(0≤x.Attempts∧x.Attempts≤5)∧B5 x=true∧pR d.Queue x=true∧(oJ d.Queue x.Payment.Warrant:Int)=x.Attempts∧mj d.Account x=true:=by
 have:=hd.i x hx
 simp only[rn,zG,g8,dH,zI]at this
 obtain⟨h1,h2,h3,h4,h5,h6,h7⟩:=this
 refine⟨h1,h2,h3,?_,h4,h5,h6,h7⟩
 simp only[B5,zG,dH]at h4
 exact h4.1
theorem LT {q:TQueue} (h:q.Batches.length=0):fU q=0:=by
 rw[fU,wF h]
 rfl
theorem Ln {q:TQueue} {k:Nat} {b:TBatch} (h:q.Batches.length=k+1) (hb:q.Batches[k]?=some b):fU q=b.Day:=by
 rw[fU,List.getLast?_eq_getElem?,h]
 simp[hb]
theorem p7 {a:TAccount} (h:aF a=0):a.Subs.length≤100000∧a.Entries.length≤100000:=by
 have:=iI h
 omega
theorem r7 (day:Int):∀(l:List TPayment) (a:TAccount) (ws:List Int) (full:Bool),ws.length≤10→(fA day l a ws full).2.1.length≤10
 |[],a,ws,full,h=>h
 |p::l,a,ws,full,h=>by
  rw[fA]
  split
  ·exact h
  ·split
   ·exact r7 day l _ _ _ (by rw[zK,vN];omega)
   ·exact r7 day l _ _ _ h
theorem xq {a:TAccount} (h:aF a=0):0≤cZ a:=(oQ h).2.2.1
open Go.PA
open Go.RowKit
abbrev kX:AObj:=⟨35,7,[[iv 0,.nil,.nil,.nil,.nil,.nil,.nil]]⟩
abbrev xH:AObj:=⟨161,3,[[iv 0,iv 0,.nil]]⟩
theorem eg {H:ah} {n:Int} {Q:AV→Prop} {b:Bx Q} (h:Q (.tup [.agg cR.cells,.agg dU.cells,iv n])):jh H (.tup [.agg [iv 0,.nil,.nil,.nil,.nil,.nil,.nil],.agg [iv 0,iv 0,.nil],iv n]) Q b:=qb GD Fk h
open Go.PA
open Go.RowKit
theorem vr (day:Int):∀(l:List TPayment) (a:TAccount) (ws:List Int) (full:Bool),∃us,us.Sublist (l.map (·.Warrant))∧(fA day l a ws full).2.1=ws++us
 |[],a,ws,full=>⟨[],by simp,by simp[fA]⟩
 |p::l,a,ws,full=>by
  rw[fA]
  split
  ·exact⟨[],by simp,by simp⟩
  ·split
   ·obtain⟨us,h1,h2⟩:=vr day l (bX a (fT a day p.Sub 0 p.Amount p.Warrant)).1 (ws++[p.Warrant]) full
    exact⟨p.Warrant::us,by rw[wD];exact h1.cons_cons _,by rw[h2];simp⟩
   ·obtain⟨us,h1,h2⟩:=vr day l a ws (full||decide ((bX a (fT a day p.Sub 0 p.Amount p.Warrant)).2=3))
    exact⟨us,by rw[wD];exact h1.cons _,h2⟩
theorem U0 {d:TDesk} (hq:QOk d.Queue) (day:Int):(goD d day).2.1.Nodup∧∀w,w∈(goD d day).2.1→∃p,p∈gV d.Queue day∧p.Warrant=w:=by
 obtain⟨us,h1,h2⟩:=vr day (gV d.Queue day) d.Account [] false
 rw[goD,h2,vY]
 refine⟨(Md hq day).sublist h1,fun w hw=>?_⟩
 obtain⟨p,hp,e⟩:=zV.1 (h1.subset hw)
 exact⟨p,hp,e⟩
theorem rB (day:Int):∀(l:List TPayment) (a:TAccount) (ws:List Int) (full:Bool),aF a=0→aF (fA day l a ws full).1=0
 |[],a,ws,full,h=>h
 |p::l,a,ws,full,h=>by
  rw[fA]
  split
  ·exact h
  ·split
   ·rename_i hp
    exact rB day l _ _ _ (jD hp)
   ·exact rB day l _ _ _ h
abbrev yu (a:TAccount):AObj:=⟨28,3,[[iv a.Credit,bw a.Subs,cU a.Entries]]⟩
set_option maxHeartbeats 8000000 in
theorem Nj (d:TDesk) (day:Int) (hf:FitD d):PFun Tryz.prog none none 81 [.agg d.cells,iv day] (·= .tup [.agg (fI d day).1.cells,.agg (fI d day).2.1.cells,iv (fI d day).2.2]):=by
 refine ee Tryz.func81 rfl (by simp[Tryz.f81]) ?_
 intro E hP hr hs hW hN
 have li:=hf.i
 have lb:=hf.q.b
 have le:=hf.e
 have id':=ba d
 have ia:=cQ d.Account
 have ck:=pq d hf
 simp only[cDn]at id' ck
 simp only[cA]at ia
 obtain⟨R,hR⟩:∃R,R=AV.tup [.agg (fI d day).1.cells,.agg (fI d day).2.1.cells,iv (fI d day).2.2]:=⟨_,rfl⟩
 rw[←hR]
 have zer:∀n,fI d day=(cR,dU,n)→AV.tup [.agg cR.cells,.agg dU.cells,iv n]=R:=fun n h=>by rw[hR,h]
 refine aM (by rw[hN];kernel_rfl) ?_
 simp -dsimp -implicitDefEqProofs [-getElem?_pos,go_sem,hP,cDn]
 refine aM (by rw[hN];kernel_rfl) ?_
 simp -dsimp -implicitDefEqProofs [-getElem?_pos,go_sem,hP]
 refine af ck hP Jv (by simpa using id') .sc ?_
 by_cases c1:bS d=0
 rotate_left
 ·have:fI d day=(cR,dU,bS d):=by rw[fI,if_neg c1]
  simp -dsimp -implicitDefEqProofs [-getElem?_pos,go_sem,hP,c1]
  exact eg (zer _ this)
 have hd:=fd.1 c1
 simp -dsimp -implicitDefEqProofs [-getElem?_pos,go_sem,hP,c1]
 refine aM (by rw[hN];kernel_rfl) ?_
 by_cases b1:day<0
 ·have:fI d day=(cR,dU,66):=by rw[fI,if_pos c1,if_neg (by rw[iG,fp (by omega)];simp)]
  simp -dsimp -implicitDefEqProofs [-getElem?_pos,go_sem,hP,b1]
  exact eg (zer _ this)
 have f1:=zA b1
 by_cases b2:36000<day
 ·have:fI d day=(cR,dU,66):=by rw[fI,if_pos c1,if_neg (by rw[iG,fp (by omega)];simp)]
  simp -dsimp -implicitDefEqProofs [-getElem?_pos,go_sem,hP,b1,f1,b2]
  exact eg (zer _ this)
 have f2:=zA b2
 simp -dsimp -implicitDefEqProofs [-getElem?_pos,go_sem,hP,f1,f2]
 refine ai (kL day) hP Kf (ak (by simp -dsimp[-getElem?_pos,go_sem])) .sc ?_
 cases c2:iG day
 ·have:fI d day=(cR,dU,66):=by rw[fI,if_pos c1,if_neg (by simp[c2])]
  simp -dsimp -implicitDefEqProofs [-getElem?_pos,go_sem,hP,c2]
  exact eg (zer _ this)
 simp -dsimp -implicitDefEqProofs [-getElem?_pos,go_sem,hP,c2]
 refine aM (by rw[hN];kernel_rfl) ?_
 simp -dsimp -implicitDefEqProofs [-getElem?_pos,go_sem,hP]
 refine aq (fun _=>true) [] hP (by kernel_rfl) (by kernel_rfl) ?_
 simp -dsimp -implicitDefEqProofs [-getElem?_pos,go_sem,hP]
 obtain⟨bs,hbs⟩:∃bs,bs=d.Queue.Batches:=⟨_,rfl⟩
 obtain⟨es,hes⟩:∃es,es=d.Account.Entries:=⟨_,rfl⟩
 obtain⟨Inv,hInv⟩:∃Inv:St→Prop,Inv=fun s=>¬(day<fU d.Queue∨day<cZ d.Account)∧s.t 1=iv day∧s.t 2= .ref 0 0 0∧s.t 4= .ref 1 0 0∧s.t 5= .ref 2 0 0∧s.H=[some (jT d),some kX,some xH]:=⟨_,rfl⟩
 refine eN Inv (by rw[hN];kernel_rfl) ?_ ?_
 ·have late:(day<fU d.Queue∨day<cZ d.Account)→fI d day=(cR,dU,8):=fun h=>by rw[fI,if_pos c1,if_pos c2,if_pos h]
  have hdp:=xq hd.a
  have hd0:0≤day:=by omega
  rw[←hbs]at lb
  rw[←hes]at le
  have lE:es.length=0→cZ d.Account=0:=fun h=>by rw[cZ,vt (by rw[←hes];exact h)]
  have lE1:∀(j:Nat) (e:TEntry),es.length=j+1→es[j]?=some e→cZ d.Account=e.Day:=fun j e h h'=>by rw[cZ,ue (k:=j) (e:=e) (by rw[←hes];exact h) (by rw[←hes];exact h')]
  have lQ:bs.length=0→fU d.Queue=0:=fun h=>LT (by rw[←hbs];exact h)
  have lQ1:∀(j:Nat) (e:TBatch),bs.length=j+1→bs[j]?=some e→fU d.Queue=e.Day:=fun j e h h'=>Ln (k:=j) (by rw[←hbs];exact h) (by rw[←hbs];exact h')
  rcases wR bs.length with n0|n0
  ·have e0:decide (0<bs.length)=false:=zA (by omega)
   have lq:=lQ n0
   rcases wR es.length with m0|m0
   ·have e1:decide (0<es.length)=false:=zA (by omega)
    have:=lE m0
    simp -dsimp -implicitDefEqProofs [-getElem?_pos,go_sem,hP,←hbs,←hes,e0,e1]
    refine⟨_,Weaker.refl _,?_⟩
    rw[hInv]
    exact⟨by omega,rfl,rfl,rfl,rfl,by simp[jT,hbs,hes]⟩
   ·obtain⟨j,hj⟩:∃j,es.length=j+1:=⟨_,(Nat.succ_pred_eq_of_pos m0).symm⟩
    obtain⟨e,hee⟩:∃e,es[j]?=some e:=⟨_,zF (by omega)⟩
    have wj:IntKind.i64.wrap (j:Int)=(j:Int):=ae _ (by omega)
    have hle:=lE1 j e hj hee
    by_cases c3:day<e.Day
    ·have d3:=zC c3
     simp -dsimp -implicitDefEqProofs [-getElem?_pos,go_sem,hP,←hbs,←hes,e0,m0,hj,wj,vC,hee,cE,d3]
     exact eg (zer _ (late (.inr (by omega))))
    ·have d3:=zA c3
     simp -dsimp -implicitDefEqProofs [-getElem?_pos,go_sem,hP,←hbs,←hes,e0,m0,hj,wj,vC,hee,cE,d3]
     refine⟨_,Weaker.refl _,?_⟩
     rw[hInv]
     exact⟨by omega,rfl,rfl,rfl,rfl,by simp[jT,hbs,hes]⟩
  ·obtain⟨i,hi⟩:∃i,bs.length=i+1:=⟨_,(Nat.succ_pred_eq_of_pos n0).symm⟩
   obtain⟨b,hb⟩:∃b,bs[i]?=some b:=⟨_,zF (by omega)⟩
   have wi:IntKind.i64.wrap (i:Int)=(i:Int):=ae _ (by omega)
   have hlb:=lQ1 i b hi hb
   by_cases c4:day<b.Day
   ·have d4:=zC c4
    simp -dsimp -implicitDefEqProofs [-getElem?_pos,go_sem,hP,←hbs,←hes,n0,hi,wi,vC,hb,cBt,d4]
    exact eg (zer _ (late (.inl (by omega))))
   have d4:=zA c4
   rcases wR es.length with m0|m0
   ·have e1:decide (0<es.length)=false:=zA (by omega)
    have:=lE m0
    simp -dsimp -implicitDefEqProofs [-getElem?_pos,go_sem,hP,←hbs,←hes,n0,hi,wi,hb,cBt,d4,e1]
    refine⟨_,Weaker.refl _,?_⟩
    rw[hInv]
    exact⟨by omega,rfl,rfl,rfl,rfl,by simp[jT,hbs,hes]⟩
   ·obtain⟨j,hj⟩:∃j,es.length=j+1:=⟨_,(Nat.succ_pred_eq_of_pos m0).symm⟩
    obtain⟨e,hee⟩:∃e,es[j]?=some e:=⟨_,zF (by omega)⟩
    have wj:IntKind.i64.wrap (j:Int)=(j:Int):=ae _ (by omega)
    have hle:=lE1 j e hj hee
    by_cases c3:day<e.Day
    ·have d3:=zC c3
     simp -dsimp -implicitDefEqProofs [-getElem?_pos,go_sem,hP,←hbs,←hes,n0,hi,wi,hb,cBt,d4,m0,hj,wj,vC,hee,cE,d3]
     exact eg (zer _ (late (.inr (by omega))))
    ·have d3:=zA c3
     simp -dsimp -implicitDefEqProofs [-getElem?_pos,go_sem,hP,←hbs,←hes,n0,hi,wi,hb,cBt,d4,m0,hj,wj,vC,hee,cE,d3]
     refine⟨_,Weaker.refl _,?_⟩
     rw[hInv]
     exact⟨by omega,rfl,rfl,rfl,rfl,by simp[jT,hbs,hes]⟩
 intro s hs'
 rw[hInv]at hs'
 obtain⟨c3,t1,t2,t4,t5,hH⟩:=hs'
 clear hInv Inv
 refine aM (by rw[hN];kernel_rfl) ?_
 simp -dsimp -implicitDefEqProofs [-getElem?_pos,go_sem,hP,t2,hH]
 refine aM (by rw[hN];kernel_rfl) ?_
 simp -dsimp -implicitDefEqProofs [-getElem?_pos,go_sem,hP]
 refine aM (by rw[hN];kernel_rfl) ?_
 simp -dsimp -implicitDefEqProofs [-getElem?_pos,go_sem,hP]
 obtain⟨rl,hrl⟩:∃rl,rl=gV d.Queue day:=⟨_,rfl⟩
 have hg:goD d day=fA day rl d.Account [] false:=by rw[hrl];rfl
 have hll:rl.length≤100000:=by
  have:=(kF d.Queue day).length_le
  have:=hf.q.w
  rw[hrl]
  omega
 have hca:=rB day rl d.Account [] false hd.a
 have hcl:=r7 day rl d.Account [] false (by simp)
 rw[←hg]at hca hcl
 obtain⟨Inv,hInv⟩:∃Inv:St→Prop,Inv=fun s=>s.t 1=iv day∧s.t 2= .ref 0 0 0∧s.t 4= .ref 1 0 0∧s.t 5= .ref 2 0 0∧s.t 10= .ref 3 0 0∧s.t 11=eQ (goD d day).2.1∧s.t 12=bv (goD d day).2.2∧s.H[0]?=some (some (jT d))∧s.H[1]?=some (some kX)∧s.H[2]?=some (some xH)∧s.H[3]?=some (some (yu (goD d day).1)):=⟨_,rfl⟩
 refine eN Inv (by rw[hN];kernel_rfl) ?_ ?_
 ·have rp:=Jd d.Queue day hf.q
  have iq:=df d.Queue
  have irl:=cg rl
  rw[←hrl]at rp
  simp only[cQn]at rp iq
  simp -dsimp -implicitDefEqProofs [-getElem?_pos,go_sem,hP,t2,t1]
  refine af rp hP Ux (by simpa[an]using iq) irl ?_
  simp -dsimp -implicitDefEqProofs [-getElem?_pos,go_sem,hP]
  refine cV 11 3 1 rfl ?_
  obtain⟨I,hI⟩:∃I:Nat→St→Prop,I=fun m s=>∃(k wid:Nat) (a:TAccount) (ws:List Int) (full:Bool),k≤rl.length∧m=rl.length-k∧goD d day=fA day (rl.drop k) a ws full∧aF a=0∧ws.length≤10∧4≤wid∧s.t 1=iv day∧s.t 2= .ref 0 0 0∧s.t 4= .ref 1 0 0∧s.t 5= .ref 2 0 0∧s.t 10= .ref 3 0 0∧s.t 11= .sref wid 0 ws.length∧s.t 12=bv full∧s.t 89=aQ rl∧s.t 90=iv rl.length∧s.t 91=iv k∧s.H[0]?=some (some (jT d))∧s.H[1]?=some (some kX)∧s.H[2]?=some (some xH)∧s.H[3]?=some (some (yu a))∧s.H[wid]?=some (some ⟨3,1,ao eE ws⟩):=⟨_,rfl⟩
  refine az I (rl.length) (by rw[hN];rfl) ?_ ?_
  ·rw[hI]
   refine⟨0,4,d.Account,[],false,by omega,by omega,by rw[hg];rfl,hd.a,by simp,by omega,t1,t2,t4,t5,rfl,rfl,rfl,rfl,rfl,rfl,rfl,rfl,rfl,rfl,by simp -dsimp[-getElem?_pos,go_sem,ao]⟩
  clear t1 t2 t4 t5 hg
  intro m s hs'
  rw[hI]at hs'
  obtain⟨k,wid,a,ws,full,hk,hm,hgo,hca,hw10,hwid,t1,t2,t4,t5,t10,t11,t12,t89,t90,t91,h0,h1,h2,h3,hH⟩:=hs'
  have g0:=(gsI h0)
  have g1:=(gsI h1)
  have g2:=(gsI h2)
  have g3:=(gsI h3)
  have gw:=(gsI hH)
  have fin:goD d day=(a,ws,full)→∀s':St,s'.t 1=iv day→s'.t 2= .ref 0 0 0→s'.t 4= .ref 1 0 0→s'.t 5= .ref 2 0 0→s'.t 10= .ref 3 0 0→s'.t 11= .sref wid 0 ws.length→s'.t 12=bv full→s'.H[0]?=some (some (jT d))→s'.H[1]?=some (some kX)→s'.H[2]?=some (some xH)→s'.H[3]?=some (some (yu a))→s'.H[wid]?=some (some ⟨3,1,ao eE ws⟩)→Wa E Inv s':=fun e s' a1 a2 a3 a4 a0 a5 a6 a7 a8 a9 a10 a11=>by
   have lw:((ao eE ws).drop 0).take ws.length=ao eE ws:=by rw[vW,zQ (by rw[ar];exact zZ _)]
   refine⟨_,Ae hW 11 a5 a11 (by dsimp only;rw[lw];exact gK ws),?_⟩
   rw[hInv,e]
   dsimp only
   rw[lw]
   refine⟨a1,a2,a3,a4,a0,rfl,a6,?_,?_,?_,?_⟩
   ·rw[zH (by omega),a7]
   ·rw[zH (by omega),a8]
   ·rw[zH (by omega),a9]
   ·rw[zH (by omega),a10]
  simp -dsimp -implicitDefEqProofs [-getElem?_pos,go_sem,hP,t90,t91]
  refine aB ?_ ?_<;>intro hh
  rotate_left
  ·have hk:k=rl.length:=by simp at hh;omega
   subst hk
   rw[wG,fA]at hgo
   simp -dsimp -implicitDefEqProofs [-getElem?_pos,go_sem,hP]
   exact fin hgo _ t1 t2 t4 t5 t10 t11 t12 h0 h1 h2 h3 hH
  have hk:k<rl.length:=by simpa using hh
  obtain⟨p,hp⟩:=gkE hk
  have wk:=ae ((k:Int)+1) (by omega)
  rw[dt hp,fA]at hgo
  by_cases c5:ws.length=10
  ·have d5:decide ((ws.length:Int)=10)=true:=zC (by omega)
   rw[if_pos c5]at hgo
   simp -dsimp -implicitDefEqProofs [-getElem?_pos,go_sem,hP,t89,t91,hp,cPy,t11,hH,gw,d5,c5]
   exact fin hgo _ t1 t2 t4 t5 t10 t11 t12 (by simp -dsimp[-getElem?_pos,go_sem,h0,g0]) (by simp -dsimp[-getElem?_pos,go_sem,h1,g1]) (by simp -dsimp[-getElem?_pos,go_sem,h2,g2]) (by simp -dsimp[-getElem?_pos,go_sem,h3,g3]) (by simp -dsimp[-getElem?_pos,go_sem,hH,gw])
  have d5:decide ((ws.length:Int)=10)=false:=zA (by omega)
  rw[if_neg c5]at hgo
  simp -dsimp -implicitDefEqProofs [-getElem?_pos,go_sem,hP,t89,t91,hp,cPy,t11,hH,gw,d5,c5]
  obtain⟨pb,hpb⟩:∃pb,pb=s.H.length:=⟨_,rfl⟩
  obtain⟨H1,hH1⟩:∃H1,H1=s.H++[some (⟨111,5,[[iv p.Warrant,iv p.Payee,iv p.Amount,iv p.Due,iv p.Sub]]⟩:AObj)]:=⟨_,rfl⟩
  have l1:H1.length=pb+1:=by rw[hH1,hpb];simp
  have k0:H1[0]?=some (some (jT d)):=by rw[hH1,zD g0];exact h0
  have k1:H1[1]?=some (some kX):=by rw[hH1,zD g1];exact h1
  have k2:H1[2]?=some (some xH):=by rw[hH1,zD g2];exact h2
  have k3:H1[3]?=some (some (yu a)):=by rw[hH1,zD g3];exact h3
  have kw:H1[wid]?=some (some ⟨3,1,ao eE ws⟩):=by rw[hH1,zD gw];exact hH
  have kp:H1[pb]?=some (some ⟨111,5,[[iv p.Warrant,iv p.Payee,iv p.Amount,iv p.Due,iv p.Sub]]⟩):=by rw[hH1,hpb,zN (zZ _),Nat.sub_self];rfl
  simp only[←hH1,←hpb]
  have q0:0<H1.length:=by omega
  have q1:1<H1.length:=by omega
  have q2:2<H1.length:=by omega
  have q3:3<H1.length:=by omega
  have qw:wid<H1.length:=by omega
  have qp:pb<H1.length:=by omega
  have sl:=p7 hca
  have iac:=cQ a
  have nx:=uR a day p.Sub 0 p.Amount p.Warrant sl.2
  obtain⟨e,hee⟩:∃e,e=fT a day p.Sub 0 p.Amount p.Warrant:=⟨_,rfl⟩
  rw[←hee]at nx hgo
  have ie:=gR e
  have po:=uo a e sl.1 sl.2
  have io:=cQ (bX a e).1
  simp only[cA]at iac nx po io
  refine v7 (fun i=>decide (i=3)||decide (i=pb)) [15] [9,10] hP (by kernel_rfl) (by kernel_rfl) ?_
  simp -dsimp -implicitDefEqProofs [-getElem?_pos,go_sem,hP,t10,t1,k3,q3,kp,qp]
  refine gl (nx.lift _ _) hP Pr (by simpa[an]using iac) ie ?_
  simp -dsimp -implicitDefEqProofs [-getElem?_pos,go_sem,hP,t10,t1,k3,q3,kp,qp]
  refine gl (po.lift _ _) hP Qc (by simpa using⟨iac,ie⟩) (aj io .sc) ?_
  obtain⟨b,hb⟩:∃b,b=(bX a e).1:=⟨_,rfl⟩
  obtain⟨H2',hH2⟩:∃H2',H2'=H1++[some (yu b)]:=⟨_,rfl⟩
  have l2:H2'.length=pb+2:=by rw[hH2];simp;omega
  have j0:H2'[0]?=some (some (jT d)):=by rw[hH2,zD q0];exact k0
  have j1:H2'[1]?=some (some kX):=by rw[hH2,zD q1];exact k1
  have j2:H2'[2]?=some (some xH):=by rw[hH2,zD q2];exact k2
  have j3:H2'[3]?=some (some (yu a)):=by rw[hH2,zD q3];exact k3
  have jw:H2'[wid]?=some (some ⟨3,1,ao eE ws⟩):=by rw[hH2,zD qw];exact kw
  have jp:H2'[pb]?=some (some ⟨111,5,[[iv p.Warrant,iv p.Payee,iv p.Amount,iv p.Due,iv p.Sub]]⟩):=by rw[hH2,zD qp];exact kp
  have ja:H2'[pb+1]?=some (some (yu b)):=by rw[hH2,←l1,zN (zZ _),Nat.sub_self];rfl
  have z0:0<H2'.length:=by omega
  have z1:1<H2'.length:=by omega
  have z2:2<H2'.length:=by omega
  have z3:3<H2'.length:=by omega
  have zw:wid<H2'.length:=by omega
  have zp:pb<H2'.length:=by omega
  have za:pb+1<H2'.length:=by omega
  rw[←hb]at hgo
  simp -dsimp -implicitDefEqProofs [-getElem?_pos,go_sem,hP,t10,t1,k3,q3,kp,qp]
  refine⟨fun i hi=>?_,?_⟩
  ·simp only[wZ,zI]at hi
   rw[zD (by omega)]
  rw[←hb,←hH2,l1]
  have lws:(ao eE ws).length=ws.length:=ar _ _
  have wpb:wid<pb:=by rw[hpb];exact gw
  have nw3:¬wid=3:=by omega
  have next:∀(s':St) (wid':Nat) (a':TAccount) (ws':List Int) (full':Bool),goD d day=fA day (rl.drop (k+1)) a' ws' full'→aF a'=0→ws'.length≤10→4≤wid'→s'.t 1=iv day→s'.t 2= .ref 0 0 0→s'.t 4= .ref 1 0 0→s'.t 5= .ref 2 0 0→s'.t 10= .ref 3 0 0→s'.t 11= .sref wid' 0 ws'.length→s'.t 12=bv full'→s'.t 89=aQ rl→s'.t 90=iv rl.length→s'.t 91=iv (k+1)→s'.H[0]?=some (some (jT d))→s'.H[1]?=some (some kX)→s'.H[2]?=some (some xH)→s'.H[3]?=some (some (yu a'))→s'.H[wid']?=some (some ⟨3,1,ao eE ws'⟩)→∃m',m'<m∧I m' s':=fun s' wid' a' ws' full' x1 x2 x3 x4 x5 x6 x7 x8 x9 x10 x11 x12 x13 x14 x15 x16 x17 x18 x19=>by
   refine⟨rl.length-(k+1),by omega,?_⟩
   rw[hI]
   exact⟨k+1,wid',a',ws',full',by omega,rfl,x1,x2,x3,x4,x5,x6,x7,x8,x9,x10,x11,x12,x13,x14,x15,x16,x17,x18,x19⟩
  by_cases c6:(bX a e).2=0
  rotate_left
  ·rw[if_neg c6]at hgo
   have d6:=zA c6
   cases full
   ·rw[Bool.false_or]at hgo
    simp -dsimp -implicitDefEqProofs [-getElem?_pos,go_sem,hP,t12,c6,d6,t91,wk]
    exact next _ wid a ws _ hgo hca hw10 hwid t1 t2 t4 t5 t10 t11 rfl t89 t90 rfl j0 j1 j2 j3 jw
   ·rw[Bool.true_or]at hgo
    simp -dsimp -implicitDefEqProofs [-getElem?_pos,go_sem,hP,t12,c6,d6,t91,wk]
    exact next _ wid a ws _ hgo hca hw10 hwid t1 t2 t4 t5 t10 t11 rfl t89 t90 rfl j0 j1 j2 j3 jw
  have en:ao eE ws++[[AV.sc (.int .i64 p.Warrant)]]=ao eE (ws++[p.Warrant]):=aX eE ws p.Warrant
  have old:∀j,j≠wid→j≠3→j<H2'.length→((List.set H2' wid none).set 3 (some (yu b))++[some (⟨3,1,ao eE ws++[[AV.sc (.int .i64 p.Warrant)]]⟩:AObj)])[j]?=H2'[j]?:=fun j h1 h3 h2=>by
   rw[zD (by rw[wX,wX];exact h2),zH (Ne.symm h3),zH (Ne.symm h1)]
  have u3:((List.set H2' wid none).set 3 (some (yu b))++[some (⟨3,1,ao eE ws++[[AV.sc (.int .i64 p.Warrant)]]⟩:AObj)])[3]?=some (some (yu b)):=by rw[zD (by rw[wX,wX];exact z3),wK (by rw[wX];exact z3)]
  have uw:((List.set H2' wid none).set 3 (some (yu b))++[some (⟨3,1,ao eE ws++[[AV.sc (.int .i64 p.Warrant)]]⟩:AObj)])[pb+2]?=some (some ⟨3,1,ao eE (ws++[p.Warrant])⟩):=by
   rw[←l2,zN (by simp),wX,wX,Nat.sub_self,en];rfl
  cases full
  ·rw[if_pos c6]at hgo
   simp -dsimp -implicitDefEqProofs [-getElem?_pos,go_sem,hP,t12,c6]
   refine aq (fun i=>decide (i=pb)||decide (i=pb+1)) [6] hP (by kernel_rfl) (by kernel_rfl) ?_
   simp -dsimp -implicitDefEqProofs [-getElem?_pos,go_sem,hP,t10,t11,j3,z3,jp,zp,ja,za,jw,zw,lws,nw3,t91,wk]
   refine⟨by omega,by omega,fun j hj=>?_,?_⟩
   ·simp only[wZ,zI]at hj
    rw[zD (by rw[wX];omega),zH (by omega)]
   exact next _ (pb+2) b (ws++[p.Warrant]) _ hgo (hb▸jD c6) (by rw[zK,vN];omega) (by omega) t1 t2 t4 t5 t10 (by simp -dsimp[-getElem?_pos,go_sem,l2]) rfl t89 t90 rfl ((old 0 (by omega) (by omega) z0).trans j0) ((old 1 (by omega) (by omega) z1).trans j1) ((old 2 (by omega) (by omega) z2).trans j2) u3 uw
  ·rw[if_pos c6]at hgo
   simp -dsimp -implicitDefEqProofs [-getElem?_pos,go_sem,hP,t12,c6]
   refine aq (fun i=>decide (i=pb)||decide (i=pb+1)) [6] hP (by kernel_rfl) (by kernel_rfl) ?_
   simp -dsimp -implicitDefEqProofs [-getElem?_pos,go_sem,hP,t10,t11,j3,z3,jp,zp,ja,za,jw,zw,lws,nw3,t91,wk]
   refine⟨by omega,by omega,fun j hj=>?_,?_⟩
   ·simp only[wZ,zI]at hj
    rw[zD (by rw[wX];omega),zH (by omega)]
   exact next _ (pb+2) b (ws++[p.Warrant]) _ hgo (hb▸jD c6) (by rw[zK,vN];omega) (by omega) t1 t2 t4 t5 t10 (by simp -dsimp[-getElem?_pos,go_sem,l2]) rfl t89 t90 rfl ((old 0 (by omega) (by omega) z0).trans j0) ((old 1 (by omega) (by omega) z1).trans j1) ((old 2 (by omega) (by omega) z2).trans j2) u3 uw
 intro s hs'
 rw[hInv]at hs'
 obtain⟨t1,t2,t4,t5,t10,t11,t12,h0,h1,h2,h3⟩:=hs'
 clear hInv Inv
 obtain⟨G,hG⟩:∃G,G=goD d day:=⟨_,rfl⟩
 have hws:=U0 hd.q day
 rw[←hG]at t11 t12 h3 hws hca hcl
 have g0:=(gsI h0)
 have g1:=(gsI h1)
 have g2:=(gsI h2)
 have g3:=(gsI h3)
 have hsd:fI d day=if G.2.1.length=0 then (cR,dU,if G.2.2=true then 3 else 10)else if (cK d.Queue day G.2.1).2.2=0 then (⟨G.1,(cK d.Queue day G.2.1).1,d.Items.map (fE G.2.1)⟩,(cK d.Queue day G.2.1).2.1,0)else (cR,dU,(cK d.Queue day G.2.1).2.2):=by
  rw[fI,if_pos c1,if_pos c2,if_neg c3,←hG]
 refine be _ _ _ (by rw[hN];kernel_rfl) ?_
 by_cases c4:G.2.1.length=0
 ·rw[if_pos c4]at hsd
  have d4:decide ((G.2.1.length:Int)=0)=true:=zC (by omega)
  cases hfull:G.2.2
  ·rw[hfull]at t12 hsd
   simp -dsimp -implicitDefEqProofs [-getElem?_pos,go_sem,hP,t11,d4,c4,t4,t5,h1,g1,h2,g2,t12]
   exact eg (zer _ hsd)
  ·rw[hfull]at t12 hsd
   simp -dsimp -implicitDefEqProofs [-getElem?_pos,go_sem,hP,t11,d4,c4,t4,t5,h1,g1,h2,g2,t12]
   exact eg (zer _ hsd)
 rw[if_neg c4]at hsd
 have d4:decide ((G.2.1.length:Int)=0)=false:=zA (by omega)
 have lG:G.2.1.length≤100000:=by omega
 have tk:=NO d.Queue day G.2.1 hf.q lG
 have iq:=df d.Queue
 have iqq:=df (cK d.Queue day G.2.1).1
 have ibb:=D4 (cK d.Queue day G.2.1).2.1
 have iws:=gK G.2.1
 have e1:aA G.2.1=eQ G.2.1:=rfl
 simp only[cQn,cBt,e1]at tk iq iqq ibb
 simp -dsimp -implicitDefEqProofs [-getElem?_pos,go_sem,hP,t11,d4,c4,t1,t2,h0,g0]
 refine af tk hP T5 (by simp[an];exact⟨by simpa using iq,iws⟩) (eF iqq ibb .sc) ?_
 by_cases c5:(cK d.Queue day G.2.1).2.2=0
 rotate_left
 ·rw[if_neg c5]at hsd
  have d5:=zA c5
  simp -dsimp -implicitDefEqProofs [-getElem?_pos,go_sem,hP,d5,t4,t5,h1,g1,h2,g2]
  exact eg (zer _ hsd)
 rw[if_pos c5]at hsd
 obtain⟨q',hq'⟩:∃q',q'=(cK d.Queue day G.2.1).1:=⟨_,rfl⟩
 obtain⟨bt,hbt⟩:∃bt,bt=(cK d.Queue day G.2.1).2.1:=⟨_,rfl⟩
 simp only[←hq',←hbt]at hsd iqq ibb
 simp -dsimp -implicitDefEqProofs [-getElem?_pos,go_sem,hP,c5,←hq',←hbt]
 obtain⟨n,hn⟩:∃n,n=s.H.length:=⟨_,rfl⟩
 obtain⟨H5,hH5⟩:∃H5,H5=s.H++[some ⟨32,3,[[aQ q'.Waiting,eQ q'.Known,cd q'.Batches]]⟩,some (⟨161,3,[[iv bt.Number,iv bt.Day,aQ bt.Payments]]⟩:AObj)]:=⟨_,rfl⟩
 have l5:H5.length=n+2:=by rw[hH5,hn];simp
 have old:∀j,j<s.H.length→H5[j]?=s.H[j]?:=fun j h2=>by rw[hH5,zD h2]
 have u0:=(old 0 g0).trans h0
 have u1:=(old 1 g1).trans h1
 have u2:=(old 2 g2).trans h2
 have u3:=(old 3 g3).trans h3
 have uq:H5[n]?=some (some ⟨32,3,[[aQ q'.Waiting,eQ q'.Known,cd q'.Batches]]⟩):=by rw[hH5,hn,zN (zZ _),Nat.sub_self];rfl
 have ub:H5[n+1]?=some (some ⟨161,3,[[iv bt.Number,iv bt.Day,aQ bt.Payments]]⟩):=by rw[hH5,hn,zN (by omega),Nat.add_sub_cancel_left];rfl
 rw[←hn]at g0 g1 g2 g3
 rw[←hH5,←hn]
 have v0:0<H5.length:=by omega
 have v3:3<H5.length:=by omega
 have vq:n<H5.length:=by omega
 have vb:n+1<H5.length:=by omega
 refine aq (fun i=>decide (i=3)||decide (i=n)) [2,4,5] hP (by kernel_rfl) (by kernel_rfl) ?_
 simp -dsimp -implicitDefEqProofs [-getElem?_pos,go_sem,hP,t10,t2,u3,v3,uq,vq,u0,v0]
 refine⟨fun j hj=>?_,?_⟩
 ·simp only[wZ,zI]at hj
  rw[zH (by omega)]
 simp -dsimp -implicitDefEqProofs [-getElem?_pos,go_sem,hP,t11]
 obtain⟨ws,hwsd⟩:∃ws,ws=G.2.1:=⟨_,rfl⟩
 rw[←hwsd]at hws hsd
 have lws10:ws.length≤10:=by rw[hwsd];exact hcl
 obtain⟨K,hK⟩:∃I:Nat→St→Prop,I=fun m s=>∃k:Nat,k≤ws.length∧m=ws.length-k∧s.t 2= .ref 0 0 0∧s.t 4= .ref 1 0 0∧s.t 5= .ref 2 0 0∧s.t 18= .ref (n+1) 0 0∧s.t 152=eQ ws∧s.t 153=iv ws.length∧s.t 154=iv k∧s.H[0]?=some (some (jT ⟨G.1,q',d.Items.map (fE (ws.take k))⟩))∧s.H[1]?=some (some kX)∧s.H[2]?=some (some xH)∧s.H[n+1]?=some (some ⟨161,3,[[iv bt.Number,iv bt.Day,aQ bt.Payments]]⟩):=⟨_,rfl⟩
 refine az K (ws.length) (by rw[hN];rfl) ?_ ?_
 ·rw[hK]
  refine⟨0,by omega,by omega,t2,t4,t5,by simp -dsimp[-getElem?_pos,go_sem,hn],by simp -dsimp[-getElem?_pos,go_sem,hwsd],by simp -dsimp[-getElem?_pos,go_sem,hwsd],rfl,?_,?_,?_,?_⟩
  ·rw[List.take_zero,NF]
   simp -dsimp -implicitDefEqProofs [-getElem?_pos,go_sem,v0]
  ·dsimp only;rw[zH (by omega)];exact u1
  ·dsimp only;rw[zH (by omega)];exact u2
  ·dsimp only;rw[zH (by omega)];exact ub
 clear t1 t2 t4 t5 t10 t11 t12 h0 h1 h2 h3 u0 u1 u2 u3 uq ub
 intro m s hs'
 rw[hK]at hs'
 obtain⟨k,hk,hm,t2,t4,t5,t18,t152,t153,t154,h0,h1,h2,hb⟩:=hs'
 have g0:=(gsI h0)
 have g1:=(gsI h1)
 have g2:=(gsI h2)
 have gb:=(gsI hb)
 simp -dsimp -implicitDefEqProofs [-getElem?_pos,go_sem,hP,t153,t154]
 refine aB ?_ ?_<;>intro hh
 ·have hk:k<ws.length:=by simpa using hh
  obtain⟨w,hw⟩:=gkE hk
  have wk:=ae ((k:Int)+1) (by omega)
  obtain⟨p,hp,hpw⟩:=hws.2 w (zE hw)
  obtain⟨i,x,hx,hxp,hxs⟩:=uM hd ((kF d.Queue day).subset hp)
  have hxw:x.Payment.Warrant=w:=by rw[hxp,hpw]
  have hnw:w∉ws.take k:=fun h=>by
   have h2:ws=ws.take k++ws.drop k:=(vV k ws).symm
   have h1:=hws.1
   rw[h2]at h1
   refine (List.nodup_append.1 h1).2.2 _ h w ?_ rfl
   rw[dt hw]
   simp
  obtain⟨hxL,hset⟩:=Mv hd.nd hx (ws:=ws.take k) (by rw[hxw];exact hnw)
  have hxa:0≤x.Attempts∧x.Attempts≤5:=(Kq hd (zE hx)).2.2.2.1
  have wa:=ae (x.Attempts+1) (by omega)
  obtain⟨L,hL⟩:∃L,L=d.Items.map (fE (ws.take k)):=⟨_,rfl⟩
  have lL:L.length=d.Items.length:=by rw[hL,wL]
  have hLw:L.map wrt=d.Items.map wrt:=by rw[hL,CK]
  rw[←hL]at h0 hxL hset
  rw[hxw,←ce hw]at hset
  have hpos:sy L w=i:=by rw[←hxw];exact yK (by rw[hLw];exact hd.nd) hxL
  have rt:=Ph ⟨G.1,q',L⟩ w (by simp only;omega)
  have wt:=tN ⟨G.1,q',L⟩ i ⟨x.Payment,2,x.Attempts+1⟩ (by simp only;omega) (by simp only;exact (gsI hxL))
  have iL:=ba ⟨G.1,q',L⟩
  have iL2:=ba ⟨G.1,q',L.set i ⟨x.Payment,2,x.Attempts+1⟩⟩
  have ix2:=eI ⟨x.Payment,2,x.Attempts+1⟩
  rw[hset]at wt iL2
  simp only[hpos]at rt
  simp only[cDn,cIt]at rt wt iL iL2 ix2
  simp -dsimp -implicitDefEqProofs [-getElem?_pos,go_sem,hP,t152,t154,hw,eE,t2,h0,g0]
  refine af rt hP Pc (by simpa[an]using iL) .sc ?_
  simp -dsimp -implicitDefEqProofs [-getElem?_pos,go_sem,hP,t2,h0,g0,hxL,cIt,wa]
  refine af wt hP AB (by simpa[an]using⟨iL,ix2⟩) iL2 ?_
  have g0':∀y:Option AObj,(s.H++[y])[0]?=s.H[0]?:=fun y=>zD g0
  simp -dsimp -implicitDefEqProofs [-getElem?_pos,go_sem,hP,t2,g0',h0,g0,t154,wk]
  refine⟨ws.length-(k+1),by omega,?_⟩
  rw[hK]
  refine⟨k+1,by omega,rfl,t2,t4,t5,t18,t152,t153,rfl,?_,?_,?_,?_⟩
  ·simp -dsimp -implicitDefEqProofs [-getElem?_pos,go_sem,g0]
  ·simp -dsimp -implicitDefEqProofs [-getElem?_pos,go_sem,g1,h1]
  ·simp -dsimp -implicitDefEqProofs [-getElem?_pos,go_sem,g2,h2]
  ·have nb:¬0=n+1:=by omega
   simp -dsimp -implicitDefEqProofs [-getElem?_pos,go_sem,gb,hb,nb]
 ·have hk:k=ws.length:=by simp at hh;omega
  subst hk
  rw[zT]at h0
  simp -dsimp -implicitDefEqProofs [-getElem?_pos,go_sem,hP]
  have n12:¬1=2:=by omega
  refine aq (fun i=>decide (i=0)||decide (i=n+1)) [] hP (by kernel_rfl) (by kernel_rfl) ?_
  simp -dsimp -implicitDefEqProofs [-getElem?_pos,go_sem,hP,t2,t4,t5,t18,h0,g0,h1,g1,h2,g2,hb,gb,n12]
  refine⟨fun j hj=>?_,fun j hj=>?_,?_⟩
  ·simp only[wZ,zI]at hj
   rw[zH (by omega)]
  ·simp only[wZ,zI]at hj
   rw[zH (by omega)]
  have iD:=ba ⟨G.1,q',d.Items.map (fE ws)⟩
  refine qb (cs':=TDesk.cells ⟨G.1,q',d.Items.map (fE ws)⟩) (ds':=TBatch.cells bt) (yF (bH.1 iD)) (yF (bH.1 ibb)) ?_
  rw[hR,hsd]
open Go.PA
open Go.RowKit
theorem IW {q:TQueue} (hq:QOk q) {x:TItem}:pR q x=true↔(x.State=1∧x.Payment∈q.Waiting)∨(x.State≠1∧∀p,p∈q.Waiting→p.Warrant≠x.Payment.Warrant):=by
 unfold pR
 cases hw:j7 q x.Payment.Warrant with
 |none=>
  have h:=nJ.1 hw
  simp only[vQ,wH]
  constructor
  ·intro e
   exact .inr ⟨e,h⟩
  ·rintro (⟨_,hm⟩|⟨e,_⟩)
   ·exact absurd rfl (h _ hm)
   ·exact e
 |some w=>
  obtain⟨h1,h2⟩:=nu hw
  simp only[zG,zI]
  constructor
  ·rintro⟨e,he⟩
   exact .inl ⟨e,he▸h1⟩
  ·rintro (⟨e,hm⟩|⟨_,hn⟩)
   ·exact⟨e,y9 hq.asc.nd h1 hm h2⟩
   ·exact absurd h2 (hn _ h1)
theorem K4 {a:TAccount} {id:Int}:(bF a id).2=true↔aF a=0∧id∈ids a.Subs:=by
 unfold bF
 split
 ·rename_i h
  constructor
  ·intro e
   refine⟨h,?_⟩
   cases hf:a.Subs.find? (fun s=>decide (s.ID=id))with
   |none=>rw[hf]at e;cases e
   |some s=>exact zV.2 ⟨s,vU hf,by simpa using List.find?_some hf⟩
  ·rintro⟨_,hm⟩
   obtain⟨s,hs,e⟩:=zV.1 hm
   cases hf:a.Subs.find? (fun s=>decide (s.ID=id))with
   |none=>
    have:=List.find?_eq_none.1 hf s hs
    simp[e]at this
   |some s=>rfl
 ·rename_i h
  exact⟨fun e=>(by cases e),fun e=>absurd e.1 h⟩
structure IOk (d:TDesk) (x:TItem):Prop where
 pay:PayOk x.Payment
 sub:aF d.Account=0∧x.Payment.Sub∈ids d.Account.Subs
 st:1≤x.State∧x.State≤5
 att:0≤x.Attempts∧x.Attempts≤5
 a5:¬(x.Attempts=5∧x.State=1)
 a0:¬(x.Attempts=0∧x.State≠1∧x.State≠5)
 w:(x.State=1∧x.Payment∈d.Queue.Waiting)∨(x.State≠1∧∀p,p∈d.Queue.Waiting→p.Warrant≠x.Payment.Warrant)
 bat:(oJ d.Queue x.Payment.Warrant:Int)=x.Attempts
 all:∀e,e∈d.Account.Entries→e.Ref=x.Payment.Warrant→e.Amount=x.Payment.Amount∧(e.From=x.Payment.Sub∧e.To=0∨e.From=0∧e.To=x.Payment.Sub)
 outs:(d.Account.Entries.countP (fJ x.Payment):Int)=x.Attempts
 ins:(d.Account.Entries.countP (inE x.Payment):Int)+dZ x=x.Attempts
theorem Tg {p:TPayment} {e:TEntry}:okE p e=true↔(e.Ref=p.Warrant→e.Amount=p.Amount∧(e.From=p.Sub∧e.To=0∨e.From=0∧e.To=p.Sub)):=by
 unfold okE
 by_cases h:e.Ref=p.Warrant
 ·simp[h]
 ·simp[h]
theorem OG {x:TItem}:B5 x=true↔(0≤x.Attempts∧x.Attempts≤5)∧¬(x.Attempts=5∧x.State=1)∧¬(x.Attempts=0∧x.State≠1∧x.State≠5):=by
 unfold B5
 rw[zG,zG,dH,vQ,vQ,Bool.and_eq_false_iff,Bool.and_eq_false_iff,Bool.not_eq_false',wZ,wH,wH,wH,zI,zI]
 omega
theorem DI {d:TDesk} (hq:QOk d.Queue) {x:TItem}:rn d x=true↔IOk d x:=by
 simp only[rn,mj,zG,g8,K4,dH,OG,IW hq,zI,zS,Tg]
 constructor
 ·rintro⟨h1,h2,h3,⟨h4,h5,h6⟩,h7,h8,h9,h10,h11⟩
  exact⟨h1,h2,h3,h4,h5,h6,h7,h8,h9,h10,h11⟩
 ·rintro⟨h1,h2,h3,h4,h5,h6,h7,h8,h9,h10,h11⟩
  exact⟨h1,h2,h3,⟨h4,h5,h6⟩,h7,h8,h9,h10,h11⟩
theorem DOk.io {d:TDesk} (h:DOk d) {x:TItem} (hx:x∈d.Items):IOk d x:=(DI h.q).1 (h.i x hx)
theorem DOk.mk' {d:TDesk} (a:aF d.Account=0) (q:QOk d.Queue) (k:d.Items.map wrt=d.Queue.Known) (i:∀x,x∈d.Items→IOk d x):DOk d:=⟨a,q,k,fun x hx=>(DI q).2 (i x hx)⟩
theorem G6 {a:TAccount} (h:(jW a).2=0):jW a=(⟨a,bU,[]⟩,0)∧aF a=0∧(∀e,e∈a.Entries→e.Ref=0)∧DOk ⟨a,bU,[]⟩:=by
 unfold jW at h⊢
 by_cases c1:aF a=0
 rotate_left
 ·rw[if_neg c1]at h
  exact absurd h c1
 rw[if_pos c1]at h⊢
 by_cases c2:(a.Entries.any fun e=>!lv 0 e)=true
 ·rw[if_pos c2]at h
  simp at h
 rw[if_neg c2]
 refine⟨rfl,c1,fun e he=>?_,DOk.mk' c1 QQ rfl (by simp)⟩
 have:=List.any_eq_false.1 (Bool.eq_false_iff.2 c2) e he
 simpa[lv]using this
theorem ri {α β:Type} (f:α→β) (p:β→Bool):∀l:List α,(l.map f).takeWhile p=(l.takeWhile fun x=>p (f x)).map f
 |[]=>rfl
 |a::l=>by
  rw[wD,List.takeWhile_cons,List.takeWhile_cons,ri f p l]
  cases p (f a)<;>rfl
theorem q8 {α β:Type} (f:α→β) (p:β→Bool):∀l:List α,(l.map f).dropWhile p=(l.dropWhile fun x=>p (f x)).map f
 |[]=>rfl
 |a::l=>by
  rw[wD,List.dropWhile_cons,List.dropWhile_cons,q8 f p l]
  cases p (f a)<;>rfl
theorem Sn (l:List TItem) (y:TItem):(ins ltI l y).map wrt=ins ltB (l.map wrt) (wrt y):=by
 unfold ins
 rw[List.map_append,wD,ri,q8]
 rfl
theorem My {q:TQueue} (h:QOk q) {w:Int} (hw:w∉q.Known):oJ q w=0:=by
 unfold oJ
 have:∀b,b∈q.Batches→b.Payments.countP (dJ w)=0:=fun b hb=>by
  rw[List.countP_eq_zero]
  intro p hp e
  have e:p.Warrant=w:=by simpa[dJ]using e
  exact hw (e▸(kd h.bats b hb).2.2.1.kn p hp)
 rw[vA (g:=fun _=>0) this]
 induction q.Batches with
 |nil=>rfl
 |cons a l ih=>rw[wD,List.sum_cons,ih]
theorem LV {d x:TDesk} {p:TPayment} (h:fw d p=(x,0)):DOk d∧PayOk p∧p.Warrant∉d.Queue.Known∧x=⟨d.Account,⟨ins g7 d.Queue.Waiting p,ins ltB d.Queue.Known p.Warrant,d.Queue.Batches⟩,ins ltI d.Items ⟨p,1,0⟩⟩∧DOk x:=by
 unfold fw at h
 by_cases c1:bS d=0
 rotate_left
 ·rw[if_neg c1]at h
  exact absurd (congrArg Prod.snd h) c1
 rw[if_pos c1]at h
 by_cases c2:(j4 d.Queue p).2=0
 rotate_left
 ·rw[if_neg c2]at h
  exact absurd (congrArg Prod.snd h) c2
 rw[if_pos c2]at h
 by_cases c3:(bF d.Account p.Sub).2=true
 rotate_left
 ·rw[if_neg c3]at h
  simp at h
 rw[if_pos c3]at h
 by_cases c4:d.Account.Entries.any (lv p.Warrant)=true
 ·rw[if_pos c4]at h
  simp at h
 rw[if_neg c4]at h
 have hd:=fd.1 c1
 obtain⟨a1,a2,a3,a4,a5,a6,a7⟩:=Sa (x:=(j4 d.Queue p).1) (q:=d.Queue) (p:=p) (by rw[←c2])
 have hx:=(congrArg Prod.fst h).symm
 simp only at hx
 rw[a6]at hx a7
 have hne:∀e,e∈d.Account.Entries→e.Ref≠p.Warrant:=fun e he=>by
  have:=List.any_eq_false.1 (Bool.eq_false_iff.2 c4) e he
  simpa[lv]using this
 refine⟨hd,a2,a3,hx,?_⟩
 rw[hx]
 refine DOk.mk' hd.a a7 ?_ fun y hy=>?_
 ·rw[Sn,hd.k]
  rfl
 rcases fH.1 hy with rfl|hy
 ·refine⟨a2,K4.1 c3,by simp,by simp,by simp,by simp,.inl ⟨rfl,fH.2 (.inl rfl)⟩,?_,fun e he er=>absurd er (hne e he),?_,?_⟩
  ·exact (show ((oJ d.Queue p.Warrant:Nat):Int)=0 by rw[My hd.q a3];rfl)
  ·rw[List.countP_eq_zero.2 fun e he=>by simp[fJ,hne e he]];rfl
  ·rw[List.countP_eq_zero.2 fun e he=>by simp[inE,hne e he]];rfl
 ·have io:=hd.io hy
  have hyk:y.Payment.Warrant∈d.Queue.Known:=by rw[←hd.k];exact zV.2 ⟨y,hy,rfl⟩
  have hyp:p.Warrant≠y.Payment.Warrant:=fun e=>a3 (e▸hyk)
  refine⟨io.pay,io.sub,io.st,io.att,io.a5,io.a0,?_,io.bat,io.all,io.outs,io.ins⟩
  rcases io.w with⟨h1,h2⟩|⟨h1,h2⟩
  ·exact .inl ⟨h1,fH.2 (.inr h2)⟩
  ·refine .inr ⟨h1,fun z hz=>?_⟩
   rcases fH.1 hz with rfl|hz
   ·exact hyp
   ·exact h2 z hz
theorem yN {l:List TItem} {k:Nat} {x y:TItem} (hx:l[k]?=some x) (e:y.Payment.Warrant=x.Payment.Warrant):(l.set k y).map wrt=l.map wrt:=by
 rw[List.map_set]
 apply List.ext_getElem?
 intro j
 rw[wO,wL]
 by_cases hj:k=j
 ·subst hj
  rw[if_pos rfl,if_pos (gsI hx),zR,hx]
  exact congrArg some e
 ·rw[if_neg hj]
theorem fN {l:List TItem} (hn:(l.map wrt).Nodup) {k:Nat} {x y z:TItem} (hx:l[k]?=some x) (hz:z∈l.set k y):z=y∨(z∈l∧z.Payment.Warrant≠x.Payment.Warrant):=by
 obtain⟨j,hj⟩:=wN hz
 rw[wO]at hj
 by_cases hk:k=j
 ·subst hk
  rw[if_pos rfl,if_pos (gsI hx)]at hj
  exact .inl (wT hj).symm
 ·rw[if_neg hk]at hj
  refine .inr ⟨zE hj,fun e=>hk ?_⟩
  have e1:(l.map wrt)[k]?=some x.Payment.Warrant:=by rw[zR,hx];rfl
  have e2:(l.map wrt)[j]?=some x.Payment.Warrant:=by rw[zR,hj,←e];rfl
  exact (List.getElem?_inj (gsI e1) hn).1 (e1.trans e2.symm)
theorem nG {d x:TDesk} {w st:Int} {f:TDesk→TItem→Done1} (h:gq d w st f=(x,0)):DOk d∧∃(k:Nat) (y:TItem),d.Items[k]?=some y∧y.Payment.Warrant=w∧y.State=st∧(f d y).e=0∧x=⟨(f d y).a,(f d y).q,d.Items.set k (f d y).x⟩:=by
 by_cases c1:bS d=0
 rotate_left
 ·rw[xO c1]at h
  exact absurd (congrArg Prod.snd h) c1
 by_cases c2:w∈d.Items.map wrt
 rotate_left
 ·rw[sU c1 c2]at h
  simp at h
 obtain⟨y,hy,e⟩:=zV.1 c2
 obtain⟨k,hk⟩:=wN hy
 have e:y.Payment.Warrant=w:=e
 subst e
 rw[r8 c1 hk]at h
 by_cases c3:y.State=st
 ·rw[if_pos c3]at h
  by_cases c4:(f d y).e=0
  ·rw[if_pos c4]at h
   exact⟨fd.1 c1,k,y,hk,rfl,c3,c4,(congrArg Prod.fst h).symm⟩
  ·rw[if_neg c4]at h
   exact absurd (congrArg Prod.snd h) c4
 ·rw[if_neg c3]at h
  simp at h
theorem Kg {d x:TDesk} {w:Int} (h:jJ d w=(x,0)):DOk d∧(∃(k:Nat) (y:TItem),d.Items[k]?=some y∧y.Payment.Warrant=w∧y.State=2∧x=⟨d.Account,d.Queue,d.Items.set k ⟨y.Payment,3,y.Attempts⟩⟩)∧DOk x:=by
 obtain⟨hd,k,y,h1,h2,h3,_,h5⟩:=nG h
 have hx:x=⟨d.Account,d.Queue,d.Items.set k ⟨y.Payment,3,y.Attempts⟩⟩:=h5
 refine⟨hd,⟨k,y,h1,h2,h3,hx⟩,?_⟩
 rw[hx]
 refine DOk.mk' hd.a hd.q ((yN (y:=⟨y.Payment,3,y.Attempts⟩) h1 rfl).trans hd.k) fun z hz=>?_
 rcases fN hd.nd h1 hz with rfl|⟨hz,hne⟩
 ·have io:=hd.io (zE h1)
  refine⟨io.pay,io.sub,by simp,io.att,by simp,fun e=>io.a0 ⟨e.1,by omega,by omega⟩,.inr ⟨by simp,?_⟩,io.bat,io.all,io.outs,?_⟩
  ·rcases io.w with⟨e,_⟩|⟨_,e⟩
   ·omega
   ·exact e
  ·have:=io.ins
   simpa[dZ,iu,h3]using this
 ·have io:=hd.io hz
  exact⟨io.pay,io.sub,io.st,io.att,io.a5,io.a0,io.w,io.bat,io.all,io.outs,io.ins⟩
theorem uY {q:TQueue} (hq:QOk q) {w:Int} {p:TPayment} (hp:p∈q.Waiting) (hw:p.Warrant=w) {z:TPayment}:z∈q.Waiting.eraseIdx (fF q w).toNat↔z∈q.Waiting∧z.Warrant≠w:=by
 have hn:¬fF q w<0:=fun h=>rX.1 h p hp hw
 obtain⟨i,y,h1,h2,h3,h4⟩:=nk hn
 rw[h1,Int.toNat_natCast,List.mem_eraseIdx_iff_getElem?]
 constructor
 ·rintro⟨j,hj,hz⟩
  refine⟨zE hz,fun e=>hj ?_⟩
  have e1:(q.Waiting.map (·.Warrant))[i]?=some w:=by rw[zR,h2,←h3];rfl
  have e2:(q.Waiting.map (·.Warrant))[j]?=some w:=by rw[zR,hz,←e];rfl
  exact ((List.getElem?_inj (gsI e1) hq.asc.nd).1 (e1.trans e2.symm)).symm
 ·rintro⟨hz,hne⟩
  obtain⟨j,hj⟩:=wN hz
  refine⟨j,fun e=>hne ?_,hj⟩
  subst e
  rw[h2]at hj
  cases hj
  exact h3
theorem Ju {d x:TDesk} {w:Int} (h:jH d w=(x,0)):DOk d∧(∃(k:Nat) (y:TItem),d.Items[k]?=some y∧y.Payment.Warrant=w∧y.State=1∧x=⟨d.Account,⟨d.Queue.Waiting.eraseIdx (fF d.Queue w).toNat,d.Queue.Known,d.Queue.Batches⟩,d.Items.set k ⟨y.Payment,5,y.Attempts⟩⟩)∧DOk x:=by
 obtain⟨hd,k,y,h1,h2,h3,h4,h5⟩:=nG h
 have h4:(gu d.Queue w).2=0:=h4
 obtain⟨q1,⟨p0,q2,q2'⟩,q3,q4⟩:=Rd (q:=d.Queue) (w:=w) (x:=(gu d.Queue w).1) (by rw[←h4])
 have hx:x=⟨d.Account,(gu d.Queue w).1,d.Items.set k ⟨y.Payment,5,y.Attempts⟩⟩:=h5
 rw[q3]at hx q4
 refine⟨hd,⟨k,y,h1,h2,h3,hx⟩,?_⟩
 rw[hx]
 refine DOk.mk' hd.a q4 ((yN (y:=⟨y.Payment,5,y.Attempts⟩) h1 rfl).trans hd.k) fun z hz=>?_
 rcases fN hd.nd h1 hz with rfl|⟨hz,hne⟩
 ·have io:=hd.io (zE h1)
  refine⟨io.pay,io.sub,by simp,io.att,by simp,by simp,.inr ⟨by simp,fun p hp=>?_⟩,io.bat,io.all,io.outs,?_⟩
  ·simp only at hp⊢
   rw[h2]
   exact ((uY hd.q q2 q2').1 hp).2
  ·have:=io.ins
   simpa[dZ,iu,h3]using this
 ·have io:=hd.io hz
  refine⟨io.pay,io.sub,io.st,io.att,io.a5,io.a0,?_,io.bat,io.all,io.outs,io.ins⟩
  rcases io.w with⟨e1,e2⟩|⟨e1,e2⟩
  ·exact .inl ⟨e1,(uY hd.q q2 q2').2 ⟨e2,by rw[←h2];exact hne⟩⟩
  ·exact .inr ⟨e1,fun p hp=>e2 p ((uY hd.q q2 q2').1 hp).1⟩
theorem K8 {d x:TDesk} {w due:Int} (h:mf d w due=(x,0)):DOk d∧(∃(k:Nat) (y:TItem),d.Items[k]?=some y∧y.Payment.Warrant=w∧y.State=4∧y.Attempts≠5∧x=⟨d.Account,⟨ins g7 d.Queue.Waiting (mF y.Payment due),d.Queue.Known,d.Queue.Batches⟩,d.Items.set k ⟨mF y.Payment due,1,y.Attempts⟩⟩)∧DOk x:=by
 obtain⟨hd,k,y,h1,h2,h3,h4,h5⟩:=nG h
 have c5:y.Attempts≠5:=fun e=>by rw[uT,if_pos e]at h4;simp at h4
 rw[uT,if_neg c5]at h4 h5
 simp only at h4 h5
 obtain⟨q1,q2,q3,q4,q5,q6,q7⟩:=MT (q:=d.Queue) (p:=mF y.Payment due) (x:=(dW d.Queue (mF y.Payment due)).1) (by rw[←h4])
 rw[q6]at h5 q7
 refine⟨hd,⟨k,y,h1,h2,h3,c5,h5⟩,?_⟩
 rw[h5]
 refine DOk.mk' hd.a q7 ((yN (y:=⟨mF y.Payment due,1,y.Attempts⟩) h1 rfl).trans hd.k) fun z hz=>?_
 rcases fN hd.nd h1 hz with rfl|⟨hz,hne⟩
 ·have io:=hd.io (zE h1)
  refine⟨q2,io.sub,by simp,io.att,fun e=>c5 e.1,by simp,.inl ⟨rfl,fH.2 (.inl rfl)⟩,io.bat,io.all,io.outs,?_⟩
  show ((d.Account.Entries.countP (inE y.Payment):Nat):Int)+dZ ⟨mF y.Payment due,1,y.Attempts⟩=y.Attempts
  have:=io.ins
  simpa[dZ,iu,h3]using this
 ·have io:=hd.io hz
  refine⟨io.pay,io.sub,io.st,io.att,io.a5,io.a0,?_,io.bat,io.all,io.outs,io.ins⟩
  rcases io.w with⟨e1,e2⟩|⟨e1,e2⟩
  ·exact .inl ⟨e1,fH.2 (.inr e2)⟩
  ·refine .inr ⟨e1,fun p hp=>?_⟩
   rcases fH.1 hp with rfl|hp
   ·exact fun e=>hne e.symm
   ·exact e2 p hp
theorem JG {d x:TDesk} {w day:Int} (h:jG d w day=(x,0)):DOk d∧(∃(k:Nat) (y:TItem),d.Items[k]?=some y∧y.Payment.Warrant=w∧y.State=2∧(bX d.Account (fT d.Account day 0 y.Payment.Sub y.Payment.Amount w)).2=0∧x=⟨(bX d.Account (fT d.Account day 0 y.Payment.Sub y.Payment.Amount w)).1,d.Queue,d.Items.set k ⟨y.Payment,4,y.Attempts⟩⟩)∧DOk x:=by
 obtain⟨hd,k,y,h1,h2,h3,h4,h5⟩:=nG h
 have h4:(bX d.Account (fT d.Account day 0 y.Payment.Sub y.Payment.Amount w)).2=0:=h4
 have h5:x=⟨(bX d.Account (fT d.Account day 0 y.Payment.Sub y.Payment.Amount w)).1,d.Queue,d.Items.set k ⟨y.Payment,4,y.Attempts⟩⟩:=h5
 refine⟨hd,⟨k,y,h1,h2,h3,h4,h5⟩,?_⟩
 rw[h5]
 have p1:=jD h4
 have p2:=tw h4
 have p3:=iF h4
 have io0:=hd.io (zE h1)
 refine DOk.mk' p1 hd.q ((yN (y:=⟨y.Payment,4,y.Attempts⟩) h1 rfl).trans hd.k) fun z hz=>?_
 rcases fN hd.nd h1 hz with rfl|⟨hz,hne⟩
 ·refine⟨io0.pay,⟨p1,by rw[p2];exact io0.sub.2⟩,by simp,io0.att,by simp,fun e=>io0.a0 ⟨e.1,by omega,by omega⟩,.inr ⟨by simp,?_⟩,io0.bat,fun e he er=>?_,?_,?_⟩
  ·rcases io0.w with⟨e,_⟩|⟨_,e⟩
   ·omega
   ·exact e
  ·rw[p3]at he
   rcases wA.1 he with he|he
   ·exact io0.all e he er
   ·rw[zU]at he
    rw[he]
    exact⟨rfl,.inr ⟨rfl,rfl⟩⟩
  ·rw[p3,vP]
   have hs:=io0.pay.sub.1
   have:fJ y.Payment (fT d.Account day 0 y.Payment.Sub y.Payment.Amount w)=false:=by
    show (decide (w=y.Payment.Warrant)&&(decide ((0:Int)=y.Payment.Sub)&&decide (y.Payment.Sub=0)))=false
    rw[zA (p:=(0:Int)=y.Payment.Sub) (by omega),zJ,vM]
   simp only[uF,List.countP_nil,this]
   simpa using io0.outs
  ·rw[p3,vP]
   have:inE y.Payment (fT d.Account day 0 y.Payment.Sub y.Payment.Amount w)=true:=by simp[inE,fT,h2]
   simp only[uF,List.countP_nil,this]
   have hi:=io0.ins
   simp[dZ,iu,h3]at hi
   simp[dZ,iu]
   omega
 ·have io:=hd.io hz
  refine⟨io.pay,⟨p1,by rw[p2];exact io.sub.2⟩,io.st,io.att,io.a5,io.a0,io.w,io.bat,fun e he er=>?_,?_,?_⟩
  ·rw[p3]at he
   rcases wA.1 he with he|he
   ·exact io.all e he er
   ·rw[zU]at he
    rw[he]at er
    exact absurd (er.symm.trans h2.symm) hne
  ·rw[p3,vP]
   have:fJ z.Payment (fT d.Account day 0 y.Payment.Sub y.Payment.Amount w)=false:=by
    show (decide (w=z.Payment.Warrant)&&_)=false
    rw[zA (p:=w=z.Payment.Warrant) (fun e=>hne (e.symm.trans h2.symm)),zJ]
   simp only[uF,List.countP_nil,this]
   simpa using io.outs
  ·rw[p3,vP]
   have:inE z.Payment (fT d.Account day 0 y.Payment.Sub y.Payment.Amount w)=false:=by
    show (decide (w=z.Payment.Warrant)&&_)=false
    rw[zA (p:=w=z.Payment.Warrant) (fun e=>hne (e.symm.trans h2.symm)),zJ]
   simp only[uF,List.countP_nil,this]
   simpa using io.ins
open Go.PA
open Go.RowKit
def Ii (e:TEntry):Int×Int×Int×Int:=(e.Ref,e.From,e.To,e.Amount)
def AX (p:TPayment):Int×Int×Int×Int:=(p.Warrant,p.Sub,0,p.Amount)
structure Sent (day:Int) (a:TAccount) (ps:List TPayment) (b:TAccount):Prop where
 ok:aF b=0
 ents:∃es,b.Entries=a.Entries++es∧es.map Ii=ps.map AX∧∀e,e∈es→e.Day=day
 ids:ids b.Subs=ids a.Subs
 cred:b.Credit=a.Credit
theorem Sent.refl {day:Int} {a:TAccount} (h:aF a=0):Sent day a [] a:=⟨h,⟨[],by simp,rfl,by simp⟩,rfl,rfl⟩
theorem Sent.snoc {day:Int} {a b:TAccount} {ps:List TPayment} {p:TPayment} (h:Sent day a ps b) (hp:(bX b (fT b day p.Sub 0 p.Amount p.Warrant)).2=0):Sent day a (ps++[p]) (bX b (fT b day p.Sub 0 p.Amount p.Warrant)).1:=by
 obtain⟨h1,⟨es,h2,h3,h4⟩,h5,h6⟩:=h
 refine⟨jD hp,⟨es++[fT b day p.Sub 0 p.Amount p.Warrant],?_,?_,?_⟩,(tw hp).trans h5,(pC hp).trans h6⟩
 ·rw[iF hp,h2,vJ]
 ·rw[List.map_append,List.map_append,h3];rfl
 ·intro e he
  rcases wA.1 he with he|he
  ·exact h4 e he
  ·rw[zU]at he
   rw[he]
   rfl
theorem rP (day:Int) (a0:TAccount):∀(l:List TPayment) (a:TAccount) (ps:List TPayment) (full:Bool),Sent day a0 ps a→∃qs,qs.Sublist l∧(fA day l a (ps.map (·.Warrant)) full).2.1=(ps++qs).map (·.Warrant)∧Sent day a0 (ps++qs) (fA day l a (ps.map (·.Warrant)) full).1
 |[],a,ps,full,h=>⟨[],by simp,by simp[fA],by simpa[fA]using h⟩
 |p::l,a,ps,full,h=>by
  rw[fA]
  split
  ·exact⟨[],by simp,by simp,by simpa using h⟩
  ·split
   ·rename_i hp
    have e:ps.map (·.Warrant)++[p.Warrant]=(ps++[p]).map (·.Warrant):=by simp
    rw[e]
    obtain⟨qs,h1,h2,h3⟩:=rP day a0 l _ (ps++[p]) full (h.snoc hp)
    exact⟨p::qs,h1.cons_cons p,by rw[h2];simp,by rw[show ps++p::qs=ps++[p]++qs by simp];exact h3⟩
   ·obtain⟨qs,h1,h2,h3⟩:=rP day a0 l a ps _ h
    exact⟨qs,h1.cons p,h2,h3⟩
theorem SJ {d:TDesk} (hd:DOk d) (day:Int):∃ps,ps.Sublist (gV d.Queue day)∧(goD d day).2.1=ps.map (·.Warrant)∧Sent day d.Account ps (goD d day).1:=by
 obtain⟨qs,h1,h2,h3⟩:=rP day d.Account (gV d.Queue day) d.Account [] false (Sent.refl hd.a)
 exact⟨qs,h1,h2,h3⟩
theorem Rr {l:List TPayment} (hn:(l.map (·.Warrant)).Nodup) (w:Int):l.countP (dJ w)=if w∈l.map (·.Warrant)then 1 else 0:=by
 induction l with
 |nil=>rfl
 |cons p l ih=>
  rw[wD,List.nodup_cons]at hn
  rw[uF,ih hn.2]
  by_cases h:p.Warrant=w
  ·subst h
   rw[if_neg hn.1,if_pos (by simp[dJ]),if_pos (by simp)]
  ·have e:dJ w p=false:=by simp[dJ,h]
   have e2:w∈(p::l).map (·.Warrant)↔w∈l.map (·.Warrant):=by
    rw[wD,zO]
    exact⟨fun o=>o.resolve_left fun e=>h e.symm,.inr⟩
   by_cases hm:w∈l.map (·.Warrant)
   ·rw[if_pos hm,if_pos (e2.2 hm),e];rfl
   ·rw[if_neg hm,if_neg (mt e2.1 hm),e];rfl
theorem IH {l:List TPayment} (hn:(l.map (·.Warrant)).Nodup) {w:Int} (h:w∈l.map (·.Warrant)):l.countP (dJ w)=1:=by rw[Rr hn,if_pos h]
def Sy (p:TPayment) (k:Int×Int×Int×Int):Bool:=decide (k.1=p.Warrant)&&(decide (k.2.1=p.Sub)&&decide (k.2.2.1=0))
def R7 (p:TPayment) (k:Int×Int×Int×Int):Bool:=decide (k.1=p.Warrant)&&(decide (k.2.1=0)&&decide (k.2.2.1=p.Sub))
theorem Hv {p y:TPayment}:Sy p (AX y)=true↔y.Warrant=p.Warrant∧y.Sub=p.Sub:=by
 unfold Sy AX
 rw[zG,zG]
 exact⟨fun⟨a,b,_⟩=>⟨of_decide_eq_true a,of_decide_eq_true b⟩,fun⟨a,b⟩=>⟨zC a,zC b,rfl⟩⟩
theorem RW {p y:TPayment}:R7 p (AX y)=true↔y.Warrant=p.Warrant∧y.Sub=0∧0=p.Sub:=by
 unfold R7 AX
 rw[zG,zG]
 exact⟨fun⟨a,b,c⟩=>⟨of_decide_eq_true a,of_decide_eq_true b,of_decide_eq_true c⟩,fun⟨a,b,c⟩=>⟨zC a,zC b,zC c⟩⟩
theorem Nh {es:List TEntry} {ps:List TPayment} (h:es.map Ii=ps.map AX) (p:TPayment):es.countP (fJ p)=ps.countP (fun y=>Sy p (AX y))∧es.countP (inE p)=ps.countP (fun y=>R7 p (AX y)):=by
 have e1:es.countP (fJ p)=(es.map Ii).countP (Sy p):=by rw[List.countP_map];rfl
 have e2:es.countP (inE p)=(es.map Ii).countP (R7 p):=by rw[List.countP_map];rfl
 rw[e1,e2,h,List.countP_map,List.countP_map]
 exact⟨rfl,rfl⟩
theorem yE {es:List TEntry} {ps:List TPayment} (h:es.map Ii=ps.map AX) {e:TEntry} (he:e∈es):∃p,p∈ps∧e.Ref=p.Warrant∧e.From=p.Sub∧e.To=0∧e.Amount=p.Amount:=by
 have:Ii e∈ps.map AX:=h▸zV.2 ⟨e,he,rfl⟩
 obtain⟨p,hp,k⟩:=zV.1 this
 simp only[Ii,AX,Prod.mk.injEq]at k
 exact⟨p,hp,k.1.symm,k.2.1.symm,k.2.2.1.symm,k.2.2.2.symm⟩
theorem MQ {d:TDesk} (hd:DOk d) {day:Int} {ps:List TPayment} {a:TAccount} (hsub:ps.Sublist d.Queue.Waiting) (hs:Sent day d.Account ps a) {b:TBatch} (hb:b.Payments=d.Queue.Waiting.filter (bT (ps.map (·.Warrant))))
  (hq:QOk ⟨d.Queue.Waiting.filter (fun p=>!bT (ps.map (·.Warrant)) p),d.Queue.Known,d.Queue.Batches++[b]⟩):DOk ⟨a,⟨d.Queue.Waiting.filter (fun p=>!bT (ps.map (·.Warrant)) p),d.Queue.Known,d.Queue.Batches++[b]⟩,d.Items.map (fE (ps.map (·.Warrant)))⟩:=by
 obtain⟨es,e1,e2,e3⟩:=hs.ents
 have hnW:=hd.q.asc.nd
 have hn:(ps.map (·.Warrant)).Nodup:=hnW.sublist (hsub.map _)
 refine DOk.mk' hs.ok hq ((CK _ _).trans hd.k) fun z hz=>?_
 obtain⟨x,hx,rfl⟩:=zV.1 hz
 have io:=hd.io hx
 have hbat:oJ ⟨d.Queue.Waiting.filter (fun p=>!bT (ps.map (·.Warrant)) p),d.Queue.Known,d.Queue.Batches++[b]⟩ x.Payment.Warrant=oJ d.Queue x.Payment.Warrant+if x.Payment.Warrant∈b.Payments.map (·.Warrant)then 1 else 0:=by
  have:(b.Payments.map (·.Warrant)).Nodup:=by rw[hb];exact hnW.sublist (List.filter_sublist.map _)
  rw[oJ,List.map_append,List.sum_append]
  simp only[wD,List.map_nil,List.sum_cons,List.sum_nil,Nat.add_zero]
  rw[Rr this,oJ]
 have hmem:x.Payment.Warrant∈b.Payments.map (·.Warrant)↔x.Payment.Warrant∈ps.map (·.Warrant):=by
  rw[hb]
  constructor
  ·intro h
   obtain⟨p,hp,e⟩:=zV.1 h
   have:=(vS.1 hp).2
   rw[←e]
   simpa[bT]using this
  ·intro h
   obtain⟨p,hp,e⟩:=zV.1 h
   exact zV.2 ⟨p,vS.2 ⟨hsub.subset hp,by simp only[bT,zI];exact zV.2 ⟨p,hp,rfl⟩⟩,e⟩
 obtain⟨co,ci⟩:=Nh e2 x.Payment
 have ci0:es.countP (inE x.Payment)=0:=by
  rw[ci,List.countP_eq_zero]
  intro p hp e
  have h1:=(hd.q.asc.pay p (hsub.subset hp)).sub.1
  have:=(RW.1 e).2.1
  omega
 have hsubs:aF a=0∧(fE (ps.map (·.Warrant)) x).Payment.Sub∈ids a.Subs:=by rw[qf,hs.ids];exact⟨hs.ok,io.sub.2⟩
 by_cases hw:x.Payment.Warrant∈ps.map (·.Warrant)
 ·obtain⟨p,hp,e⟩:=zV.1 hw
  have hpW:=hsub.subset hp
  have hst:x.State=1∧x.Payment∈d.Queue.Waiting:=by
   rcases io.w with h|⟨_,h⟩
   ·exact h
   ·exact absurd e (h p hpW)
  have hpx:p=x.Payment:=y9 hnW hpW hst.2 e
  have co1:es.countP (fJ x.Payment)=1:=by
   rw[co,←IH hn hw]
   refine List.countP_congr fun y hy=>?_
   rw[Hv,dJ,zI]
   refine⟨fun h=>h.1,fun h=>⟨h,?_⟩⟩
   rw[y9 hnW (hsub.subset hy) hst.2 h]
  have hsx:fE (ps.map (·.Warrant)) x=⟨x.Payment,2,x.Attempts+1⟩:=by rw[fE,if_pos hw]
  have h5:=io.a5
  have h0:=io.att
  rw[hsx]at hsubs⊢
  refine⟨io.pay,hsubs,by simp,by dsimp only;omega,by simp,by dsimp only;omega,.inr ⟨by simp,fun p' hp' e'=>?_⟩,?_,fun e' he' er=>?_,?_,?_⟩
  ·have:=(vS.1 hp').2
   rw[bT,e',zC hw]at this
   cases this
  ·dsimp only
   rw[hbat,if_pos (hmem.2 hw)]
   have:=io.bat
   omega
  ·dsimp only at he' er⊢
   rw[e1]at he'
   rcases wA.1 he' with he'|he'
   ·exact io.all e' he' er
   ·obtain⟨p',hp',k1,k2,k3,k4⟩:=yE e2 he'
    have:p'=x.Payment:=y9 hnW (hsub.subset hp') hst.2 (k1.symm.trans er)
    rw[this]at k2 k4
    exact⟨k4,.inl ⟨k2,k3⟩⟩
  ·dsimp only
   rw[e1,vP,co1]
   have:=io.outs
   omega
  ·dsimp only
   rw[e1,vP,ci0]
   have h1:=io.ins
   have g0:dZ x=0:=by simp[dZ,iu,hst.1]
   have g1:dZ ⟨x.Payment,2,x.Attempts+1⟩=1:=by simp[dZ,iu]
   rw[g0]at h1
   rw[g1]
   omega
 ·have co0:es.countP (fJ x.Payment)=0:=by
   rw[co,List.countP_eq_zero]
   intro p hp e
   exact hw (zV.2 ⟨p,hp,(Hv.1 e).1⟩)
  have hsx:fE (ps.map (·.Warrant)) x=x:=by rw[fE,if_neg hw]
  rw[hsx]at hsubs⊢
  refine⟨io.pay,hsubs,io.st,io.att,io.a5,io.a0,?_,?_,fun e' he' er=>?_,?_,?_⟩
  ·rcases io.w with⟨h1,h2⟩|⟨h1,h2⟩
   ·refine .inl ⟨h1,vS.2 ⟨h2,?_⟩⟩
    rw[bT,zA hw]
    rfl
   ·exact .inr ⟨h1,fun p hp=>h2 p (vS.1 hp).1⟩
  ·dsimp only
   rw[hbat,if_neg (mt hmem.1 hw)]
   exact io.bat
  ·dsimp only at he'
   rw[e1]at he'
   rcases wA.1 he' with he'|he'
   ·exact io.all e' he' er
   ·obtain⟨p',hp',k1,k2,k3,k4⟩:=yE e2 he'
    exact absurd (zV.2 ⟨p',hp',k1.symm.trans er⟩) hw
  ·dsimp only
   rw[e1,vP,co0]
   exact io.outs
  ·dsimp only
   rw[e1,vP,ci0]
   exact io.ins
theorem QO {d x:TDesk} {b:TBatch} {day:Int} (h:fI d day=(x,b,0)):DOk d∧iG day=true∧fU d.Queue≤day∧cZ d.Account≤day∧∃ps a,ps.Sublist (gV d.Queue day)∧1≤ps.length∧ps.length≤10∧(goD d day).2.1=ps.map (·.Warrant)∧(goD d day).1=a∧Sent day d.Account ps a∧b=qW d.Queue day (ps.map (·.Warrant))∧
  x=⟨a,⟨d.Queue.Waiting.filter (fun p=>!bT (ps.map (·.Warrant)) p),d.Queue.Known,d.Queue.Batches++[b]⟩,d.Items.map (fE (ps.map (·.Warrant)))⟩∧DOk x:=by
 unfold fI at h
 by_cases c1:bS d=0
 rotate_left
 ·rw[if_neg c1]at h
  exact absurd (congrArg (fun r=>r.2.2) h) c1
 rw[if_pos c1]at h
 by_cases c2:iG day=true
 rotate_left
 ·rw[if_neg c2]at h
  simp at h
 rw[if_pos c2]at h
 by_cases c3:day<fU d.Queue∨day<cZ d.Account
 ·rw[if_pos c3]at h
  simp at h
 rw[if_neg c3]at h
 by_cases c4:(goD d day).2.1.length=0
 ·rw[if_pos c4]at h
  have:=congrArg (fun r=>r.2.2) h
  simp only at this
  split at this<;>cases this
 rw[if_neg c4]at h
 by_cases c5:(cK d.Queue day (goD d day).2.1).2.2=0
 rotate_left
 ·rw[if_neg c5]at h
  exact absurd (congrArg (fun r=>r.2.2) h) c5
 rw[if_pos c5]at h
 have hd:=fd.1 c1
 obtain⟨ps,h1,h2,h3⟩:=SJ hd day
 obtain⟨_,_,_,t4,t5,_,t7,t8,t9⟩:=O9 (q:=d.Queue) (day:=day) (ws:=(goD d day).2.1) (x:=(cK d.Queue day (goD d day).2.1).1) (b:=(cK d.Queue day (goD d day).2.1).2.1) (by rw[←c5])
 have hx:=(congrArg Prod.fst h).symm
 have hb:=(congrArg (fun r=>r.2.1) h).symm
 simp only at hx hb
 rw[t8]at hb
 rw[t7]at hx t9
 rw[h2]at hx hb t4 t5 t9
 rw[wL]at t4 t5
 rw[←hb]at hx t9
 refine⟨hd,c2,by omega,by omega,ps,_,h1,t4,t5,h2,rfl,h3,hb,hx,?_⟩
 rw[hx]
 exact MQ hd (h1.trans (kF _ _)) h3 (by rw[hb];rfl) t9
open Go.PA
open Go.RowKit
def RQ (lo hi:Int) (x:AV):Prop:=∃m:Int,x=iv m∧lo≤m∧m≤hi
theorem oy {lo hi:Int} (h:lo≤hi):∃r,RQ lo hi r∧Imm r:=⟨_,⟨lo,rfl,by omega,h⟩,.sc⟩
theorem kj (p:Nat) (src:Option Nat) (lo hi:Int) (h1: -1000000000000000000≤lo∧lo≤hi) (h2:hi≤1000000000000000000):PFun Tryz.prog (some p) src 24 [sp p,iv lo,iv hi] (RQ lo hi):=
 (Fc p src lo hi (by omega) (by omega)).mono fun x h=>by
  obtain⟨m,rfl,h3,_⟩:=h
  exact⟨m,rfl,h3 h1.2⟩
theorem Da (n:Int):∃r,NQ n r∧Imm r:=⟨_,⟨0,rfl,fun _=>rfl,fun h=>by omega⟩,.sc⟩
def PQ (xs:List Int) (x:AV):Prop:=∃m:Int,x=iv m∧m∈xs
theorem oq {xs:List Int} (h:xs≠[]):∃r,PQ xs r∧Imm r:=by
 cases xs with
 |nil=>exact absurd rfl h
 |cons a l=>exact⟨_,⟨a,rfl,by simp⟩,.sc⟩
theorem pP (p:Nat) (src:Option Nat) (xs:List Int) (h:1≤xs.length∧xs.length≤1000):PFun Tryz.prog (some p) src 14 [sp p,aA xs] (PQ xs):=qd p src xs h
open Go.PA
open Go.RowKit
structure GenP (p:TPayment):Prop where
 warrant:1≤p.Warrant∧p.Warrant≤12
 payee:1≤p.Payee∧p.Payee≤5
 amount:1≤p.Amount∧p.Amount≤100
 due:0≤p.Due∧p.Due<20
 sub:1≤p.Sub∧p.Sub≤7
def W4 (x:AV):Prop:=∃p:TPayment,x= .agg p.cells∧GenP p
theorem Sf:∃r,W4 r∧Imm r:=⟨_,⟨⟨1,1,1,0,1⟩,rfl,by constructor<;>simp⟩,dX _⟩
theorem Tm (p:Nat) (src:Option Nat):PFun Tryz.prog (some p) src 79 [sp p] W4:=by
 refine ab Tryz.func79 rfl (by simp[Tryz.f79]) (by kernel_rfl) ?_
 intro E hP hr hs hW hN
 have up:∀{f:FuncId} {args:List AV} {Q:AV→Prop},PFun Tryz.prog (some p) src f args Q→PFun Tryz.prog E.row E.src f args Q:=fun h=>hr▸hs▸h
 simp[go_sem,hP]
 refine aC (up (kj p src 1 12 (by omega) (by omega))) hP lK (by simp[go_sem]) (oy (by omega)) ?_
 rintro r ⟨w,rfl,hw⟩ _
 simp[go_sem,hP]
 refine aC (up (kj p src 1 5 (by omega) (by omega))) hP lK (by simp[go_sem]) (oy (by omega)) ?_
 rintro r ⟨y,rfl,hy⟩ _
 simp[go_sem,hP]
 refine aC (up (pP p src [1,10,40,100] (by simp))) hP i7 (by simp[go_sem,aA]) (oq (by simp)) ?_
 rintro r ⟨a,rfl,ha⟩ _
 simp[go_sem,hP]
 refine aC (up (sT p src 20 (by omega))) hP kH (by simp[go_sem]) (Da _) ?_
 rintro r ⟨d,rfl,_,hd⟩ _
 have hd:=hd (by omega)
 simp[go_sem,hP]
 refine aC (up (pP p src [1,2,3,7] (by simp))) hP i7 (by simp[go_sem,aA]) (oq (by simp)) ?_
 rintro r ⟨b,rfl,hb⟩ _
 simp[go_sem,hP]
 have ha:1≤a∧a≤100:=by simp at ha;omega
 have hb:1≤b∧b≤7:=by simp at hb;omega
 exact aw (dX ⟨w,y,a,d,b⟩) ⟨⟨w,y,a,d,b⟩,rfl,hw,hy,ha,hd,hb⟩
def iW (d:Int):Int:=if d%7=5 then d+2 else if d%7=6 then d+1 else d
theorem nZ (d:Int):d≤iW d∧iW d≤d+2:=by
 unfold iW
 repeat' split
 all_goals omega
theorem FX (d:Int) (h:0≤d∧d≤30000):PFun Tryz.prog none none 80 [iv d] (·=iv (iW d)):=by
 refine ab Tryz.func80 rfl (by simp[Tryz.f80]) (by kernel_rfl) ?_
 intro E hP hr hs hW hN
 simp[go_sem,hP]
 obtain⟨I,hI⟩:∃I:Nat→St→Prop,I=fun m s=>∃x:Int,d≤x∧iW d=iW x∧((m:Nat):Int)+x=d+3∧s.t 0=iv x:=⟨_,rfl⟩
 refine az I (3) (by rw[hN];rfl) ?_ ?_
 ·rw[hI]
  exact⟨d,by omega,rfl,by omega,rfl⟩
 intro m s hs'
 rw[hI]at hs'
 obtain⟨x,hx,hb,hm,t0⟩:=hs'
 have e:x.tmod 7=x%7:=wB (by omega)
 have w:=ae (x%7) (by omega)
 have w1:=ae (x+1) (by omega)
 by_cases c:4<x%7
 ·have d1:decide (4<x%7)=true:=zC c
  have:=nZ x
  have:=nZ d
  have hne:iW x≠x:=by
   unfold iW
   repeat' split
   all_goals omega
  have hb':iW x=iW (x+1):=by
   unfold iW
   repeat' split
   all_goals omega
  simp[go_sem,hP,t0,e,w,d1,w1]
  refine⟨m-1,by omega,?_⟩
  rw[hI]
  exact⟨x+1,by omega,hb.trans hb',by omega,rfl⟩
 ·have d1:decide (4<x%7)=false:=zA c
  have hb':iW x=x:=by
   unfold iW
   repeat' split
   all_goals omega
  simp[go_sem,hP,t0,e,w,d1]
  rw[hb,hb']
open Go.PA
open Go.RowKit
theorem PH {n:Nat} {a:TAccount} (h:GenAcc n a) (hn:n≤300):a.Subs.length≤100000∧a.Entries.length≤100000:=⟨by have:=h.slen;omega,by have:=h.len;omega⟩
set_option maxHeartbeats 1000000 in
theorem G0 (p:Nat) (src:Option Nat) (most:Nat) (hm:most≤100):PFun Tryz.prog (some p) src 20 [sp p,iv most] (fun x=>∃a:TAccount,x= .agg a.cells∧GenAcc most a∧∀e,e∈a.Entries→e.Ref=0):=by
 refine ab Tryz.func20 rfl (by simp[Tryz.f20]) (by kernel_rfl) ?_
 intro E hP hr hs hW hN
 have up:∀{f:FuncId} {args:List AV} {Q:AV→Prop},PFun Tryz.prog (some p) src f args Q→PFun Tryz.prog E.row E.src f args Q:=fun h=>hr▸hs▸h
 simp -dsimp -implicitDefEqProofs [go_sem,hP]
 refine cn (up (qd p src [0,0,50] (by simp))) hP i7 (by simp[go_sem,aA]) ⟨iv 0,0,rfl,by simp⟩ (by rintro r ⟨m,rfl,_⟩;exact .sc) ?_
 rintro r ⟨c,rfl,hc⟩
 have hc:0≤c∧c≤100:=by simp at hc;omega
 obtain⟨g0,o0⟩:=GenAcc.open hc
 have op:=L9 [1,2,3,7] c (by simp)
 rw[o0]at op
 have io:Imm (.tup [.agg (lr [1,2,3,7] c).cells,iv 0]):=aj (cQ _) .sc
 obtain⟨a0,ha0⟩:∃a0,a0=lr [1,2,3,7] c:=⟨_,rfl⟩
 rw[←ha0]at g0 op io
 have z0:∀e,e∈a0.Entries→e.Ref=0:=by rw[ha0];simp[lr]
 have op:PFun Tryz.prog none none 74 [eQ [1,2,3,7],iv c] fun x=>x= .tup [.agg a0.cells,iv 0]:=op
 rw[cA]at op io
 have w1:=ae ((most:Int)+1) (by omega)
 simp -dsimp -implicitDefEqProofs [go_sem,hP]
 refine af op hP WK (by simp[go_sem,eE,ao]) io ?_
 simp -dsimp -implicitDefEqProofs [go_sem,hP,w1]
 refine cn (up (sT p src (most+1) (by omega))) hP kH (ak (by simp -dsimp[go_sem,w1])) (Fl _) (sY _) ?_
 rintro r ⟨m,rfl,_,hm1⟩
 have hm1:=hm1 (by omega)
 obtain⟨m,rfl⟩:=Int.eq_ofNat_of_zero_le hm1.1
 simp -dsimp -implicitDefEqProofs [go_sem,hP]
 obtain⟨I,hI⟩:∃I:Nat→St→Prop,I=fun m s=>∃(k d:Nat) (a:TAccount),k+m≤most∧d≤2*k∧(GenAcc k a∧∀e,e∈a.Entries→e.Ref=0)∧s.t 0=sp p∧s.t 4= .ref 0 0 0∧s.t 5= .ref 1 0 0∧s.t 7=iv d∧s.t 8=iv m∧s.H[0]?=some (some ⟨28,3,[[iv 0,.nil,.nil]]⟩)∧s.H[1]?=some (some ⟨28,3,[a.cells]⟩):=⟨_,rfl⟩
 refine az I (m) (by rw[hN];rfl) ?_ ?_
 ·rw[hI]
  exact⟨0,0,a0,by omega,by omega,⟨g0,z0⟩,rfl,rfl,rfl,rfl,rfl,rfl,by simp -dsimp[-getElem?_pos,go_sem,cA]⟩
 clear hm1 g0 op io ha0 o0 z0
 intro m s hs'
 rw[hI]at hs'
 obtain⟨k,d,a,hk,hd,⟨hg,hz⟩,t0,t4,t5,t7,t8,h0,h1⟩:=hs'
 have lt0:=(gsI h0)
 have lt1:=(gsI h1)
 simp -dsimp -implicitDefEqProofs [go_sem,hP,t8]
 refine aB ?_ ?_<;>intro h
 ·have hm0:0<m:=by simpa using h
  simp -dsimp -implicitDefEqProofs [go_sem,hP,t0,t7]
  refine cn (up (sT p src 3 (by omega))) hP kH (ak (by simp -dsimp[go_sem])) (Fl _) (sY _) ?_
  rintro r ⟨x,rfl,_,hx⟩
  have hx:=hx (by omega)
  have wd:=ae ((d:Int)+x) (by omega)
  simp -dsimp -implicitDefEqProofs [go_sem,hP,t0,wd]
  refine cn (up (qd p src [0,0,1,2,3,7] (by simp))) hP i7 (by simp[go_sem,aA]) ⟨iv 0,0,rfl,by simp⟩ (by rintro r ⟨m,rfl,_⟩;exact .sc) ?_
  rintro r ⟨f,rfl,hf⟩
  simp -dsimp -implicitDefEqProofs [go_sem,hP,t0]
  refine cn (up (qd p src [0,1,2,3,7] (by simp))) hP i7 (by simp[go_sem,aA]) ⟨iv 0,0,rfl,by simp⟩ (by rintro r ⟨m,rfl,_⟩;exact .sc) ?_
  rintro r ⟨g,rfl,hgg⟩
  simp -dsimp -implicitDefEqProofs [go_sem,hP]
  refine v7 (fun i=>decide (i<2)) [14] [7,8,9] hP (by kernel_rfl) (by kernel_rfl) ?_
  simp -dsimp -implicitDefEqProofs [-getElem?_pos,go_sem,hP,t0,t5,t7,h1,lt1,cA]
  refine qA (up (qd p src [1,10,60,100,500] (by simp))) hP i7 (by simp[go_sem,aA]) ⟨iv 1,⟨1,rfl,by simp⟩,.sc⟩ ?_
  rintro r ⟨y,rfl,hy⟩ _
  have hy:1≤y∧y≤500:=by simp at hy;omega
  obtain⟨n1,n2⟩:=PH hg (by omega)
  have nx:=uR a ((d:Int)+x) f g y 0 n2
  obtain⟨e,he⟩:∃e,e=fT a ((d:Int)+x) f g y 0:=⟨_,rfl⟩
  have hed:e.Day=(d:Int)+x:=by rw[he];rfl
  have hea:e.Amount=y:=by rw[he];rfl
  have po:=uo a e n1 n2
  obtain⟨b,hb⟩:∃b,b=(bX a e).1:=⟨_,rfl⟩
  obtain⟨err,herr⟩:∃err,err=(bX a e).2:=⟨_,rfl⟩
  rw[←he,cA,cE]at nx
  rw[←hb,←herr,cA,cA,cE]at po
  have ia:Imm (.agg [iv a.Credit,bw a.Subs,cU a.Entries]):=cQ a
  have ib:Imm (.agg [iv b.Credit,bw b.Subs,cU b.Entries]):=cQ b
  have ie:Imm (.agg [iv e.Number,iv e.Day,iv e.From,iv e.To,iv e.Amount,iv e.Ref]):=gR e
  have wm:=ae ((m:Int)-1) (by omega)
  have hd':((d:Int)+x)=((d+x.toNat:Nat):Int):=by omega
  simp -dsimp -implicitDefEqProofs [go_sem,hP]
  refine gl (nx.lift _ _) hP Pr (by simp[ia,an]) ie ?_
  simp -dsimp -implicitDefEqProofs [go_sem,hP]
  refine gl (po.lift _ _) hP Qc (by simp[ia,ie]) (aj ib .sc) ?_
  simp -dsimp -implicitDefEqProofs [go_sem,hP]
  by_cases c1:err=0
  ·have gb:GenAcc (k+1) b:=hb▸hg.post (herr▸c1) (by rw[hed];omega) (by rw[hea];omega)
   have zb:∀y,y∈b.Entries→y.Ref=0:=fun y hy=>by
    rw[hb,iF (herr▸c1)]at hy
    rcases wA.1 hy with hy|hy
    ·exact hz y hy
    ·rw[zU]at hy
     rw[hy,he]
     rfl
   simp -dsimp -implicitDefEqProofs [-getElem?_pos,go_sem,hP,c1,t5,lt1,h1,t8,wm,cA]
   refine⟨jv (by omega),m-1,by omega,?_⟩
   rw[hI]
   refine⟨k+1,d+x.toNat,b,by omega,by omega,⟨gb,zb⟩,t0,t4,t5,by simp -dsimp[go_sem,hd'],?_,by simp -dsimp[-getElem?_pos,go_sem,lt0,h0],by simp -dsimp[-getElem?_pos,go_sem,lt1,cA]⟩
   simp -dsimp -implicitDefEqProofs [go_sem]
   omega
  ·simp -dsimp -implicitDefEqProofs [go_sem,hP,c1,t8,wm]
   refine⟨jv (by omega),m-1,by omega,?_⟩
   rw[hI]
   refine⟨k+1,d+x.toNat,a,by omega,by omega,⟨hg.mono (by omega),hz⟩,t0,t4,t5,by simp -dsimp[go_sem,hd'],?_,by simp -dsimp[-getElem?_pos,go_sem,lt0,h0],by simp -dsimp[-getElem?_pos,go_sem,lt1,h1]⟩
   simp -dsimp -implicitDefEqProofs [go_sem]
   omega
 ·have hm0:m=0:=by simpa using h
  simp -dsimp -implicitDefEqProofs [-getElem?_pos,go_sem,hP,t5,h1,t4,h0,lt0,lt1,cA]
  refine aw (cQ a) ⟨a,rfl,hg.mono (by omega),hz⟩
open Go.PA
open Go.RowKit
structure GenD (n:Nat) (d:TDesk) (day:Int):Prop where
 ok:DOk d
 ids:ids d.Account.Subs=[1,2,3,7]
 small:∀e,e∈d.Account.Entries→e.Amount≤500
 cred:d.Account.Credit≤100
 pays:∀x,x∈d.Items→x.Payment.Warrant≤12∧x.Payment.Amount≤100
 refs:∀e,e∈d.Account.Entries→e.Ref=0∨e.Ref∈d.Queue.Known
 len:d.Account.Entries.length≤8+10*n
 bl:d.Queue.Batches.length≤n
 lastA:cZ d.Account≤day
 lastB:fU d.Queue≤day
 day:0≤day∧day≤40+6*(n:Int)
def Stay (d x:TDesk):Prop:=∀y z,y∈d.Items→z∈x.Items→y.Payment.Warrant=z.Payment.Warrant→y.State=3→z.State=3
theorem GenD.mono {n:Nat} {d:TDesk} {day:Int} (h:GenD n d day):GenD (n+1) d day:=⟨h.ok,h.ids,h.small,h.cred,h.pays,h.refs,by have:=h.len;omega,by have:=h.bl;omega,h.lastA,h.lastB,by have:=h.day;omega⟩
theorem Stay.same {d:TDesk} (h:DOk d):Stay d d:=fun y z hy hz e hs=>by rw[←Df h.nd hy hz e];exact hs
structure StepD (n:Nat) (d:TDesk) (x:TDesk) (day:Int):Prop where
 gen:GenD (n+1) x day
 stay:Stay d x
theorem StepD.same {n:Nat} {d:TDesk} {day:Int} (h:GenD n d day):StepD n d d day:=⟨h.mono,.same h.ok⟩
theorem StepD.order {n:Nat} {d x:TDesk} {day:Int} {p:TPayment} (h:GenD n d day) (hp:GenP p) (hx:fw d p=(x,0)):StepD n d x day:=by
 obtain⟨a1,a2,a3,rfl,a5⟩:=LV hx
 refine⟨⟨a5,h.ids,h.small,h.cred,fun y hy=>?_,fun e he=>?_,by have:=h.len;dsimp only;omega,by have:=h.bl;dsimp only;omega,h.lastA,h.lastB,by have:=h.day;omega⟩,fun y z hy hz e hs=>?_⟩
 ·rcases fH.1 hy with rfl|hy
  ·exact⟨hp.warrant.2,hp.amount.2⟩
  ·exact h.pays y hy
 ·rcases h.refs e he with e0|e0
  ·exact .inl e0
  ·exact .inr (fH.2 (.inr e0))
 ·rcases fH.1 hz with rfl|hz
  ·refine absurd ?_ a3
   rw[←a1.k]
   exact zV.2 ⟨y,hy,e⟩
  ·rw[←Df a1.nd hy hz e];exact hs
theorem tq {d:TDesk} (hd:DOk d) {a:TAccount} {q:TQueue} {k:Nat} {y w:TItem} (hk:d.Items[k]?=some y) (hs:y.State≠3) (hw:w.Payment.Warrant=y.Payment.Warrant):Stay d ⟨a,q,d.Items.set k w⟩:=fun u z hu hz e h3=>by
 rcases fN hd.nd hk hz with rfl|⟨hz,hne⟩
 ·have:=Df hd.nd hu (zE hk) (e.trans hw)
  rw[this]at h3
  exact absurd h3 hs
 ·rw[←Df hd.nd hu hz e];exact h3
theorem tu {d:TDesk} (hd:DOk d) (hp:∀x,x∈d.Items→x.Payment.Warrant≤12∧x.Payment.Amount≤100) {k:Nat} {y w:TItem} (hk:d.Items[k]?=some y) (hw:w.Payment.Warrant=y.Payment.Warrant∧w.Payment.Amount=y.Payment.Amount):∀x,x∈d.Items.set k w→x.Payment.Warrant≤12∧x.Payment.Amount≤100:=fun x hx=>by
 rcases fN hd.nd hk hx with rfl|⟨hx,_⟩
 ·rw[hw.1,hw.2]
  exact hp y (zE hk)
 ·exact hp x hx
theorem StepD.settle {n:Nat} {d x:TDesk} {day w:Int} (h:GenD n d day) (hx:jJ d w=(x,0)):StepD n d x day:=by
 obtain⟨a1,⟨k,y,b1,b2,b3,rfl⟩,a5⟩:=Kg hx
 exact⟨⟨a5,h.ids,h.small,h.cred,tu a1 h.pays b1 ⟨rfl,rfl⟩,h.refs,by have:=h.len;dsimp only;omega,by have:=h.bl;dsimp only;omega,h.lastA,h.lastB,by have:=h.day;omega⟩,tq a1 b1 (by omega) rfl⟩
theorem StepD.recall {n:Nat} {d x:TDesk} {day w:Int} (h:GenD n d day) (hx:jH d w=(x,0)):StepD n d x day:=by
 obtain⟨a1,⟨k,y,b1,b2,b3,rfl⟩,a5⟩:=Ju hx
 exact⟨⟨a5,h.ids,h.small,h.cred,tu a1 h.pays b1 ⟨rfl,rfl⟩,h.refs,by have:=h.len;dsimp only;omega,by have:=h.bl;dsimp only;omega,h.lastA,h.lastB,by have:=h.day;omega⟩,tq a1 b1 (by omega) rfl⟩
theorem StepD.again {n:Nat} {d x:TDesk} {day w due:Int} (h:GenD n d day) (hx:mf d w due=(x,0)):StepD n d x day:=by
 obtain⟨a1,⟨k,y,b1,b2,b3,b4,rfl⟩,a5⟩:=K8 hx
 exact⟨⟨a5,h.ids,h.small,h.cred,tu a1 h.pays b1 ⟨rfl,rfl⟩,h.refs,by have:=h.len;dsimp only;omega,by have:=h.bl;dsimp only;omega,h.lastA,h.lastB,by have:=h.day;omega⟩,tq a1 b1 (by omega) rfl⟩
theorem Kk {d:TDesk} (hd:DOk d) {x:TItem} (hx:x∈d.Items):x.Payment.Warrant∈d.Queue.Known:=by rw[←hd.k];exact zV.2 ⟨x,hx,rfl⟩
theorem StepD.ret {n:Nat} {d x:TDesk} {day w:Int} (h:GenD n d day) (hx:jG d w (day+1)=(x,0)):StepD n d x (day+1):=by
 obtain⟨a1,⟨k,y,b1,b2,b3,b4,rfl⟩,a5⟩:=JG hx
 have hy:=zE b1
 have hl:=zg b4
 refine⟨⟨a5,(tw b4).trans h.ids,fun e he=>?_,by dsimp only;rw[pC b4];exact h.cred,tu a1 h.pays b1 ⟨rfl,rfl⟩,fun e he=>?_,?_,by have:=h.bl;dsimp only;omega,?_,by have:=h.lastB;dsimp only;omega,by have:=h.day;omega⟩,tq a1 b1 (by omega) rfl⟩
 ·dsimp only at he
  rw[iF b4]at he
  rcases wA.1 he with he|he
  ·exact h.small e he
  ·rw[zU]at he
   have:=(h.pays y hy).2
   rw[he]
   show y.Payment.Amount≤500
   omega
 ·dsimp only at he
  rw[iF b4]at he
  rcases wA.1 he with he|he
  ·exact h.refs e he
  ·rw[zU]at he
   rw[he]
   exact .inr (b2▸Kk a1 hy)
 ·have:=h.len
  dsimp only
  rw[iF b4,zK,vN]
  omega
 ·dsimp only
  rw[cZ,hl]
  exact Int.le_refl _
theorem LU {day:Int} {a b:TAccount} {ps:List TPayment} (h:Sent day a ps b) (hd:cZ a≤day):cZ b≤day:=by
 obtain⟨es,h1,_,h3⟩:=h.ents
 rw[cZ,cu,h1]
 rcases List.eq_nil_or_concat es with rfl|⟨es',e,rfl⟩
 ·rw[wY];exact hd
 ·rw[List.concat_eq_append,←vJ,List.getLast?_append]
  have:=h3 e (by simp)
  simp[this]
theorem StepD.send {n:Nat} {d x:TDesk} {b:TBatch} {day k:Int} (h:GenD n d day) (hk:day≤k∧k≤day+6) (hx:fI d k=(x,b,0)):StepD n d x k:=by
 obtain⟨a1,a2,a3,a4,ps,a,c1,c2,c3,c4,c5,c6,c7,rfl,c9⟩:=QO hx
 obtain⟨es,e1,e2,e3⟩:=c6.ents
 have hes:es.length=ps.length:=by have:=congrArg List.length e2;rwa[wL,wL]at this
 have hsub:=c1.trans (kF d.Queue k)
 refine⟨⟨c9,c6.ids.trans h.ids,fun e he=>?_,by dsimp only;rw[c6.cred];exact h.cred,fun z hz=>?_,fun e he=>?_,?_,?_,LU c6 (by have:=h.lastA;omega),?_,by have:=h.day;omega⟩,fun y z hy hz e hs=>?_⟩
 ·dsimp only at he
  rw[e1]at he
  rcases wA.1 he with he|he
  ·exact h.small e he
  ·obtain⟨p,hp,k1,k2,k3,k4⟩:=yE e2 he
   obtain⟨i,y,hy,hyp,_⟩:=uM a1 (hsub.subset hp)
   have:=(h.pays y (zE hy)).2
   rw[hyp]at this
   omega
 ·dsimp only at hz
  obtain⟨y,hy,rfl⟩:=zV.1 hz
  rw[qf]
  exact h.pays y hy
 ·dsimp only at he
  rw[e1]at he
  rcases wA.1 he with he|he
  ·exact h.refs e he
  ·obtain⟨p,hp,k1,_⟩:=yE e2 he
   exact .inr (k1▸a1.q.asc.kn p (hsub.subset hp))
 ·have:=h.len
  dsimp only
  rw[e1,zK,hes]
  omega
 ·have:=h.bl
  dsimp only
  rw[zK,vN]
  omega
 ·dsimp only
  rw[fU]
  simp[c7,qW]
 ·dsimp only at hz
  obtain⟨u,hu,rfl⟩:=zV.1 hz
  rw[qf]at e
  have:=Df a1.nd hy hu e
  subst this
  rw[fE]
  split
  ·rename_i hw
   obtain⟨p,hp,ep⟩:=zV.1 hw
   have io:=a1.io hy
   rcases io.w with⟨h1,_⟩|⟨_,h2⟩
   ·omega
   ·exact absurd ep (h2 p (hsub.subset hp))
  ·exact hs
theorem GenD.start {a:TAccount} (h:GenAcc 8 a) (hr:∀e,e∈a.Entries→e.Ref=0) {day:Int} (hd:cZ a≤day) (hday:0≤day∧day≤40):GenD 0 ⟨a,bU,[]⟩ day:=by
 have ho:(jW a).2=0:=by
  rw[jW,if_pos h.ok,if_neg]
  intro e
  obtain⟨x,hx,e⟩:=vL.1 e
  rw[lv,zC (hr x hx)]at e
  cases e
 obtain⟨_,h1,h2,h3⟩:=G6 ho
 exact⟨h3,h.ids,h.small,h.cred,by simp,fun e he=> .inl (hr e he),by have:=h.len;dsimp only;omega,by simp,hd,hday.1,by omega⟩
theorem Mp {l:List Int} (hn:l.Nodup) (hl:∀x,x∈l→1≤x∧x≤12):l.length≤12:=by
 have:=hn.length_le_of_subset (l₂:=[1,2,3,4,5,6,7,8,9,10,11,12]) fun x hx=>by
  have:=hl x hx
  simp
  omega
 simpa using this
theorem GenD.waiting {n:Nat} {d:TDesk} {day:Int} (h:GenD n d day):d.Queue.Waiting.length≤12:=by
 have h1:=Mp h.ok.q.asc.nd fun w hw=>by
  obtain⟨p,hp,rfl⟩:=zV.1 hw
  have hk:=h.ok.q.asc.kn p hp
  have h1:=h.ok.q.kn _ hk
  rw[←h.ok.k]at hk
  obtain⟨x,hx,e⟩:=zV.1 hk
  have:=(h.pays x hx).1
  have e:x.Payment.Warrant=p.Warrant:=e
  omega
 rwa[wL]at h1
theorem DOk.fit {d:TDesk} (h:DOk d):FitD d:=⟨(p7 h.a).1,(p7 h.a).2,h.q.fit,by
 have:=h.q.lk
 rw[←h.k,wL]at this
 omega⟩
open Go.PA
open Go.RowKit
def Tu (n:Nat) (d:TDesk) (r:AV):Prop:=∃(x:TDesk) (day:Int),r= .tup [.agg x.cells,iv day]∧StepD n d x day
theorem PS {n:Nat} {d:TDesk} {day:Int} (h:GenD n d day):∃r,Tu n d r∧Imm r:=⟨_,⟨d,day,rfl,.same h⟩,aj (ba d) .sc⟩
set_option maxHeartbeats 8000000 in
theorem Sp (p:Nat) (src:Option Nat) (n:Nat) (hn:n≤1000) (d:TDesk) (day:Int) (hg:GenD n d day):PFun Tryz.prog (some p) src 23 [sp p,.agg d.cells,iv day] (Tu n d):=by
 refine ee Tryz.func23 rfl (by simp[Tryz.f23]) ?_
 intro E hP hr hs hW hN
 have up:∀{f:FuncId} {args:List AV} {Q:AV→Prop},PFun Tryz.prog (some p) src f args Q→PFun Tryz.prog E.row E.src f args Q:=fun h=>hr▸hs▸h
 have hf:=hg.ok.fit
 have id':=ba d
 have hday:=hg.day
 rw[cDn]at id'
 refine aM (by rw[hN];kernel_rfl) ?_
 simp -dsimp -implicitDefEqProofs [go_sem,hP,cDn]
 refine aM (by rw[hN];kernel_rfl) ?_
 simp -dsimp -implicitDefEqProofs [go_sem,hP]
 refine aM (by rw[hN];kernel_rfl) ?_
 simp -dsimp -implicitDefEqProofs [go_sem,hP]
 refine aM (by rw[hN];kernel_rfl) ?_
 simp -dsimp -implicitDefEqProofs [go_sem,hP]
 refine aC (up (kj p src 1 12 (by omega) (by omega))) hP lK (by simp[go_sem]) (oy (by omega)) ?_
 rintro r ⟨w,rfl,hw⟩ _
 simp -dsimp -implicitDefEqProofs [go_sem,hP]
 obtain⟨Inv,hInv⟩:∃Inv:St→Prop,Inv=fun s=>∃(x:TDesk) (e dd:Int),(e=0→StepD n d x dd)∧(e≠0→dd=day)∧s.t 2=iv dd∧s.t 4= .ref 0 0 0∧s.t 6= .ref 1 0 0∧s.t 8= .ref 2 0 0∧s.t 9=iv e∧s.H[0]?=some (some (jT d))∧s.H[1]?=some (some kX)∧s.H[2]?=some (some (jT x)):=⟨_,rfl⟩
 refine eN Inv (by rw[hN];kernel_rfl) ?_ ?_
 rotate_left
 ·intro s hs'
  rw[hInv]at hs'
  obtain⟨x,e,dd,he,hd,t2,t4,t6,t8,t9,h0,h1,h2⟩:=hs'
  have lt0:=(gsI h0)
  have lt1:=(gsI h1)
  have lt2:=(gsI h2)
  have ix:=ba x
  rw[cDn]at ix
  refine be _ _ _ (by rw[hN];kernel_rfl) ?_
  by_cases c:e=0
  ·have dc:decide (e=0)=true:=zC c
   simp -dsimp -implicitDefEqProofs [-getElem?_pos,go_sem,hP,t9,c,t8,h2,lt2,t2,t6,h1,lt1]
   exact aw (aj ix .sc) ⟨x,dd,rfl,he c⟩
  ·have dc:decide (e=0)=false:=zA c
   have:=hd c
   subst this
   simp -dsimp -implicitDefEqProofs [-getElem?_pos,go_sem,hP,t9,c,dc,t4,h0,lt0,t2,t6,h1,lt1]
   exact aw (aj id' .sc) ⟨d,dd,rfl,.same hg⟩
 simp -dsimp -implicitDefEqProofs [go_sem,hP]
 refine aC (up (sT p src 9 (by omega))) hP kH (by simp[go_sem]) (Da _) ?_
 rintro r ⟨z,rfl,_,hz⟩ _
 by_cases z0:z=0∨z=1∨z=2
 ·rcases z0 with rfl|rfl|rfl
  all_goals
   simp -dsimp -implicitDefEqProofs [go_sem,hP]
   refine v7 (fun i=>decide (i=0)) [7] [2,3] hP (by kernel_rfl) (by kernel_rfl) ?_
   simp -dsimp -implicitDefEqProofs [go_sem,hP,aS]
   refine qA (up (Tm p src)) hP Wf (by simp[go_sem]) Sf ?_
   rintro r ⟨g,rfl,hgp⟩ _
   have ad:=It d g hf
   have ig:=dX g
   obtain⟨X,hX⟩:∃X,X=(fw d g).1:=⟨_,rfl⟩
   obtain⟨e,he⟩:∃e,e=(fw d g).2:=⟨_,rfl⟩
   have hb:e=0→StepD n d X day:=fun h=> .order hg hgp (by rw[←h,hX,he])
   rw[←hX,←he,cDn,cPy,cDn]at ad
   have iX:=ba X
   rw[cDn]at iX
   rw[cPy]at ig
   simp -dsimp -implicitDefEqProofs [go_sem,hP,cPy,aS]
   refine gl (ad.lift _ _) hP Wq (by simpa using⟨id',ig⟩) (aj iX .sc) ?_
   simp -dsimp -implicitDefEqProofs [go_sem,hP]
   refine⟨_,Weaker.refl _,?_⟩
   rw[hInv]
   exact⟨X,e,day,hb,fun _=>rfl,rfl,rfl,rfl,rfl,rfl,rfl,rfl,rfl⟩
 have z0':¬z=0:=fun h=>z0 (.inl h)
 have z1':¬z=1:=fun h=>z0 (.inr (.inl h))
 have z2':¬z=2:=fun h=>z0 (.inr (.inr h))
 have d0:decide (z=0)=false:=zA z0'
 have d1:decide (z=1)=false:=zA z1'
 have d2:decide (z=2)=false:=zA z2'
 by_cases z34:z=3∨z=4
 ·rcases z34 with rfl|rfl
  all_goals
   simp -dsimp -implicitDefEqProofs [go_sem,hP]
   refine aC (up (sT p src 4 (by omega))) hP kH (by simp[go_sem]) (Da _) ?_
   rintro r ⟨v,rfl,_,hv⟩ _
   have hv:=hv (by omega)
   have wv:=ae (day+v) (by omega)
   simp -dsimp -implicitDefEqProofs [go_sem,hP,wv]
   refine aJ ((FX (day+v) (by omega)).lift _ _) hP Wc (by simp[an]) .sc ?_
   obtain⟨nx,hnx⟩:∃nx,nx=iW (day+v):=⟨_,rfl⟩
   have hnb:=nZ (day+v)
   rw[←hnx]at hnb⊢
   have sd:=Nj d nx hf
   obtain⟨X,hX⟩:∃X,X=(fI d nx).1:=⟨_,rfl⟩
   obtain⟨b,hbt⟩:∃b,b=(fI d nx).2.1:=⟨_,rfl⟩
   obtain⟨e,he⟩:∃e,e=(fI d nx).2.2:=⟨_,rfl⟩
   have hb:e=0→StepD n d X nx:=fun h=> .send (b:=b) hg (by omega) (by rw[←h,hX,he,hbt])
   rw[←hX,←he,←hbt,cDn,cDn,cBt]at sd
   have iX:=ba X
   rw[cDn]at iX
   have ib:=D4 b
   rw[cBt]at ib
   simp -dsimp -implicitDefEqProofs [go_sem,hP]
   refine af sd hP WY (by simpa[an]using id') (eF iX ib .sc) ?_
   by_cases c:e=0
   ·have dc:decide (e=0)=true:=zC c
    simp -dsimp -implicitDefEqProofs [go_sem,hP,c]
    refine⟨_,Weaker.refl _,?_⟩
    rw[hInv]
    exact⟨X,0,nx,fun _=>hb c,fun h=>absurd rfl h,rfl,rfl,rfl,rfl,rfl,rfl,rfl,rfl⟩
   ·have dc:decide (e=0)=false:=zA c
    simp -dsimp -implicitDefEqProofs [go_sem,hP,c,dc]
    refine⟨_,Weaker.refl _,?_⟩
    rw[hInv]
    exact⟨X,e,day,fun h=>absurd h c,fun _=>rfl,rfl,rfl,rfl,rfl,rfl,rfl,rfl,rfl⟩
 have z3':¬z=3:=fun h=>z34 (.inl h)
 have z4':¬z=4:=fun h=>z34 (.inr h)
 have d3:decide (z=3)=false:=zA z3'
 have d4:decide (z=4)=false:=zA z4'
 by_cases z5:z=5
 ·subst z5
  have ad:=Hy d w hf
  obtain⟨X,hX⟩:∃X,X=(jJ d w).1:=⟨_,rfl⟩
  obtain⟨e,he⟩:∃e,e=(jJ d w).2:=⟨_,rfl⟩
  have hb:e=0→StepD n d X day:=fun h=> .settle (w:=w) hg (by rw[←h,hX,he])
  rw[←hX,←he,cDn,cDn]at ad
  have iX:=ba X
  rw[cDn]at iX
  simp -dsimp -implicitDefEqProofs [go_sem,hP]
  refine af ad hP Xu (by simpa[an]using id') (aj iX .sc) ?_
  simp -dsimp -implicitDefEqProofs [go_sem,hP]
  refine⟨_,Weaker.refl _,?_⟩
  rw[hInv]
  exact⟨X,e,day,hb,fun _=>rfl,rfl,rfl,rfl,rfl,rfl,rfl,rfl,rfl⟩
 have d5:decide (z=5)=false:=zA z5
 by_cases z6:z=6
 ·subst z6
  have wd:=ae (day+1) (by omega)
  have ad:=G8 d w (day+1) hf
  obtain⟨X,hX⟩:∃X,X=(jG d w (day+1)).1:=⟨_,rfl⟩
  obtain⟨e,he⟩:∃e,e=(jG d w (day+1)).2:=⟨_,rfl⟩
  have hb:e=0→StepD n d X (day+1):=fun h=> .ret (w:=w) hg (by rw[←h,hX,he])
  rw[←hX,←he,cDn,cDn]at ad
  have iX:=ba X
  rw[cDn]at iX
  simp -dsimp -implicitDefEqProofs [go_sem,hP,wd]
  refine af ad hP WU (by simpa[an]using id') (aj iX .sc) ?_
  by_cases c:e=0
  ·simp -dsimp -implicitDefEqProofs [go_sem,hP,c,wd]
   refine⟨_,Weaker.refl _,?_⟩
   rw[hInv]
   exact⟨X,0,day+1,fun _=>hb c,fun h=>absurd rfl h,rfl,rfl,rfl,rfl,rfl,rfl,rfl,rfl⟩
  ·have dc:decide (e=0)=false:=zA c
   simp -dsimp -implicitDefEqProofs [go_sem,hP,c,dc]
   refine⟨_,Weaker.refl _,?_⟩
   rw[hInv]
   exact⟨X,e,day,fun h=>absurd h c,fun _=>rfl,rfl,rfl,rfl,rfl,rfl,rfl,rfl,rfl⟩
 have d6:decide (z=6)=false:=zA z6
 by_cases z7:z=7
 ·subst z7
  have ad:=JZ d w day hf
  obtain⟨X,hX⟩:∃X,X=(mf d w day).1:=⟨_,rfl⟩
  obtain⟨e,he⟩:∃e,e=(mf d w day).2:=⟨_,rfl⟩
  have hb:e=0→StepD n d X day:=fun h=> .again (w:=w) (due:=day) hg (by rw[←h,hX,he])
  rw[←hX,←he,cDn,cDn]at ad
  have iX:=ba X
  rw[cDn]at iX
  simp -dsimp -implicitDefEqProofs [go_sem,hP]
  refine af ad hP WX (by simpa[an]using id') (aj iX .sc) ?_
  simp -dsimp -implicitDefEqProofs [go_sem,hP]
  refine⟨_,Weaker.refl _,?_⟩
  rw[hInv]
  exact⟨X,e,day,hb,fun _=>rfl,rfl,rfl,rfl,rfl,rfl,rfl,rfl,rfl⟩
 have d7:decide (z=7)=false:=zA z7
 have ad:=FT d w hf
 obtain⟨X,hX⟩:∃X,X=(jH d w).1:=⟨_,rfl⟩
 obtain⟨e,he⟩:∃e,e=(jH d w).2:=⟨_,rfl⟩
 have hb:e=0→StepD n d X day:=fun h=> .recall (w:=w) hg (by rw[←h,hX,he])
 rw[←hX,←he,cDn,cDn]at ad
 have iX:=ba X
 rw[cDn]at iX
 simp -dsimp -implicitDefEqProofs [go_sem,hP,d0,d1,d2,d3,d4,d5,d6,d7,z0',z1',z2',z3',z4',z5,z6,z7]
 refine af ad hP Wp (by simpa[an]using id') (aj iX .sc) ?_
 simp -dsimp -implicitDefEqProofs [go_sem,hP]
 refine⟨_,Weaker.refl _,?_⟩
 rw[hInv]
 exact⟨X,e,day,hb,fun _=>rfl,rfl,rfl,rfl,rfl,rfl,rfl,rfl,rfl⟩
open Go.PA
open Go.RowKit
theorem GenD.le {n m:Nat} {d:TDesk} {day:Int} (h:GenD n d day) (hm:n≤m):GenD m d day:=⟨h.ok,h.ids,h.small,h.cred,h.pays,h.refs,by have:=h.len;omega,by have:=h.bl;omega,h.lastA,h.lastB,by have:=h.day;omega⟩
def TH (n:Nat) (r:AV):Prop:=∃(d:TDesk) (day:Int),r= .tup [.agg d.cells,iv day]∧GenD n d day
theorem OT:GenD 0 ⟨lr [1,2,3,7] 0,bU,[]⟩ 0:=by
 refine GenD.start ((GenAcc.open (c:=0) (by omega)).1.mono (by omega)) (by simp[lr]) ?_ (by omega)
 decide
theorem Rt (n:Nat):∃r,TH n r∧Imm r:=⟨_,⟨_,0,rfl,OT.le (by omega)⟩,aj (ba _) .sc⟩
theorem Tf:∃r,(∃a:TAccount,r=AV.agg a.cells∧GenAcc 8 a∧∀e,e∈a.Entries→e.Ref=0)∧Imm r:=⟨_,⟨lr [1,2,3,7] 0,rfl,(GenAcc.open (by omega)).1.mono (by omega),by simp[lr]⟩,cQ _⟩
set_option maxHeartbeats 4000000 in
theorem RY (p:Nat) (src:Option Nat) (most:Nat) (hm:most≤100):PFun Tryz.prog (some p) src 5 [sp p,iv most] (TH most):=by
 refine ee Tryz.func5 rfl (by simp[Tryz.f5]) ?_
 intro E hP hr hs hW hN
 have up:∀{f:FuncId} {args:List AV} {Q:AV→Prop},PFun Tryz.prog (some p) src f args Q→PFun Tryz.prog E.row E.src f args Q:=fun h=>hr▸hs▸h
 refine aM (by rw[hN];kernel_rfl) ?_
 simp -dsimp -implicitDefEqProofs [-getElem?_pos,go_sem,hP]
 refine aM (by rw[hN];kernel_rfl) ?_
 simp -dsimp -implicitDefEqProofs [-getElem?_pos,go_sem,hP]
 refine aC (up (G0 p src 8 (by omega))) hP V0 (by simp[go_sem]) Tf ?_
 rintro r ⟨a,rfl,hga,hra⟩ _
 have fa:=p7 hga.ok
 have op:=M3 a fa.1 fa.2
 have ia:=cQ a
 have ho:(jW a).2=0:=by
  rw[jW,if_pos hga.ok,if_neg]
  intro e
  obtain⟨x,hx,e⟩:=vL.1 e
  rw[lv,zC (hra x hx)]at e
  cases e
 have h1:=(G6 ho).1
 rw[h1]at op
 simp only at op
 obtain⟨d0,hd0⟩:∃d0:TDesk,d0=⟨a,bU,[]⟩:=⟨_,rfl⟩
 have g0:GenD 0 d0 (cZ a):=by
  rw[hd0]
  have:=hga.day
  exact GenD.start hga hra (Int.le_refl _) ⟨xq hga.ok,by rw[cZ];omega⟩
 rw[←hd0]at op
 have id':=ba d0
 rw[cDn]at op id'
 rw[cA]at op ia
 simp -dsimp -implicitDefEqProofs [-getElem?_pos,go_sem,hP,cA]
 refine aM (by rw[hN];kernel_rfl) ?_
 simp -dsimp -implicitDefEqProofs [-getElem?_pos,go_sem,hP]
 refine af op hP V8 (by simpa using ia) (aj id' .sc) ?_
 simp -dsimp -implicitDefEqProofs [-getElem?_pos,go_sem,hP]
 refine aM (by rw[hN];kernel_rfl) ?_
 simp -dsimp -implicitDefEqProofs [-getElem?_pos,go_sem,hP]
 obtain⟨Inv,hInv⟩:∃Inv:St→Prop,Inv=fun s=>s.t 0=sp p∧s.t 1=iv most∧s.t 4= .ref 0 0 0∧s.t 7= .ref 2 0 0∧s.t 9=iv (cZ a)∧s.H[0]?=some (some kX)∧s.H[2]?=some (some (jT d0)):=⟨_,rfl⟩
 refine eN Inv (by rw[hN];kernel_rfl) ?_ ?_
 ·rcases wR a.Entries.length with h0|h0
  ·have e0:decide (0<a.Entries.length)=false:=zA (by omega)
   have:cZ a=0:=by rw[cZ,vt h0]
   simp -dsimp -implicitDefEqProofs [-getElem?_pos,go_sem,hP,e0]
   refine⟨_,Weaker.refl _,?_⟩
   rw[hInv,this]
   exact⟨rfl,rfl,rfl,rfl,rfl,rfl,rfl⟩
  ·obtain⟨k,hk⟩:∃k,a.Entries.length=k+1:=⟨_,(Nat.succ_pred_eq_of_pos h0).symm⟩
   obtain⟨e,hee⟩:∃e,a.Entries[k]?=some e:=⟨_,zF (by omega)⟩
   have wk:IntKind.i64.wrap (k:Int)=(k:Int):=ae _ (by have:=fa.2;omega)
   have:cZ a=e.Day:=by rw[cZ,ue hk hee]
   simp -dsimp -implicitDefEqProofs [-getElem?_pos,go_sem,hP,h0,hk,wk,vC,hee,cE]
   refine⟨_,Weaker.refl _,?_⟩
   rw[hInv,this]
   exact⟨rfl,rfl,rfl,rfl,rfl,rfl,rfl⟩
 intro s hs'
 rw[hInv]at hs'
 obtain⟨t0,t1,t4,t7,t9,h0,h2⟩:=hs'
 clear hInv Inv
 refine be _ _ _ (by rw[hN];kernel_rfl) ?_
 have w1:=ae ((most:Int)+1) (by omega)
 simp -dsimp -implicitDefEqProofs [-getElem?_pos,go_sem,hP,t0,t1,w1]
 refine cn (up (sT p src (most+1) (by omega))) hP kH (ak (by simp -dsimp[-getElem?_pos,go_sem,w1])) (Fl _) (sY _) ?_
 rintro r ⟨m,rfl,_,hm1⟩
 have hm1:=hm1 (by omega)
 obtain⟨m,rfl⟩:=Int.eq_ofNat_of_zero_le hm1.1
 simp -dsimp -implicitDefEqProofs [-getElem?_pos,go_sem,hP]
 obtain⟨I,hI⟩:∃I:Nat→St→Prop,I=fun m s=>∃(k:Nat) (d:TDesk) (day:Int),k+m≤most∧GenD k d day∧s.t 0=sp p∧s.t 4= .ref 0 0 0∧s.t 7= .ref 2 0 0∧s.t 9=iv day∧s.t 11=iv m∧s.H[0]?=some (some kX)∧s.H[2]?=some (some (jT d)):=⟨_,rfl⟩
 refine az I (m) (by rw[hN];rfl) ?_ ?_
 ·rw[hI]
  exact⟨0,d0,cZ a,by omega,g0,t0,t4,t7,t9,rfl,h0,h2⟩
 clear hm1 g0 op id' t0 t1 t4 t7 t9 h0 h2
 intro m s hs'
 rw[hI]at hs'
 obtain⟨k,d,day,hk,hg,t0,t4,t7,t9,t11,h0,h2⟩:=hs'
 have lt0:=(gsI h0)
 have lt2:=(gsI h2)
 have id':=ba d
 rw[cDn]at id'
 simp -dsimp -implicitDefEqProofs [-getElem?_pos,go_sem,hP,t11]
 refine aB ?_ ?_<;>intro h
 ·have hm0:0<m:=by simpa using h
  have wm:=ae ((m:Int)-1) (by omega)
  have wp:=Sp p src k (by omega) d day hg
  rw[cDn]at wp
  simp -dsimp -implicitDefEqProofs [-getElem?_pos,go_sem,hP,t0,t7,h2,lt2,t9]
  refine aC (up wp) hP V3 (by simp[an];exact id') (PS hg) ?_
  rintro r ⟨x,day',rfl,hst⟩ _
  simp -dsimp -implicitDefEqProofs [-getElem?_pos,go_sem,hP,cDn,t7,h2,lt2,t11,wm]
  refine⟨m-1,by omega,?_⟩
  rw[hI]
  refine⟨k+1,x,day',by omega,hst.gen,t0,t4,t7,rfl,?_,by simp -dsimp[-getElem?_pos,go_sem,h0],by simp -dsimp[-getElem?_pos,go_sem,lt2]⟩
  simp -dsimp -implicitDefEqProofs [-getElem?_pos,go_sem]
  omega
 ·have hm0:m=0:=by simpa using h
  simp -dsimp -implicitDefEqProofs [-getElem?_pos,go_sem,hP,t7,h2,lt2,t9,t4,h0,lt0]
  exact aw (aj id' .sc) ⟨d,day,rfl,hg.le (by omega)⟩
open Go.PA
open Go.RowKit
open Go.PA
open Go.RowKit
open Go.PA
open Go.RowKit
section
variable {n:Nat} {d:TDesk} {day k:Int}
theorem FF:∀es:List TEntry,(∀e,e∈es→0<e.Amount∧e.Amount≤500)→ -(500*(es.length:Int))≤yC ioE es∧yC ioE es≤500*(es.length:Int)
 |[],_=>by simp[yC]
 |e::es,h=>by
  have h1:=FF es fun x hx=>h x (uC _ hx)
  have h2:=h e (by simp)
  have h3: -500≤ioE e∧ioE e≤500:=by
   unfold ioE
   split<;>split<;>omega
  rw[vi,wI]
  omega
theorem GN (h:GenD n d day) (hn:n≤30): -1000000≤mC d.Account∧mC d.Account≤1000000:=by
 rw[M1 h.ok.a]
 have:=FF d.Account.Entries fun e he=>⟨(CX h.ok.a e he).1,h.small e he⟩
 have:=h.len
 omega
end
open Go.PA
open Go.RowKit
open Go.PA
open Go.RowKit
open Go.PA
open Go.RowKit
def lastA:Int→List Pos→Int
 |o,[]=>o
 |_,p::l=>lastA p.a l
theorem CJ {α:Type} (lt:α→α→Bool) (x:α):∀l:List α,(oN lt x l).Perm (x::l)
 |[]=> .refl _
 |y::ys=>by
  simp only[oN]
  split
  ·exact ((CJ lt x ys).cons y).trans (.swap x y ys)
  ·exact .refl _
theorem Ac {α:Type} (lt:α→α→Bool):∀l acc:List α,(l.foldl (fun acc x=>oN lt x acc) acc).Perm (l++acc)
 |[],acc=> .refl _
 |x::l,acc=>by
  rw[List.foldl_cons]
  refine (Ac lt l _).trans ?_
  refine ((CJ lt x acc).append_left l).trans ?_
  exact List.perm_middle
theorem zk {α:Type} (lt:α→α→Bool) (l:List α):(gG lt l).Perm l:=by
 refine (List.reverse_perm _).trans ?_
 have:=Ac lt l []
 rwa[wY]at this
theorem Gd {xs ys:List Flow} (h:xs.Perm ys):eJ xs=eJ ys:=by
 unfold eJ
 rw[h.length_eq]
 have:(xs.any fun f=>!bK f)=ys.any fun f=>!bK f:=by
  rw[Bool.eq_iff_iff,vL,vL]
  exact⟨fun⟨f,hf,hv⟩=>⟨f,h.mem_iff.1 hf,hv⟩,fun⟨f,hf,hv⟩=>⟨f,h.mem_iff.2 hf,hv⟩⟩
 rw[this]
def C3 (now:Int) (p:TPayment):Flow:=⟨iW (max p.Due now), -p.Amount,1,p.Warrant⟩
def Jy (d:TDesk) (now:Int):List Flow:=gG eR (d.Queue.Waiting.map (C3 now))
theorem GL (d:TDesk) (now:Int):(Jy d now).length=d.Queue.Waiting.length:=by rw[Jy,mH,wL]
theorem N4 {d:TDesk} {now:Int} {f:Flow} (h:f∈Jy d now):∃p,p∈d.Queue.Waiting∧f=C3 now p:=by
 have:=(zk eR _).mem_iff.1 h
 obtain⟨p,hp,e⟩:=zV.1 this
 exact⟨p,hp,e.symm⟩
structure FewP (d:TDesk):Prop where
 len:d.Queue.Waiting.length≤12
 ok:∀p,p∈d.Queue.Waiting→PayOk p∧p.Amount≤100
theorem GenD.few {n:Nat} {d:TDesk} {day:Int} (h:GenD n d day):FewP d:=⟨h.waiting,fun p hp=>by
 obtain⟨i,x,hx,rfl,_⟩:=uM h.ok hp
 have hm:=zE hx
 exact⟨(h.ok.io hm).pay,(h.pays x hm).2⟩⟩
theorem JA {d:TDesk} (h:FewP d) {now:Int} (hn:0≤now∧now≤35990):eJ (Jy d now)=0:=by
 have hl:=h.len
 unfold eJ
 rw[if_neg (by rw[GL];omega),if_neg]
 intro e
 obtain⟨f,hf,hv⟩:=vL.1 e
 obtain⟨p,hp,rfl⟩:=N4 hf
 obtain⟨po,pa⟩:=h.ok p hp
 have h1:=po.amount
 have h2:=po.due
 have h3:=po.warrant
 have h4:=nZ (max p.Due now)
 have hv':bK ⟨iW (max p.Due now), -p.Amount,1,p.Warrant⟩=true:=by
  simp only[bK,oL,bV,zG,zI,vQ,wH]
  omega
 have:bK (C3 now p)=true:=hv'
 rw[this]at hv
 cases hv
open Go.PA
open Go.RowKit
theorem Kp {n d:Int} (h1:n≤d) (h2:d≤iW n) (h0:0≤n) (hn:n≤35990):iG d=decide (d=iW n):=by
 have hb:=nZ n
 have e:amg d 0 36000=true:=dH.2 (by omega)
 unfold iG
 rw[e,zP,decide_eq_decide]
 unfold iW at*
 split at*<;>(try split at*)<;>omega
theorem Hd (n:Int) (h:0≤n∧n≤35990):PFun Tryz.prog none none 31 [iv n] (·= .tup [iv (iW n),iv 0]):=by
 refine ab Tryz.func31 rfl (by simp[Tryz.f31]) (by kernel_rfl) ?_
 intro E hP hr hs hW hN
 simp -dsimp -implicitDefEqProofs [go_sem,hP]
 have bi:=nZ n
 obtain⟨I,hI⟩:∃I:Nat→St→Prop,I=fun m s=>∃d:Int,n≤d∧d≤iW n∧m=(iW n-d).toNat∧s.t 0=iv d:=⟨_,rfl⟩
 refine az I ((iW n-n).toNat) (by rw[hN];rfl) ?_ ?_
 ·rw[hI]
  exact⟨n,by omega,by omega,rfl,rfl⟩
 intro m s hs'
 rw[hI]at hs'
 obtain⟨d,h1,h2,hm,t0⟩:=hs'
 have va:amg d 0 36000=true:=dH.2 (by omega)
 have bf:=Kp h1 h2 h.1 h.2
 have w1:=ae (d+1) (by omega)
 simp -dsimp -implicitDefEqProofs [go_sem,hP,t0]
 refine ai (DM d) hP s8 (ak (by simp[an])) .sc ?_
 simp -dsimp -implicitDefEqProofs [go_sem,hP,t0,va]
 refine ai (th d) hP PW (ak (by simp[an])) .sc ?_
 by_cases e:d=iW n
 ·subst e
  have bf:iG (iW n)=true:=by simpa using bf
  simp -dsimp -implicitDefEqProofs [go_sem,hP,t0,bf]
  exact aw (aj .sc .sc) rfl
 ·rw[zA e]at bf
  simp -dsimp -implicitDefEqProofs [go_sem,hP,t0,bf,w1]
  refine⟨(iW n-(d+1)).toNat,by omega,?_⟩
  rw[hI]
  exact⟨d+1,by omega,by omega,rfl,rfl⟩
theorem UU (d now:Int) (h1:0≤d∧d≤35990) (h2:0≤now∧now≤35990):PFun Tryz.prog none none 47 [iv d,iv now] (·= .tup [iv (iW (max d now)),bv true]):=by
 refine ab Tryz.func47 rfl (by simp[Tryz.f47]) (by kernel_rfl) ?_
 intro E hP hr hs hW hN
 have m1:mO [iv d,iv now]=some (iv (max d now)):=by simp[mO,cX]
 simp -dsimp -implicitDefEqProofs [go_sem,hP,m1]
 refine aJ ((Hd (max d now) (by omega)).lift _ _) hP OZ (by simp[an]) (aj .sc .sc) ?_
 simp -dsimp -implicitDefEqProofs [go_sem,hP]
 exact aw (aj .sc .sc) rfl
theorem Pm {α:Type} {l:List α} {k:Nat} {y:α} (h:l[k]?=some y):l.take (k+1)=l.take k++[y]:=by rw[wJ,h];rfl
set_option maxHeartbeats 1000000 in
theorem HB (d:TDesk) (now:Int) (hd:DOk d) (hf:FewP d) (hn:0≤now∧now≤35990):PFun Tryz.prog none none 11 [.agg d.cells,iv now] (·=bJ (Jy d now)):=by
 refine ab Tryz.func11 rfl (by simp[Tryz.f11]) (by kernel_rfl) ?_
 intro E hP hr hs hW hN
 have ck:=LP d hd.fit
 rw[fd.2 hd]at ck
 have id':=ba d
 rw[cDn]at ck id'
 have am:bV now 0 35990=true:=by simp only[bV,zG,zI];omega
 have hl:=hf.len
 obtain⟨W,hW'⟩:∃W,W=d.Queue.Waiting:=⟨_,rfl⟩
 have hok:=hf.ok
 rw[←hW']at hl hok
 simp -dsimp -implicitDefEqProofs [go_sem,hP,cDn]
 refine ai ck hP VQ (ak (by simpa using id')) .sc ?_
 simp -dsimp -implicitDefEqProofs [go_sem,hP]
 refine ai (kW now 0 35990) hP HC (ak (by simp[an])) .sc ?_
 simp -dsimp -implicitDefEqProofs [go_sem,hP,am,←hW']
 obtain⟨G,hG⟩:∃G,G=W.map (C3 now):=⟨_,rfl⟩
 have lG:G.length=W.length:=by rw[hG,wL]
 refine cV 5 97 4 rfl ?_
 obtain⟨I,hI⟩:∃I:Nat→St→Prop,I=fun m s=>∃(k id:Nat),k≤W.length∧m=W.length-k∧s.t 1=iv now∧s.t 20=aQ W∧s.t 21=iv W.length∧s.t 22=iv k∧s.t 5= .sref id 0 k∧s.H[id]?=some (some ⟨97,4,ao Flow.cells (G.take k)⟩):=⟨_,rfl⟩
 refine az I (W.length) (by rw[hN];rfl) ?_ ?_
 ·rw[hI]
  exact⟨0,1,by omega,by omega,rfl,rfl,by simp -dsimp[-getElem?_pos,go_sem,ar],rfl,rfl,by simp -dsimp[-getElem?_pos,go_sem,ao]⟩
 intro m s hs'
 rw[hI]at hs'
 obtain⟨k,id,hk,hm,t1,t20,t21,t22,t5,hH⟩:=hs'
 have lt:=(gsI hH)
 simp -dsimp -implicitDefEqProofs [go_sem,hP,t21,t22]
 refine aB ?_ ?_<;>intro h
 ·have hk:k<W.length:=by simpa using h
  obtain⟨p,hp⟩:=gkE hk
  obtain⟨po,pa⟩:=hok p (zE hp)
  have a1:=po.amount
  have wk:=ae ((k:Int)+1) (by omega)
  have wn:=ae (-p.Amount) (by omega)
  have gp:G[k]?=some (C3 now p):=by rw[hG,zR,hp];rfl
  have app:ao Flow.cells (G.take k)++[[iv (iW (max p.Due now)),iv (-p.Amount),iv 1,iv p.Warrant]]=ao Flow.cells (G.take (k+1)):=by
   rw[Pm gp]
   exact aX Flow.cells _ (C3 now p)
  have ln:(ao Flow.cells (G.take k)).length=k:=by rw[ar,zY];omega
  simp -dsimp -implicitDefEqProofs [go_sem,hP,t1,t20,t22,hp,cPy]
  refine aJ ((UU p.Due now po.due hn).lift _ _) hP XF (by simp[an]) (aj .sc .sc) ?_
  simp -dsimp -implicitDefEqProofs [-getElem?_pos,go_sem,hP,t5,t22,hH,lt,ln,wn,wk,app]
  refine⟨by omega,by omega,W.length-(k+1),by omega,?_⟩
  rw[hI]
  exact⟨k+1,s.H.length+1,by omega,rfl,t1,t20,t21,rfl,rfl,by simp -dsimp[-getElem?_pos,go_sem]⟩
 ·have hk:k=W.length:=by
   have:¬k<W.length:=by simpa using h
   omega
  subst hk
  rw[←lG,zT]at hH
  simp -dsimp -implicitDefEqProofs [go_sem,hP,t5]
  refine aI (KZ G s.H id _ lG.symm (by omega) hH) hP TL ?_
  rintro r H' ⟨rfl,rfl⟩
  simp -dsimp -implicitDefEqProofs [go_sem,hP]
  have e5:=fL Flow.cells (gG eR G) W.length (by rw[mH,lG])
  refine done (x:=bJ (gG eR G)) ?_ (by rw[Jy,←hW',←hG]) ?_
  ·simp -dsimp -implicitDefEqProofs [-getElem?_pos,go_sem,lt,e5,ke]
   exact dv.1 (aY Flow.cells (k:=4) sN _)
  ·simp -dsimp -implicitDefEqProofs [-getElem?_pos,go_sem,lt,e5,ke]
   rfl
open Go.PA
open Go.RowKit
def Ia (m:TMove):Int:=if m.Kind=1 then m.Amount else if m.Kind=3 then -m.Amount else 0
def sP (l:List TMove):Int:=(l.map Ia).sum
def Kc (l:List THolding):Int:=mE (fun _=>true) hAm l
theorem uf (l:List THolding) (id h n:Int):Kc (kD l id h n)=Kc l+n:=by
 have:=wx (lt:=hLt id h) (is:=hIs id h) (mk:=hMk id h) (am:=hAm) (fun _=>true) (fun _=>rfl) true (fun _=>rfl) (fun _ _=>rfl) l n
 unfold Kc kD
 rw[this,if_pos rfl]
theorem Hb {m:TMove} (h:cD m=false) (hk:1≤m.Kind∧m.Kind≤3):(m.Kind=1→m.From=0∧m.To≠0)∧(m.Kind=2→m.From≠0∧m.To≠0)∧(m.Kind=3→m.From≠0∧m.To=0):=by
 unfold cD cP at h
 split at h
 ·simp at h
  omega
 ·split at h
  ·simp at h
   omega
  ·simp at h
   omega
theorem Oa {secs:List TSecurity} {u:RepSt} {ms:List TMove} (h:Runs secs mi ms u):Kc u.l=sP ms∧∀m,m∈ms→1≤m.Kind∧m.Kind≤3:=by
 induction h with
 |nil=>exact⟨rfl,by simp⟩
 |@snoc u ms m hr hs ih=>
  obtain⟨s1,s2,s3⟩:=hs
  obtain⟨s,mo⟩:=mY s3
  have st:=Hb mo.str s2
  refine⟨?_,fun x hx=>?_⟩
  ·have e:sP (ms++[m])=sP ms+Ia m:=by simp[sP]
   rw[e,←ih.1]
   show Kc (goH u.l m)=Kc u.l+Ia m
   unfold goH Ia
   by_cases k1:m.Kind=1
   ·obtain⟨a,b⟩:=st.1 k1
    simp only[a,b,k1,if_true,if_false,uf]
   by_cases k2:m.Kind=2
   ·obtain⟨a,b⟩:=st.2.1 k2
    simp only[a,b,k2,if_false,uf]
    simp
    omega
   ·have k3:m.Kind=3:=by omega
    obtain⟨a,b⟩:=st.2.2 k3
    simp only[a,b,k3,if_true,if_false,uf]
    simp
  ·rcases wA.1 hx with hx|hx
   ·exact ih.2 x hx
   ·simp at hx
    subst hx
    exact s2
open Go.PA
open Go.RowKit
def jj (l:List THolding) (id h:Int):Int:=((l.find? (hIs id h)).map (·.Amount)).getD 0
theorem r5 (x:THolding) (l:List THolding) (id h:Int):jj (x::l) id h=if hIs id h x=true then x.Amount else jj l id h:=by
 unfold jj
 rw[List.find?_cons]
 cases hIs id h x<;>simp
theorem JX {l:List THolding} {id h:Int} (hn:∀x,x∈l→hIs id h x=false):jj l id h=0:=by
 unfold jj
 rw[List.find?_eq_none.2 fun x hx=>by simp[hn x hx]]
 rfl
theorem mI {id h:Int}:∀{l:List THolding},l.Pairwise hR→jj l id h=dY l id h
 |[],_=>rfl
 |x::l,hp=>by
  obtain⟨h1,h2⟩:=vD.1 hp
  rw[r5]
  unfold dY
  rw[dC]
  cases hi:hIs id h x
  ·rw[if_neg (by simp),if_neg (by simp),mI h2]
   unfold dY
   omega
  ·rw[if_pos rfl,if_pos rfl,uv _ _ l fun y hy=>(hOk id h).irr x y hi (h1 y hy)]
   show x.Amount=hAm x+0
   unfold hAm
   omega
def qG (id h n:Int):Bool→List THolding→List THolding
 |put,[]=>if put=true then []else [⟨id,h,n⟩]
 |put,x::l=>if hIs id h x=true then qG id h n put l else if put=false∧hLt id h x=false then⟨id,h,n⟩::x::qG id h n true l else x::qG id h n put l
theorem mJ {id h n:Int}:∀{l:List THolding},(∀x,x∈l→hIs id h x=false)→qG id h n true l=l
 |[],_=>rfl
 |x::l,hn=>by
  rw[qG,if_neg (by rw[hn x (by simp)];simp),if_neg (by simp),mJ fun y hy=>hn y (by simp[hy])]
theorem KA {id h n:Int}:∀{l:List THolding},l.Pairwise hR→qG id h (jj l id h+n) (decide (jj l id h+n=0)) l=kD l id h n
 |[],_=>by
  have:jj [] id h=0:=rfl
  rw[this,Int.zero_add,qG]
  unfold kD kc
  by_cases c:n=0<;>simp[c,hMk]
 |x::l,hp=>by
  obtain⟨h1,h2⟩:=vD.1 hp
  have ih:=KA (id:=id) (h:=h) (n:=n) h2
  have e:kD (x::l) id h n=if hLt id h x=true then x::kD l id h n else if hIs id h x=true then (if hAm x+n=0 then l else hMk id h (hAm x+n)::l)else if n=0 then x::l else hMk id h n::x::l:=by
   unfold kD
   rw[kc]
  rw[e,r5,qG]
  cases hi:hIs id h x
  ·simp only[wS,if_false]
   cases hlt:hLt id h x
   ·have no:∀y,y∈l→hIs id h y=false:=fun y hy=>(hOk id h).aft x y hlt hi (h1 y hy)
    simp only[wS,if_false,and_true]
    rw[JX no,Int.zero_add]
    by_cases c:n=0
    ·rw[if_pos c,zC c,mJ no,if_neg (by simp)]
    ·rw[if_neg c,zA c,if_pos rfl,mJ no]
     rfl
   ·simp only[Bool.true_eq_false,and_false,if_false,if_true]
    rw[ih]
  ·have hlt:hLt id h x=false:=by
    cases hl:hLt id h x
    ·rfl
    ·have:=(hOk id h).dis x hl
     rw[hi]at this
     cases this
   have no:∀y,y∈l→hIs id h y=false:=fun y hy=>(hOk id h).irr x y hi (h1 y hy)
   have gt:∀y,y∈l→hLt id h y=false:=fun y hy=>by
    cases hl:hLt id h y
    ·rfl
    ·have:=(hOk id h).mono x y (h1 y hy) hl
     rw[hlt]at this
     cases this
   rw[if_pos rfl,if_pos rfl,hlt,if_neg (by simp),if_pos rfl]
   show qG id h (x.Amount+n) _ l=if x.Amount+n=0 then l else⟨id,h,x.Amount+n⟩::l
   by_cases c:x.Amount+n=0
   ·rw[zC c,mJ no,if_pos c]
   ·rw[zA c,if_neg c]
    cases l with
    |nil=>rfl
    |cons y l=>
     rw[qG,if_neg (by rw[no y (by simp)];simp),if_pos ⟨rfl,gt y (by simp)⟩,mJ fun z hz=>no z (by simp[hz])]
theorem nK (n:Int):PFun Tryz.prog none none 283 [iv n] (·=bv (cP n)):=by
 refine ab Tryz.func283 rfl (by simp[Tryz.f283]) (by kernel_rfl) ?_
 intro E hP hr hs hW hN
 rw[show cP n=(decide (1≤n)&&decide (n≤1000))from rfl]
 by_cases h:1≤n
 ·have d:decide (1≤n)=true:=zC h
  simp[go_sem,hP,d]
 ·have d:decide (1≤n)=false:=zA h
  simp[go_sem,hP,d]
theorem A0 (l:List THolding) (id h:Int) (hl:l.length≤100000):PFun Tryz.prog none none 284 [bn l,iv id,iv h] (·=iv (jj l id h)):=by
 refine ab Tryz.func284 rfl (by simp[Tryz.f284]) (by kernel_rfl) ?_
 intro E hP hr hs hW hN
 obtain⟨R,hR'⟩:∃R,R=jj l id h:=⟨_,rfl⟩
 rw[←hR']
 simp[go_sem,hP]
 obtain⟨I,hI⟩:∃I:Nat→St→Prop,I=fun m s=>∃k:Nat,k≤l.length∧m=l.length-k∧R=jj (l.drop k) id h∧s.t 1=iv id∧s.t 2=iv h∧s.t 9=bn l∧s.t 10=iv l.length∧s.t 11=iv k:=⟨_,rfl⟩
 refine az I (l.length) (by rw[hN];rfl) ?_ ?_
 ·rw[hI]
  exact⟨0,by omega,by omega,by rw[vW,hR'],rfl,rfl,rfl,rfl,rfl⟩
 intro m s hs'
 rw[hI]at hs'
 obtain⟨k,hk,hm,hq,t1,t2,t9,t10,t11⟩:=hs'
 simp[go_sem,hP,t10,t11]
 refine aB ?_ ?_<;>intro hh
 ·have hk:k<l.length:=by simpa using hh
  obtain⟨x,hx⟩:=gkE hk
  have wk:=ae ((k:Int)+1) (by omega)
  have hd:l.drop k=x::l.drop (k+1):=by
   obtain⟨h2,h3⟩:=zM.1 hx
   rw[wE h2,h3]
  rw[hd,r5]at hq
  have nxt:¬hIs id h x=true→R=jj (l.drop (k+1)) id h:=fun hn=>by rw[hq,if_neg hn]
  by_cases c1:x.Security=id
  ·by_cases c2:x.Holder=h
   ·rw[if_pos (gN.2 ⟨c1,c2⟩)]at hq
    have d1:decide (x.Security=id)=true:=zC c1
    have d2:decide (x.Holder=h)=true:=zC c2
    simp[go_sem,hP,t9,t11,hx,eX,t1,t2,d1,d2,hq]
   ·have d1:decide (x.Security=id)=true:=zC c1
    have d2:decide (x.Holder=h)=false:=zA c2
    simp[go_sem,hP,t9,t11,hx,eX,t1,t2,d1,d2,wk]
    refine⟨l.length-(k+1),by omega,?_⟩
    rw[hI]
    exact⟨k+1,by omega,rfl,nxt (by rw[gN];exact fun e=>c2 e.2),t1,t2,t9,t10,rfl⟩
  ·have d1:decide (x.Security=id)=false:=zA c1
   simp[go_sem,hP,t9,t11,hx,eX,t1,t2,d1,wk]
   refine⟨l.length-(k+1),by omega,?_⟩
   rw[hI]
   exact⟨k+1,by omega,rfl,nxt (by rw[gN];exact fun e=>c1 e.1),t1,t2,t9,t10,rfl⟩
 ·have hk:k=l.length:=by simp at hh;omega
  subst hk
  rw[wG]at hq
  have:R=0:=hq
  simp[go_sem,hP,this]
theorem SH (l:List THolding) (id:Int) {N:Nat} (ok:HoldOk l N) (hl:l.length≤100000):PFun Tryz.prog none none 285 [bn l,iv id] (·=iv (eY l id)):=by
 refine ab Tryz.func285 rfl (by simp[Tryz.f285]) (by kernel_rfl) ?_
 intro E hP hr hs hW hN
 have part:∀k,0≤eY (l.take k) id∧eY (l.take k) id≤1000000000000:=fun k=>by
  have e:eY l id=eY (l.take k) id+eY (l.drop k) id:=by
   unfold eY
   rw[←ma,vV]
  have a:=(gr (rJ id) hAm (l.take k) fun x hx=>ok.pos x (wV hx)).1
  have b:=(gr (rJ id) hAm (l.drop k) fun x hx=>ok.pos x (uB hx)).1
  have:=ok.tot id
  unfold eY at*
  omega
 simp[go_sem,hP]
 obtain⟨I,hI⟩:∃I:Nat→St→Prop,I=fun m s=>∃k:Nat,k≤l.length∧m=l.length-k∧s.t 1=iv id∧s.t 5=iv (eY (l.take k) id)∧s.t 8=bn l∧s.t 9=iv l.length∧s.t 10=iv k:=⟨_,rfl⟩
 refine az I (l.length) (by rw[hN];rfl) ?_ ?_
 ·rw[hI]
  exact⟨0,by omega,by omega,rfl,by simp[go_sem];rfl,rfl,rfl,rfl⟩
 intro m s hs'
 rw[hI]at hs'
 obtain⟨k,hk,hm,t1,t5,t8,t9,t10⟩:=hs'
 simp[go_sem,hP,t9,t10]
 refine aB ?_ ?_<;>intro hh
 ·have hk:k<l.length:=by simpa using hh
  obtain⟨x,hx⟩:=gkE hk
  have wk:=ae ((k:Int)+1) (by omega)
  have e1:eY (l.take (k+1)) id=eY (l.take k) id+if rJ id x=true then x.Amount else 0:=by
   rw[wJ,hx]
   unfold eY
   rw[ma]
   show _+mE _ _ [x]=_
   rw[dC,tg]
   show _+((if _ then hAm x else 0)+0)=_
   unfold hAm
   omega
  have pk:=part (k+1)
  by_cases c1:x.Security=id
  ·have d1:decide (x.Security=id)=true:=zC c1
   rw[if_pos (show rJ id x=true from d1)]at e1
   have w1:=ae (eY (l.take k) id+x.Amount) (by omega)
   simp[go_sem,hP,t8,t10,hx,eX,t1,t5,d1,w1,wk]
   refine⟨l.length-(k+1),by omega,?_⟩
   rw[hI]
   exact⟨k+1,by omega,rfl,t1,by simp -dsimp[-getElem?_pos,go_sem,e1],t8,t9,rfl⟩
  ·have d1:decide (x.Security=id)=false:=zA c1
   rw[if_neg (by rw[show rJ id x=false from d1];simp)]at e1
   simp[go_sem,hP,t8,t10,hx,eX,t1,t5,d1,wk]
   refine⟨l.length-(k+1),by omega,?_⟩
   rw[hI]
   exact⟨k+1,by omega,rfl,t1,by simp[go_sem,t5,e1],t8,t9,rfl⟩
 ·have hk:k=l.length:=by simp at hh;omega
  subst hk
  rw[zT]at t5
  simp[go_sem,hP,t5]
open Go.PA
open Go.RowKit
theorem J2 (x:TSecurity) (l:List TSecurity) (id:Int):dT (x::l) id=if x.ID=id then (x,true)else dT l id:=by
 unfold dT i6
 rw[List.find?_cons]
 by_cases h:x.ID=id
 ·rw[zC h,if_pos h]
 ·rw[zA h,if_neg h]
theorem ni (r:TRegister) (id:Int) (hl:r.Securities.length≤100000):PFun Tryz.prog none none 87 [.agg r.cells,iv id] (·= .tup [.agg (dT r.Securities id).1.cells,bv (dT r.Securities id).2]):=by
 refine ab Tryz.func87 rfl (by simp[Tryz.f87]) (by kernel_rfl) ?_
 intro E hP hr hs hW hN
 obtain⟨R,hR'⟩:∃R,R=dT r.Securities id:=⟨_,rfl⟩
 rw[←hR']
 have ir:=bH.2 r.imm
 rw[bP]at ir
 simp -dsimp[go_sem,hP,bP]
 obtain⟨I,hI⟩:∃I:Nat→St→Prop,I=fun m s=>∃k:Nat,k≤r.Securities.length∧m=r.Securities.length-k∧R=dT (r.Securities.drop k) id∧s.t 1=iv id∧s.t 4= .ref 1 0 0∧s.t 9=bZ r.Securities∧s.t 10=iv r.Securities.length∧s.t 11=iv k∧s.H[1]?=some (some ⟨86,7,[[iv 0,iv 0,iv 0,iv 0,iv 0,iv 0,bv false]]⟩):=⟨_,rfl⟩
 refine az I (r.Securities.length) (by rw[hN];rfl) ?_ ?_
 ·rw[hI]
  exact⟨0,by omega,by omega,by rw[vW,hR'],rfl,rfl,rfl,rfl,rfl,rfl⟩
 intro m s hs'
 rw[hI]at hs'
 obtain⟨k,hk,hm,hq,t1,t4,t9,t10,t11,g1⟩:=hs'
 have l1:=(gsI g1)
 simp -dsimp[go_sem,hP,t10,t11]
 refine aB ?_ ?_<;>intro hh
 ·have hk:k<r.Securities.length:=by simpa using hh
  obtain⟨x,hx⟩:=gkE hk
  have wk:=ae ((k:Int)+1) (by omega)
  have hd:r.Securities.drop k=x::r.Securities.drop (k+1):=by
   obtain⟨h2,h3⟩:=zM.1 hx
   rw[wE h2,h3]
  have ix:=bH.2 x.imm
  rw[cc]at ix
  rw[hd,J2]at hq
  have g1':∀Y:List (Option AObj),(s.H++Y)[1]?=_:=fun Y=>(zD l1).trans g1
  have l11:1<s.H.length+1:=by omega
  have nl:¬s.H.length=1:=by omega
  have nl':¬1=s.H.length:=by omega
  by_cases c1:x.ID=id
  ·rw[if_pos c1]at hq
   have d1:decide (x.ID=id)=true:=zC c1
   simp -dsimp[-getElem?_pos,go_sem,hP,t9,t11,hx,cc,t1,d1,t4,g1',l11,nl,nl']
   rw[hq,cc]
   exact aw (aj ix .sc) rfl
  ·rw[if_neg c1]at hq
   have d1:decide (x.ID=id)=false:=zA c1
   simp -dsimp[go_sem,hP,t9,t11,hx,cc,t1,d1,wk]
   refine⟨r.Securities.length-(k+1),by omega,?_⟩
   rw[hI]
   exact⟨k+1,by omega,rfl,hq,t1,t4,t9,t10,rfl,by simp -dsimp[go_sem,g1']⟩
 ·have hk:k=r.Securities.length:=by simp at hh;omega
  subst hk
  rw[wG]at hq
  have hz:R=(qE,false):=hq
  simp -dsimp[-getElem?_pos,go_sem,hP,t4,g1,l1]
  rw[hz]
  exact aw (aj (bH.2 qE.imm) .sc) rfl
set_option maxHeartbeats 2000000 in
theorem yJ (l:List THolding) (id h n:Int) (srt:l.Pairwise hR) (hl:l.length≤100000) (hb: -1000000000000000≤jj l id h+n∧jj l id h+n≤1000000000000000):PFun Tryz.prog none none 286 [bn l,iv id,iv h,iv n] (·=bn (kD l id h n)):=by
 refine ab Tryz.func286 rfl (by simp[Tryz.f286]) (by kernel_rfl) ?_
 intro E hP hr hs hW hN
 have ih:=bg l
 have hd0:=A0 l id h hl
 have w0:=ae (jj l id h+n) (by omega)
 have fin:=KA (id:=id) (h:=h) (n:=n) srt
 obtain⟨q,hq⟩:∃q,q=jj l id h+n:=⟨_,rfl⟩
 obtain⟨T,hT⟩:∃T,T=kD l id h n:=⟨_,rfl⟩
 rw[←hq]at fin
 rw[←hT]at fin⊢
 simp -dsimp -implicitDefEqProofs [go_sem,hP]
 refine af hd0 hP Bl (by simp[ih,an]) .sc ?_
 simp -dsimp -implicitDefEqProofs [go_sem,hP,w0]
 rw[←hq]
 refine cV 10 177 3 rfl ?_
 obtain⟨I,hI⟩:∃I:Nat→St→Prop,I=fun m s=>∃(k j:Nat) (out:List THolding) (put:Bool),k≤l.length∧m=l.length-k∧T=out++qG id h q put (l.drop k)∧s.t 1=iv id∧s.t 2=iv h∧s.t 9=iv q∧s.t 10= .sref j 0 out.length∧s.t 11=bv put∧s.t 22=bn l∧s.t 23=iv l.length∧s.t 24=iv k∧s.H[j]?=some (some ⟨177,3,ao THolding.cells out⟩)∧out.length≤2*k:=⟨_,rfl⟩
 refine az I (l.length) (by rw[hN];rfl) ?_ ?_
 ·rw[hI]
  exact⟨0,0,[],decide (q=0),by omega,by omega,by rw[vY,vW,fin],rfl,rfl,rfl,rfl,rfl,rfl,rfl,rfl,by simp -dsimp[-getElem?_pos,go_sem,ao],by simp⟩
 intro m s hs'
 rw[hI]at hs'
 obtain⟨k,j,out,put,hk,hm,hgo,t1,t2,t9,t10,t11,t22,t23,t24,gj,ol⟩:=hs'
 have lj:=(gsI gj)
 simp -dsimp -implicitDefEqProofs [go_sem,hP,t23,t24]
 refine aB ?_ ?_<;>intro hh
 ·have hk:k<l.length:=by simpa using hh
  obtain⟨x,hx⟩:=gkE hk
  have wk:=ae ((k:Int)+1) (by omega)
  have hd:l.drop k=x::l.drop (k+1):=by
   obtain⟨h2,h3⟩:=zM.1 hx
   rw[wE h2,h3]
  rw[hd,qG]at hgo
  have gj':∀Y:List (Option AObj),(s.H++Y)[j]?=_:=fun Y=>(zD lj).trans gj
  have ljj:j<s.H.length+1:=by omega
  have nlj:¬s.H.length=j:=by omega
  have nlj':¬j=s.H.length:=by omega
  have skip:hIs id h x=true→T=out++qG id h q put (l.drop (k+1)):=fun e=>by rw[hgo,if_pos e]
  have plain:¬hIs id h x=true→¬(put=false∧hLt id h x=false)→T=(out++[x])++qG id h q put (l.drop (k+1)):=fun e e2=>by rw[hgo,if_neg e,if_neg e2,vJ];rfl
  have ins:¬hIs id h x=true→put=false∧hLt id h x=false→T=((out++[⟨id,h,q⟩])++[x])++qG id h q true (l.drop (k+1)):=fun e e2=>by rw[hgo,if_neg e,if_pos e2,vJ,vJ];rfl
  by_cases c1:x.Security=id
  ·have d1:decide (x.Security=id)=true:=zC c1
   by_cases c2:x.Holder=h
   ·have d2:decide (x.Holder=h)=true:=zC c2
    simp -dsimp -implicitDefEqProofs [go_sem,hP,t22,t24,hx,eX,t1,t2,d1,d2,wk]
    refine⟨l.length-(k+1),by omega,?_⟩
    rw[hI]
    exact⟨k+1,j,out,put,by omega,rfl,skip (gN.2 ⟨c1,c2⟩),t1,t2,t9,t10,t11,t22,t23,rfl,by simp -dsimp[go_sem,gj'],by omega⟩
   have d2:decide (x.Holder=h)=false:=zA c2
   have hn:¬hIs id h x=true:=by rw[gN];exact fun e=>c2 e.2
   cases put
   ·by_cases c3:h<x.Holder
    ·have d3:decide (h<x.Holder)=true:=zC c3
     have d4:decide (id<x.Security)=false:=zA (by omega)
     simp -dsimp -implicitDefEqProofs [-getElem?_pos,go_sem,hP,t22,t24,hx,eX,t1,t2,t9,t10,t11,d1,d2,d3,d4,gj',ljj,lj,nlj,nlj',gj,wk]
     refine⟨by omega,by omega,by omega,by omega,?_⟩
     refine⟨l.length-(k+1),by omega,?_⟩
     rw[hI]
     exact⟨k+1,s.H.length+2,(out++[⟨id,h,q⟩])++[x],true,by omega,rfl,ins hn ⟨rfl,by rw[qt];omega⟩,t1,t2,t9,by simp -dsimp[-getElem?_pos,go_sem],rfl,t22,t23,rfl,by rw[←aX,←aX];simp -dsimp -implicitDefEqProofs [go_sem,eX],by simp;omega⟩
    ·have d3:decide (h<x.Holder)=false:=zA c3
     have d4:decide (id<x.Security)=false:=zA (by omega)
     simp -dsimp -implicitDefEqProofs [-getElem?_pos,go_sem,hP,t22,t24,hx,eX,t1,t2,t10,t11,d1,d2,d3,d4,gj',ljj,lj,nlj,nlj',gj,wk]
     refine⟨by omega,by omega,?_⟩
     refine⟨l.length-(k+1),by omega,?_⟩
     rw[hI]
     exact⟨k+1,s.H.length+1,out++[x],false,by omega,rfl,plain hn (by rw[qt];omega),t1,t2,t9,by simp -dsimp[-getElem?_pos,go_sem],t11,t22,t23,rfl,by rw[←aX];simp -dsimp -implicitDefEqProofs [go_sem,eX],by simp;omega⟩
   ·skip
    simp -dsimp -implicitDefEqProofs [-getElem?_pos,go_sem,hP,t22,t24,hx,eX,t1,t2,t10,t11,d1,d2,gj',ljj,lj,nlj,nlj',gj,wk]
    refine⟨by omega,by omega,?_⟩
    refine⟨l.length-(k+1),by omega,?_⟩
    rw[hI]
    exact⟨k+1,s.H.length+1,out++[x],true,by omega,rfl,plain hn (by simp),t1,t2,t9,by simp -dsimp[-getElem?_pos,go_sem],t11,t22,t23,rfl,by rw[←aX];simp -dsimp -implicitDefEqProofs [go_sem,eX],by simp;omega⟩
  ·have d1:decide (x.Security=id)=false:=zA c1
   have hn:¬hIs id h x=true:=by rw[gN];exact fun e=>c1 e.1
   cases put
   ·by_cases c3:id<x.Security
    ·have d4:decide (id<x.Security)=true:=zC c3
     simp -dsimp -implicitDefEqProofs [-getElem?_pos,go_sem,hP,t22,t24,hx,eX,t1,t2,t9,t10,t11,d1,d4,gj',ljj,lj,nlj,nlj',gj,wk]
     refine⟨by omega,by omega,by omega,by omega,?_⟩
     refine⟨l.length-(k+1),by omega,?_⟩
     rw[hI]
     exact⟨k+1,s.H.length+2,(out++[⟨id,h,q⟩])++[x],true,by omega,rfl,ins hn ⟨rfl,by rw[qt];omega⟩,t1,t2,t9,by simp -dsimp[-getElem?_pos,go_sem],rfl,t22,t23,rfl,by rw[←aX,←aX];simp -dsimp -implicitDefEqProofs [go_sem,eX],by simp;omega⟩
    ·have d4:decide (id<x.Security)=false:=zA c3
     simp -dsimp -implicitDefEqProofs [-getElem?_pos,go_sem,hP,t22,t24,hx,eX,t1,t2,t10,t11,d1,d4,gj',ljj,lj,nlj,nlj',gj,wk]
     refine⟨by omega,by omega,?_⟩
     refine⟨l.length-(k+1),by omega,?_⟩
     rw[hI]
     exact⟨k+1,s.H.length+1,out++[x],false,by omega,rfl,plain hn (by rw[qt];omega),t1,t2,t9,by simp -dsimp[-getElem?_pos,go_sem],t11,t22,t23,rfl,by rw[←aX];simp -dsimp -implicitDefEqProofs [go_sem,eX],by simp;omega⟩
   ·skip
    simp -dsimp -implicitDefEqProofs [-getElem?_pos,go_sem,hP,t22,t24,hx,eX,t1,t2,t10,t11,d1,gj',ljj,lj,nlj,nlj',gj,wk]
    refine⟨by omega,by omega,?_⟩
    refine⟨l.length-(k+1),by omega,?_⟩
    rw[hI]
    exact⟨k+1,s.H.length+1,out++[x],true,by omega,rfl,plain hn (by simp),t1,t2,t9,by simp -dsimp[-getElem?_pos,go_sem],t11,t22,t23,rfl,by rw[←aX];simp -dsimp -implicitDefEqProofs [go_sem,eX],by simp;omega⟩
 ·have hk:k=l.length:=by simp at hh;omega
  subst hk
  rw[wG,qG]at hgo
  cases put
  ·rw[if_neg (by simp)]at hgo
   simp -dsimp -implicitDefEqProofs [-getElem?_pos,go_sem,hP,t11,t1,t2,t9,t10,gj,lj]
   refine⟨by omega,by omega,?_⟩
   rw[hgo]
   refine zj (tl:=[]) (es:=ao THolding.cells (out++[⟨id,h,q⟩])) (ty:=177) ?_ (by rw[ar];simp) (bg _) rfl
   rw[wY,←aX]
   simp -dsimp -implicitDefEqProofs [go_sem,eX]
  ·rw[if_pos rfl,wY]at hgo
   simp -dsimp -implicitDefEqProofs [go_sem,hP,t11,t10]
   rw[hgo]
   exact zj (tl:=[]) (by rw[wY];exact gj) (by rw[ar]) (bg _) rfl
open Go.PA
open Go.RowKit
theorem yT {l:List THolding} {N:Nat} (ok:HoldOk l N) (id h:Int):dY l id h≤1000000000000:=by
 rw[←mI ok.srt]
 unfold jj
 cases hf:l.find? (hIs id h)with
 |none=>decide
 |some x=>exact (ok.am (vU hf)).2
set_option maxHeartbeats 2000000 in
theorem MX (r:TRegister) (l:List THolding) {N:Nat} (day:Int) (m:TMove) (ok:HoldOk l N) (hl:l.length≤10000) (hsec:∀s,s∈r.Securities→fP s=true) (hsl:r.Securities.length≤100000) (hk:m.Kind=1) (hz:m.From=0):
  PFun Tryz.prog none none 228 [.agg r.cells,bn l,iv day,.agg m.cells] (·= .tup [bn (if bC r.Securities l day m=0 then goH l m else []),iv (bC r.Securities l day m)]):=by
 refine ab Tryz.func228 rfl (by simp[Tryz.f228]) (by kernel_rfl) ?_
 intro E hP hr hs hW hN
 have ir:=bH.2 r.imm
 have im:=qc m
 have il:=bg l
 have fi:=ni r m.Security hsl
 obtain⟨R,hR0⟩:∃R,R=bC r.Securities l day m:=⟨_,rfl⟩
 obtain⟨G,hG⟩:∃G,G=goH l m:=⟨_,rfl⟩
 obtain⟨Q,hQ⟩:∃Q:AV→Prop,Q=(·= .tup [bn (if R=0 then G else []),iv R]):=⟨_,rfl⟩
 rw[←hR0,←hG,←hQ]
 have qe:∀n:Int,R=n→n≠0→Q (.tup [.list 3 [],iv n]):=fun n e h=>by rw[hQ,e,if_neg h];rfl
 have qo:R=0→Q (.tup [bn G,iv 0]):=fun e=>by rw[hQ,e,if_pos rfl]
 clear hQ
 rw[bP]at fi ir
 have hf:i6 r.Securities m.Security=none∨∃s,i6 r.Securities m.Security=some s∧s∈r.Securities:=by
  cases h:i6 r.Securities m.Security with
  |none=>exact .inl rfl
  |some s=>exact .inr ⟨s,rfl,vU h⟩
 rcases hf with hf|⟨s,hf,hm⟩
 ·have e1:dT r.Securities m.Security=(qE,false):=by rw[dT,hf]
  have e2:R=76:=by rw[hR0,bC,hf]
  have iz:=bH.2 qE.imm
  rw[e1]at fi
  rw[cc]at fi iz
  simp -dsimp -implicitDefEqProofs [go_sem,hP,bP,eK]
  refine af fi hP dS (by simp[ir,an]) (aj iz .sc) ?_
  simp -dsimp -implicitDefEqProofs [go_sem,hP]
  exact aK 3 (qe 76 e2 (by omega))
 have e1:dT r.Securities m.Security=(s,true):=by rw[dT,hf]
 have so:=nh (hsec s hm)
 have is:=bH.2 s.imm
 rw[e1]at fi
 rw[cc]at fi is
 unfold bC at hR0
 rw[hf]at hR0
 dsimp only at hR0
 rw[hk]at hR0
 have un:¬s.Unit=0:=by have:=so.unit;omega
 have k3:decide (m.Kind=3)=false:=by rw[hk];rfl
 have k1:decide (m.Kind=1)=true:=by rw[hk];rfl
 by_cases a1:m.Day<day
 ·have d1:decide (m.Day<day)=true:=zC a1
  have e2:R=8:=by rw[hR0,if_pos (by simp only[Int.max_def];split<;>omega)]
  simp -dsimp -implicitDefEqProofs [go_sem,hP,bP,eK]
  refine af fi hP dS (by simp[ir,an]) (aj is .sc) ?_
  simp -dsimp -implicitDefEqProofs [go_sem,hP,k3,d1]
  exact aK 3 (qe 8 e2 (by omega))
 have d1:decide (m.Day<day)=false:=zA a1
 by_cases a2:m.Day<s.Issued
 ·have d2:decide (m.Day<s.Issued)=true:=zC a2
  have e2:R=8:=by rw[hR0,if_pos (by simp only[Int.max_def];split<;>omega)]
  simp -dsimp -implicitDefEqProofs [go_sem,hP,bP,eK]
  refine af fi hP dS (by simp[ir,an]) (aj is .sc) ?_
  simp -dsimp -implicitDefEqProofs [go_sem,hP,k3,d1,d2]
  exact aK 3 (qe 8 e2 (by omega))
 have d2:decide (m.Day<s.Issued)=false:=zA a2
 by_cases a3:s.Maturity<m.Day
 ·have d3:decide (s.Maturity<m.Day)=true:=zC a3
  have e2:R=8:=by rw[hR0,if_pos (by rw[show (if (1:Int)=3 then (36000:Int)else s.Maturity)=s.Maturity from rfl];omega)]
  simp -dsimp -implicitDefEqProofs [go_sem,hP,bP,eK]
  refine af fi hP dS (by simp[ir,an]) (aj is .sc) ?_
  simp -dsimp -implicitDefEqProofs [go_sem,hP,k3,d1,d2,d3]
  exact aK 3 (qe 8 e2 (by omega))
 have d3:decide (s.Maturity<m.Day)=false:=zA a3
 rw[if_neg (by rw[show (if (1:Int)=3 then (36000:Int)else s.Maturity)=s.Maturity from rfl];simp only[Int.max_def];split<;>omega)]at hR0
 by_cases a4:m.Amount<1
 ·have d4:decide (m.Amount<1)=true:=zC a4
  have e2:R=79:=by rw[hR0,if_pos (.inl (by omega))]
  simp -dsimp -implicitDefEqProofs [go_sem,hP,bP,eK]
  refine af fi hP dS (by simp[ir,an]) (aj is .sc) ?_
  simp -dsimp -implicitDefEqProofs [go_sem,hP,k3,d1,d2,d3,d4]
  exact aK 3 (qe 79 e2 (by omega))
 have d4:decide (m.Amount<1)=false:=zA a4
 by_cases a5:1000000000000<m.Amount
 ·have d5:decide (1000000000000<m.Amount)=true:=zC a5
  have e2:R=79:=by rw[hR0,if_pos (.inr (.inl a5))]
  simp -dsimp -implicitDefEqProofs [go_sem,hP,bP,eK]
  refine af fi hP dS (by simp[ir,an]) (aj is .sc) ?_
  simp -dsimp -implicitDefEqProofs [go_sem,hP,k3,d1,d2,d3,d4,d5]
  exact aK 3 (qe 79 e2 (by omega))
 have d5:decide (1000000000000<m.Amount)=false:=zA a5
 have tm:m.Amount.tmod s.Unit=m.Amount%s.Unit:=wB (by omega)
 by_cases a6:m.Amount%s.Unit=0
 rotate_left
 ·have d6:decide (m.Amount%s.Unit=0)=false:=zA a6
  have e2:R=79:=by rw[hR0,if_pos (.inr (.inr a6))]
  simp -dsimp -implicitDefEqProofs [go_sem,hP,bP,eK]
  refine af fi hP dS (by simp[ir,an]) (aj is .sc) ?_
  simp -dsimp -implicitDefEqProofs [go_sem,hP,k3,d1,d2,d3,d4,d5,ax un,un,tm,d6]
  exact aK 3 (qe 79 e2 (by omega))
 have d6:decide (m.Amount%s.Unit=0)=true:=zC a6
 rw[if_neg (by omega)]at hR0
 have hh:=nK m.To
 by_cases a7:cP m.To=true
 rotate_left
 ·have d7:cP m.To=false:=by simpa using a7
  have e2:R=6:=by
   rw[hR0,if_pos]
   simp[cD,hk,hz,d7]
  rw[d7]at hh
  simp -dsimp -implicitDefEqProofs [go_sem,hP,bP,eK]
  refine af fi hP dS (by simp[ir,an]) (aj is .sc) ?_
  simp -dsimp -implicitDefEqProofs [go_sem,hP,k3,k1,d1,d2,d3,d4,d5,ax un,un,tm,d6]
  refine aq (fun _=>true) [] hP (by kernel_rfl) (by kernel_rfl) ?_
  simp -dsimp -implicitDefEqProofs [go_sem,hP,k3,k1,d1,d2,d3,d4,d5,ax un,un,tm,d6]
  refine af hh hP gZ (by simp[an]) .sc ?_
  simp -dsimp -implicitDefEqProofs [go_sem,hP,k3,k1,d1,d2,d3,d4,d5,ax un,un,tm,d6]
  exact aK 3 (qe 6 e2 (by omega))
 have hb:1≤m.To∧m.To≤1000:=by simpa[cP]using a7
 rw[a7]at hh
 rw[if_neg (by simp[cD,hk,hz,a7])]at hR0
 rw[if_neg (by omega)]at hR0
 have ou:=SH l m.Security ok (by omega)
 have ot:=ok.tot m.Security
 have op:=(gr (rJ m.Security) hAm l ok.pos).1
 have w1:=ae (eY l m.Security+m.Amount) (by unfold eY at*;omega)
 by_cases a8:1000000000000<eY l m.Security+m.Amount
 ·have d8:decide (1000000000000<eY l m.Security+m.Amount)=true:=zC a8
  have e2:R=2:=by rw[hR0,if_pos ⟨hz,a8⟩]
  simp -dsimp -implicitDefEqProofs [go_sem,hP,bP,eK]
  refine af fi hP dS (by simp[ir,an]) (aj is .sc) ?_
  simp -dsimp -implicitDefEqProofs [go_sem,hP,k3,k1,d1,d2,d3,d4,d5,ax un,un,tm,d6]
  refine aq (fun _=>true) [] hP (by kernel_rfl) (by kernel_rfl) ?_
  simp -dsimp -implicitDefEqProofs [go_sem,hP,k3,k1,d1,d2,d3,d4,d5,ax un,un,tm,d6]
  refine af hh hP gZ (by simp[an]) .sc ?_
  simp -dsimp -implicitDefEqProofs [go_sem,hP,k3,k1,d1,d2,d3,d4,d5,ax un,un,tm,d6]
  refine aq (fun _=>true) [] hP (by kernel_rfl) (by kernel_rfl) ?_
  simp -dsimp -implicitDefEqProofs [go_sem,hP,k3,k1,d1,d2,d3,d4,d5,ax un,un,tm,d6]
  refine aq (fun _=>true) [] hP (by kernel_rfl) (by kernel_rfl) ?_
  simp -dsimp -implicitDefEqProofs [go_sem,hP,k3,k1,d1,d2,d3,d4,d5,ax un,un,tm,d6]
  refine af ou hP PG (by simp[il,an]) .sc ?_
  simp -dsimp -implicitDefEqProofs [go_sem,hP,k3,k1,d1,d2,d3,d4,d5,ax un,un,tm,d6,w1,d8]
  exact aK 3 (qe 2 e2 (by omega))
 have d8:decide (1000000000000<eY l m.Security+m.Amount)=false:=zA a8
 rw[if_neg (fun c=>a8 c.2)]at hR0
 have eG:G=kD l m.Security m.To m.Amount:=by rw[hG,goH,if_pos hz,if_neg (by omega)]
 have hq:=mI (id:=m.Security) (h:=m.To) ok.srt
 have hp:=(gr (hIs m.Security m.To) hAm l ok.pos).1
 have hp2:dY l m.Security m.To≤1000000000000:=yT ok _ _
 have st:=yJ l m.Security m.To m.Amount ok.srt (by omega) (by rw[hq];unfold dY at*;omega)
 rw[←eG]at st
 simp -dsimp -implicitDefEqProofs [go_sem,hP,bP,eK]
 refine af fi hP dS (by simp[ir,an]) (aj is .sc) ?_
 simp -dsimp -implicitDefEqProofs [go_sem,hP,k3,k1,d1,d2,d3,d4,d5,ax un,un,tm,d6]
 refine aq (fun _=>true) [] hP (by kernel_rfl) (by kernel_rfl) ?_
 simp -dsimp -implicitDefEqProofs [go_sem,hP,k3,k1,d1,d2,d3,d4,d5,ax un,un,tm,d6]
 refine af hh hP gZ (by simp[an]) .sc ?_
 simp -dsimp -implicitDefEqProofs [go_sem,hP,k3,k1,d1,d2,d3,d4,d5,ax un,un,tm,d6]
 refine aq (fun _=>true) [] hP (by kernel_rfl) (by kernel_rfl) ?_
 simp -dsimp -implicitDefEqProofs [go_sem,hP,k3,k1,d1,d2,d3,d4,d5,ax un,un,tm,d6]
 refine aq (fun _=>true) [] hP (by kernel_rfl) (by kernel_rfl) ?_
 simp -dsimp -implicitDefEqProofs [go_sem,hP,k3,k1,d1,d2,d3,d4,d5,ax un,un,tm,d6]
 refine af ou hP PG (by simp[il,an]) .sc ?_
 simp -dsimp -implicitDefEqProofs [go_sem,hP,k3,k1,d1,d2,d3,d4,d5,ax un,un,tm,d6,w1,d8]
 refine af st hP Em (by simp[il,an]) (bg _) ?_
 simp -dsimp -implicitDefEqProofs [go_sem,hP,k3,k1,d1,d2,d3,d4,d5,ax un,un,tm,d6]
 exact aw (aj (bg _) .sc) (qo hR0)
set_option maxHeartbeats 2000000 in
theorem Nr (r:TRegister) (l:List THolding) {N:Nat} (day:Int) (m:TMove) (ok:HoldOk l N) (hl:l.length≤10000) (hsec:∀s,s∈r.Securities→fP s=true) (hsl:r.Securities.length≤100000) (hk:m.Kind=3) (hz:m.To=0):
  PFun Tryz.prog none none 228 [.agg r.cells,bn l,iv day,.agg m.cells] (·= .tup [bn (if bC r.Securities l day m=0 then goH l m else []),iv (bC r.Securities l day m)]):=by
 refine ab Tryz.func228 rfl (by simp[Tryz.f228]) (by kernel_rfl) ?_
 intro E hP hr hs hW hN
 have ir:=bH.2 r.imm
 have im:=qc m
 have il:=bg l
 have fi:=ni r m.Security hsl
 obtain⟨R,hR0⟩:∃R,R=bC r.Securities l day m:=⟨_,rfl⟩
 obtain⟨G,hG⟩:∃G,G=goH l m:=⟨_,rfl⟩
 obtain⟨Q,hQ⟩:∃Q:AV→Prop,Q=(·= .tup [bn (if R=0 then G else []),iv R]):=⟨_,rfl⟩
 rw[←hR0,←hG,←hQ]
 have qe:∀n:Int,R=n→n≠0→Q (.tup [.list 3 [],iv n]):=fun n e h=>by rw[hQ,e,if_neg h];rfl
 have qo:R=0→Q (.tup [bn G,iv 0]):=fun e=>by rw[hQ,e,if_pos rfl]
 clear hQ
 rw[bP]at fi ir
 have hf:i6 r.Securities m.Security=none∨∃s,i6 r.Securities m.Security=some s∧s∈r.Securities:=by
  cases h:i6 r.Securities m.Security with
  |none=>exact .inl rfl
  |some s=>exact .inr ⟨s,rfl,vU h⟩
 rcases hf with hf|⟨s,hf,hm⟩
 ·have e1:dT r.Securities m.Security=(qE,false):=by rw[dT,hf]
  have e2:R=76:=by rw[hR0,bC,hf]
  have iz:=bH.2 qE.imm
  rw[e1]at fi
  rw[cc]at fi iz
  simp -dsimp -implicitDefEqProofs [go_sem,hP,bP,eK]
  refine af fi hP dS (by simp[ir,an]) (aj iz .sc) ?_
  simp -dsimp -implicitDefEqProofs [go_sem,hP]
  exact aK 3 (qe 76 e2 (by omega))
 have e1:dT r.Securities m.Security=(s,true):=by rw[dT,hf]
 have so:=nh (hsec s hm)
 have is:=bH.2 s.imm
 rw[e1]at fi
 rw[cc]at fi is
 unfold bC at hR0
 rw[hf]at hR0
 dsimp only at hR0
 rw[hk]at hR0
 have un:¬s.Unit=0:=by have:=so.unit;omega
 have k3:decide (m.Kind=3)=true:=by rw[hk];rfl
 have k1:decide (m.Kind=1)=false:=by rw[hk];rfl
 by_cases a1:m.Day<day
 ·have d1:decide (m.Day<day)=true:=zC a1
  have e2:R=8:=by rw[hR0,if_pos (by simp only[Int.max_def];split<;>omega)]
  simp -dsimp -implicitDefEqProofs [go_sem,hP,bP,eK]
  refine af fi hP dS (by simp[ir,an]) (aj is .sc) ?_
  simp -dsimp -implicitDefEqProofs [go_sem,hP,k3,d1]
  exact aK 3 (qe 8 e2 (by omega))
 have d1:decide (m.Day<day)=false:=zA a1
 by_cases a2:m.Day<s.Issued
 ·have d2:decide (m.Day<s.Issued)=true:=zC a2
  have e2:R=8:=by rw[hR0,if_pos (by simp only[Int.max_def];split<;>omega)]
  simp -dsimp -implicitDefEqProofs [go_sem,hP,bP,eK]
  refine af fi hP dS (by simp[ir,an]) (aj is .sc) ?_
  simp -dsimp -implicitDefEqProofs [go_sem,hP,k3,d1,d2]
  exact aK 3 (qe 8 e2 (by omega))
 have d2:decide (m.Day<s.Issued)=false:=zA a2
 by_cases a3:36000<m.Day
 ·have d3:decide (36000<m.Day)=true:=zC a3
  have e2:R=8:=by rw[hR0,if_pos (by rw[show (if (3:Int)=3 then (36000:Int)else s.Maturity)=36000 from rfl];omega)]
  simp -dsimp -implicitDefEqProofs [go_sem,hP,bP,eK]
  refine af fi hP dS (by simp[ir,an]) (aj is .sc) ?_
  simp -dsimp -implicitDefEqProofs [go_sem,hP,k3,d1,d2,d3]
  exact aK 3 (qe 8 e2 (by omega))
 have d3:decide (36000<m.Day)=false:=zA a3
 rw[if_neg (by rw[show (if (3:Int)=3 then (36000:Int)else s.Maturity)=36000 from rfl];simp only[Int.max_def];split<;>omega)]at hR0
 by_cases a4:m.Amount<1
 ·have d4:decide (m.Amount<1)=true:=zC a4
  have e2:R=79:=by rw[hR0,if_pos (.inl (by omega))]
  simp -dsimp -implicitDefEqProofs [go_sem,hP,bP,eK]
  refine af fi hP dS (by simp[ir,an]) (aj is .sc) ?_
  simp -dsimp -implicitDefEqProofs [go_sem,hP,k3,d1,d2,d3,d4]
  exact aK 3 (qe 79 e2 (by omega))
 have d4:decide (m.Amount<1)=false:=zA a4
 by_cases a5:1000000000000<m.Amount
 ·have d5:decide (1000000000000<m.Amount)=true:=zC a5
  have e2:R=79:=by rw[hR0,if_pos (.inr (.inl a5))]
  simp -dsimp -implicitDefEqProofs [go_sem,hP,bP,eK]
  refine af fi hP dS (by simp[ir,an]) (aj is .sc) ?_
  simp -dsimp -implicitDefEqProofs [go_sem,hP,k3,d1,d2,d3,d4,d5]
  exact aK 3 (qe 79 e2 (by omega))
 have d5:decide (1000000000000<m.Amount)=false:=zA a5
 have tm:m.Amount.tmod s.Unit=m.Amount%s.Unit:=wB (by omega)
 by_cases a6:m.Amount%s.Unit=0
 rotate_left
 ·have d6:decide (m.Amount%s.Unit=0)=false:=zA a6
  have e2:R=79:=by rw[hR0,if_pos (.inr (.inr a6))]
  simp -dsimp -implicitDefEqProofs [go_sem,hP,bP,eK]
  refine af fi hP dS (by simp[ir,an]) (aj is .sc) ?_
  simp -dsimp -implicitDefEqProofs [go_sem,hP,k3,d1,d2,d3,d4,d5,ax un,un,tm,d6]
  exact aK 3 (qe 79 e2 (by omega))
 have d6:decide (m.Amount%s.Unit=0)=true:=zC a6
 rw[if_neg (by omega)]at hR0
 have hh:=nK m.From
 by_cases a7:cP m.From=true
 rotate_left
 ·have d7:cP m.From=false:=by simpa using a7
  have e2:R=6:=by
   rw[hR0,if_pos]
   simp[cD,hk,hz,d7]
  rw[d7]at hh
  simp -dsimp -implicitDefEqProofs [go_sem,hP,bP,eK]
  refine af fi hP dS (by simp[ir,an]) (aj is .sc) ?_
  simp -dsimp -implicitDefEqProofs [go_sem,hP,k3,k1,d1,d2,d3,d4,d5,ax un,un,tm,d6]
  refine aq (fun _=>true) [] hP (by kernel_rfl) (by kernel_rfl) ?_
  simp -dsimp -implicitDefEqProofs [go_sem,hP,k3,k1,d1,d2,d3,d4,d5,ax un,un,tm,d6]
  refine af hh hP gZ (by simp[an]) .sc ?_
  simp -dsimp -implicitDefEqProofs [go_sem,hP,k3,k1,d1,d2,d3,d4,d5,ax un,un,tm,d6]
  exact aK 3 (qe 6 e2 (by omega))
 have hb:1≤m.From∧m.From≤1000:=by simpa[cP]using a7
 rw[a7]at hh
 rw[if_neg (by simp[cD,hk,hz,a7])]at hR0
 have he:=A0 l m.Security m.From (by omega)
 have hq:=mI (id:=m.Security) (h:=m.From) ok.srt
 rw[hq]at he
 have hp:=(gr (hIs m.Security m.From) hAm l ok.pos).1
 by_cases a8:dY l m.Security m.From<m.Amount
 ·have d8:decide (dY l m.Security m.From<m.Amount)=true:=zC a8
  have e2:R=77:=by rw[hR0,if_pos ⟨by omega,a8⟩]
  simp -dsimp -implicitDefEqProofs [go_sem,hP,bP,eK]
  refine af fi hP dS (by simp[ir,an]) (aj is .sc) ?_
  simp -dsimp -implicitDefEqProofs [go_sem,hP,k3,k1,d1,d2,d3,d4,d5,ax un,un,tm,d6]
  refine aq (fun _=>true) [] hP (by kernel_rfl) (by kernel_rfl) ?_
  simp -dsimp -implicitDefEqProofs [go_sem,hP,k3,k1,d1,d2,d3,d4,d5,ax un,un,tm,d6]
  refine af hh hP gZ (by simp[an]) .sc ?_
  simp -dsimp -implicitDefEqProofs [go_sem,hP,k3,k1,d1,d2,d3,d4,d5,ax un,un,tm,d6]
  refine aq (fun _=>true) [] hP (by kernel_rfl) (by kernel_rfl) ?_
  simp -dsimp -implicitDefEqProofs [go_sem,hP,k3,k1,d1,d2,d3,d4,d5,ax un,un,tm,d6]
  refine af he hP Bl (by simp[il,an]) .sc ?_
  simp -dsimp -implicitDefEqProofs [go_sem,hP,k3,k1,d1,d2,d3,d4,d5,ax un,un,tm,d6,d8]
  exact aK 3 (qe 77 e2 (by omega))
 have d8:decide (dY l m.Security m.From<m.Amount)=false:=zA a8
 rw[if_neg (fun c=>a8 c.2),if_neg (by omega)]at hR0
 have eG:G=kD l m.Security m.From (-m.Amount):=by rw[hG,goH,if_pos hz,if_neg (by omega)]
 have hp2:dY l m.Security m.From≤1000000000000:=yT ok _ _
 have st:=yJ l m.Security m.From (-m.Amount) ok.srt (by omega) (by rw[hq];unfold dY at*;omega)
 rw[←eG]at st
 have w1:=ae (-m.Amount) (by omega)
 simp -dsimp -implicitDefEqProofs [go_sem,hP,bP,eK]
 refine af fi hP dS (by simp[ir,an]) (aj is .sc) ?_
 simp -dsimp -implicitDefEqProofs [go_sem,hP,k3,k1,d1,d2,d3,d4,d5,ax un,un,tm,d6]
 refine aq (fun _=>true) [] hP (by kernel_rfl) (by kernel_rfl) ?_
 simp -dsimp -implicitDefEqProofs [go_sem,hP,k3,k1,d1,d2,d3,d4,d5,ax un,un,tm,d6]
 refine af hh hP gZ (by simp[an]) .sc ?_
 simp -dsimp -implicitDefEqProofs [go_sem,hP,k3,k1,d1,d2,d3,d4,d5,ax un,un,tm,d6]
 refine aq (fun _=>true) [] hP (by kernel_rfl) (by kernel_rfl) ?_
 simp -dsimp -implicitDefEqProofs [go_sem,hP,k3,k1,d1,d2,d3,d4,d5,ax un,un,tm,d6]
 refine af he hP Bl (by simp[il,an]) .sc ?_
 simp -dsimp -implicitDefEqProofs [go_sem,hP,k3,k1,d1,d2,d3,d4,d5,ax un,un,tm,d6,d8]
 refine aq (fun _=>true) [] hP (by kernel_rfl) (by kernel_rfl) ?_
 simp -dsimp -implicitDefEqProofs [go_sem,hP,k3,k1,d1,d2,d3,d4,d5,ax un,un,tm,d6,w1]
 refine af st hP Em (by simp[il,an]) (bg _) ?_
 simp -dsimp -implicitDefEqProofs [go_sem,hP,k3,k1,d1,d2,d3,d4,d5,ax un,un,tm,d6]
 exact aw (aj (bg _) .sc) (qo hR0)
open Go.PA
open Go.RowKit
set_option maxHeartbeats 2000000 in
set_option maxRecDepth 8000 in
theorem Fz (s:TSecurity):PFun Tryz.prog none none 88 [.agg s.cells] (·=bv (fP s)):=by
 refine ab Tryz.func88 rfl (by simp[Tryz.f88]) (by kernel_rfl) ?_
 intro E hP hr hs hW hN
 obtain⟨R,hR⟩:∃R,R=fP s:=⟨_,rfl⟩
 have bad:¬((1≤s.ID∧s.ID≤1000)∧(1≤s.Unit∧s.Unit≤1000000000)∧(0≤s.Issued∧s.Issued≤36000)∧(s.Issued+30≤s.Maturity∧s.Maturity≤min (s.Issued+18000) 35990)∧(0≤s.Rate∧s.Rate≤20000))→R=false:=fun h=>by rw[hR,fP,zA h,zJ]
 have good:((1≤s.ID∧s.ID≤1000)∧(1≤s.Unit∧s.Unit≤1000000000)∧(0≤s.Issued∧s.Issued≤36000)∧(s.Issued+30≤s.Maturity∧s.Maturity≤min (s.Issued+18000) 35990)∧(0≤s.Rate∧s.Rate≤20000))→R=if s.Every=0 then decide ((s.Maturity-s.Issued)%30=0)&&decide (s.Rate=0)else if s.Every=1∨s.Every=3∨s.Every=6∨s.Every=12 then decide ((s.Maturity-s.Issued)%(30*s.Every)=0)else false:=fun h=>by rw[hR,fP,zC h,zP]
 rw[←hR]
 clear hR
 by_cases c1:s.ID<1
 ·have d1:decide (s.ID<1)=true:=zC c1
  have e:=bad (by omega)
  simp -dsimp -implicitDefEqProofs [go_sem,hP,cc,d1,e]
 have d1:decide (s.ID<1)=false:=zA c1
 by_cases c2:1000<s.ID
 ·have d2:decide (1000<s.ID)=true:=zC c2
  have e:=bad (by omega)
  simp -dsimp -implicitDefEqProofs [go_sem,hP,cc,d1,d2,e]
 have d2:decide (1000<s.ID)=false:=zA c2
 by_cases c3:s.Unit<1
 ·have d3:decide (s.Unit<1)=true:=zC c3
  have e:=bad (by omega)
  simp -dsimp -implicitDefEqProofs [go_sem,hP,cc,d1,d2,d3,e]
 have d3:decide (s.Unit<1)=false:=zA c3
 by_cases c4:1000000000<s.Unit
 ·have d4:decide (1000000000<s.Unit)=true:=zC c4
  have e:=bad (by omega)
  simp -dsimp -implicitDefEqProofs [go_sem,hP,cc,d1,d2,d3,d4,e]
 have d4:decide (1000000000<s.Unit)=false:=zA c4
 by_cases c5:s.Issued<0
 ·have d5:decide (s.Issued<0)=true:=zC c5
  have e:=bad (by omega)
  simp -dsimp -implicitDefEqProofs [go_sem,hP,cc,d1,d2,d3,d4,d5,e]
 have d5:decide (s.Issued<0)=false:=zA c5
 by_cases c6:36000<s.Issued
 ·have d6:decide (36000<s.Issued)=true:=zC c6
  have e:=bad (by omega)
  simp -dsimp -implicitDefEqProofs [go_sem,hP,cc,d1,d2,d3,d4,d5,d6,e]
 have d6:decide (36000<s.Issued)=false:=zA c6
 by_cases c7:35990<s.Maturity
 ·have d7:decide (35990<s.Maturity)=true:=zC c7
  have e:=bad (by omega)
  simp -dsimp -implicitDefEqProofs [go_sem,hP,cc,d1,d2,d3,d4,d5,d6,d7,e]
 have d7:decide (35990<s.Maturity)=false:=zA c7
 have w8:=ae (s.Issued+30) (by omega)
 by_cases c8:s.Maturity<s.Issued+30
 ·have d8:decide (s.Maturity<s.Issued+30)=true:=zC c8
  have e:=bad (by omega)
  simp -dsimp -implicitDefEqProofs [go_sem,hP,cc,d1,d2,d3,d4,d5,d6,d7,d8,w8,e]
 have d8:decide (s.Maturity<s.Issued+30)=false:=zA c8
 have w9:=ae (s.Issued+18000) (by omega)
 by_cases c9:s.Issued+18000<s.Maturity
 ·have d9:decide (s.Issued+18000<s.Maturity)=true:=zC c9
  have e:=bad (by omega)
  simp -dsimp -implicitDefEqProofs [go_sem,hP,cc,d1,d2,d3,d4,d5,d6,d7,d8,d9,w8,w9,e]
 have d9:decide (s.Issued+18000<s.Maturity)=false:=zA c9
 have w10:=ae (s.Maturity-s.Issued) (by omega)
 have t10:(s.Maturity-s.Issued).tmod 30=(s.Maturity-s.Issued)%30:=wB (by omega)
 have n30:¬(30:Int)=0:=by omega
 by_cases c10:(s.Maturity-s.Issued)%30=0
 rotate_left
 ·have d10:decide ((s.Maturity-s.Issued)%30=0)=false:=zA c10
  have e:R=false:=by
   by_cases h:0≤s.Rate∧s.Rate≤20000
   ·rw[good (by omega),d10]
    split
    ·rfl
    ·split
     ·rename_i he
      rcases he with h|h|h|h<;>rw[h]<;>exact zA (by omega)
     ·rfl
   ·exact bad (by omega)
  simp -dsimp -implicitDefEqProofs [go_sem,hP,cc,d1,d2,d3,d4,d5,d6,d7,d8,d9,w8,w9,w10,t10,ax n30,d10,e]
 have d10:decide ((s.Maturity-s.Issued)%30=0)=true:=zC c10
 by_cases c11:s.Rate<0
 ·have d11:decide (s.Rate<0)=true:=zC c11
  have e:=bad (by omega)
  simp -dsimp -implicitDefEqProofs [go_sem,hP,cc,d1,d2,d3,d4,d5,d6,d7,d8,d9,w8,w9,w10,t10,ax n30,d10,d11,e]
 have d11:decide (s.Rate<0)=false:=zA c11
 by_cases c12:20000<s.Rate
 ·have d12:decide (20000<s.Rate)=true:=zC c12
  have e:=bad (by omega)
  simp -dsimp -implicitDefEqProofs [go_sem,hP,cc,d1,d2,d3,d4,d5,d6,d7,d8,d9,w8,w9,w10,t10,ax n30,d10,d11,d12,e]
 have d12:decide (20000<s.Rate)=false:=zA c12
 have good:=good (by omega)
 rw[c10]at good
 by_cases z:s.Every=0
 ·have dz:decide (s.Every=0)=true:=zC z
  rw[if_pos z]at good
  simp only[decide_true,zP]at good
  simp -dsimp -implicitDefEqProofs [go_sem,hP,cc,d1,d2,d3,d4,d5,d6,d7,d8,d9,w8,w9,w10,t10,ax n30,d10,d11,d12,dz,good]
 have dz:decide (s.Every=0)=false:=zA z
 rw[if_neg z]at good
 have road:s.Every=1∨s.Every=3∨s.Every=6∨s.Every=12∨(¬s.Every=1∧¬s.Every=3∧¬s.Every=6∧¬s.Every=12):=by omega
 rcases road with h|h|h|h|⟨h1,h3,h6,h12⟩
 ·rw[if_pos (by omega),h]at good
  have t:(s.Maturity-s.Issued).tmod 30=(s.Maturity-s.Issued)%30:=wB (by omega)
  have nm:¬(30:Int)=0:=by omega
  have wm:IntKind.i64.wrap 30=30:=ae 30 (by omega)
  simp -dsimp -implicitDefEqProofs [go_sem,hP,cc,d1,d2,d3,d4,d5,d6,d7,d8,d9,w8,w9,w10,t10,ax n30,d10,d11,d12,h,t,ax nm,nm,wm,good]
 ·rw[if_pos (by omega),h]at good
  have t:(s.Maturity-s.Issued).tmod 90=(s.Maturity-s.Issued)%90:=wB (by omega)
  have nm:¬(90:Int)=0:=by omega
  have wm:IntKind.i64.wrap 90=90:=ae 90 (by omega)
  simp -dsimp -implicitDefEqProofs [go_sem,hP,cc,d1,d2,d3,d4,d5,d6,d7,d8,d9,w8,w9,w10,t10,ax n30,d10,d11,d12,h,t,ax nm,nm,wm,good]
 ·rw[if_pos (by omega),h]at good
  have t:(s.Maturity-s.Issued).tmod 180=(s.Maturity-s.Issued)%180:=wB (by omega)
  have nm:¬(180:Int)=0:=by omega
  have wm:IntKind.i64.wrap 180=180:=ae 180 (by omega)
  simp -dsimp -implicitDefEqProofs [go_sem,hP,cc,d1,d2,d3,d4,d5,d6,d7,d8,d9,w8,w9,w10,t10,ax n30,d10,d11,d12,h,t,ax nm,nm,wm,good]
 ·rw[if_pos (by omega),h]at good
  have t:(s.Maturity-s.Issued).tmod 360=(s.Maturity-s.Issued)%360:=wB (by omega)
  have nm:¬(360:Int)=0:=by omega
  have wm:IntKind.i64.wrap 360=360:=ae 360 (by omega)
  simp -dsimp -implicitDefEqProofs [go_sem,hP,cc,d1,d2,d3,d4,d5,d6,d7,d8,d9,w8,w9,w10,t10,ax n30,d10,d11,d12,h,t,ax nm,nm,wm,good]
 ·rw[if_neg (by omega)]at good
  have q1:decide (s.Every=1)=false:=zA h1
  have q3:decide (s.Every=3)=false:=zA h3
  have q6:decide (s.Every=6)=false:=zA h6
  have q12:decide (s.Every=12)=false:=zA h12
  simp -dsimp -implicitDefEqProofs [go_sem,hP,cc,d1,d2,d3,d4,d5,d6,d7,d8,d9,w8,w9,w10,t10,ax n30,d10,d11,d12,dz,q1,q3,q6,q12,good]
end Go.Proofs.YtfbogibogkbhmaaGreatDoor
