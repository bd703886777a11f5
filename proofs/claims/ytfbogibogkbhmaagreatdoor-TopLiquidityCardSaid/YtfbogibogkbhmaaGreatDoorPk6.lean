/- Several texts of this claim, joined: Acc4 Grown Acc5 Bat1 BatLaw Rec1 Acc6 Acc7 Acc8 Del Ins BatLib Bat2 Bat3 Bat4 Bat5 Bat6 Bat7 Bat8. -/
import Derived.Test.YtfbogibogkbhmaaGreatDoorPk5
set_option linter.unusedSimpArgs false
set_option linter.unusedVariables false
set_option maxRecDepth 4000
namespace Go.Proofs.YtfbogibogkbhmaaGreatDoor
open Go.PA
open Go.RowKit
theorem sK (credit:Int):∀(es:List TEntry) (n d:Int) (l:List TSub) (r:Int×Int×List TSub),0≤d→bD credit n d l es=some r→∀e,e∈es→d≤e.Day∧e.Day≤36000
 |[],n,d,l,r,hd,h,e,he=>by simp at he
 |x::es,n,d,l,r,hd,h,e,he=>by
  rw[bD]at h
  split at h
  ·rename_i hp
   obtain⟨_,h2,h3,_⟩:=kC hp
   rcases zO.1 he with rfl|he
   ·exact⟨h2,h3⟩
   ·have:=sK credit es _ _ _ r (by omega) h e he
    exact⟨by omega,this.2⟩
  ·cases h
theorem sf (credit:Int):∀(es:List TEntry) (last:TEntry) (l:List TSub) (r:Int×Int×List TSub),bD credit last.Number last.Day l es=some r→r.1=((es.getLast?).getD last).Number∧r.2.1=((es.getLast?).getD last).Day
 |[],last,l,r,h=>by
  simp only[bD,zB]at h
  subst h
  exact⟨rfl,rfl⟩
 |e::es,last,l,r,h=>by
  rw[bD]at h
  split at h
  ·have:=sf credit es e _ r h
   cases es with
   |nil=>exact this
   |cons x es=>
    have e1:(e::x::es).getLast?=(x::es).getLast?:=by rw[List.getLast?_cons_cons]
    rw[e1]
    have e2:∀y,((x::es).getLast?).getD y=((x::es).getLast?).getD e:=fun y=>by
     rw[List.getLast?_eq_some_getLast (by simp)];rfl
    rw[e2 last]
    exact this
  ·cases h
theorem mm {α:Type} (p:α→Bool):∀l:List α,(∀x,x∈l→p x=true)→l.takeWhile p=l
 |[],_=>rfl
 |a::l,h=>by
  rw[List.takeWhile_cons_of_pos (h a (by simp)),mm p l fun x hx=>h x (uC _ hx)]
def cu (a:TAccount):TEntry:=(a.Entries.getLast?).getD oA
theorem iI {a:TAccount} (h:aF a=0):a.Subs.length≤20∧a.Entries.length≤400∧(0≤a.Credit∧a.Credit≤1000000000000)∧iJ (ids a.Subs)=true∧bD a.Credit 0 0 (cC a.Subs) a.Entries=some ((cu a).Number,(cu a).Day,a.Subs):=by
 unfold aF at h
 split at h
 ·simp at h
 rename_i h1
 split at h
 ·simp at h
 rename_i h2
 split at h
 ·simp at h
 rename_i r hr
 split at h
 ·rename_i he
  have h2:vB a.Credit=true∧iJ (ids a.Subs)=true:=by simpa using h2
  have h3:0≤a.Credit∧a.Credit≤1000000000000:=by simpa[vB,bu]using h2.1
  have:=sf a.Credit a.Entries oA (cC a.Subs) r hr
  refine⟨by omega,by omega,h3,h2.2,?_⟩
  rw[hr]
  congr 1
  exact Prod.ext this.1 (Prod.ext this.2 he)
 ·simp at h
theorem FW {a:TAccount} (h1:a.Subs.length≤20) (h2:a.Entries.length≤400) (h3:0≤a.Credit∧a.Credit≤1000000000000) (h4:iJ (ids a.Subs)=true) {n d:Int} (h5:bD a.Credit 0 0 (cC a.Subs) a.Entries=some (n,d,a.Subs)):aF a=0:=by
 unfold aF
 have hv:vB a.Credit=true:=by simpa[vB,bu]using h3
 rw[if_neg (by omega),if_neg (by simp[hv,h4]),h5]
 simp
theorem nA {l:List Int} (h:iJ l=true):l.Nodup∧0∉l∧l.head?=some 1:=by
 simp only[iJ,zG,zI]at h
 refine⟨A3 l 0 h.1,fun h0=>?_,h.2⟩
 have:=EY l 0 h.1 0 h0
 omega
theorem oQ {a:TAccount} (h:aF a=0):jU a.Credit a.Subs=true∧(cu a).Number=a.Entries.length∧0≤(cu a).Day∧(cu a).Day≤36000:=by
 obtain⟨_,_,h3,_,h5⟩:=iI h
 obtain⟨a1,_,a3,a4,a5⟩:=jI a.Credit a.Entries 0 0 (cC a.Subs) _ (m8 h3.1 _) h5
 exact⟨a1,by simpa using a3,a4,a5 (by omega)⟩
set_option maxHeartbeats 1000000 in
theorem nF (a:TAccount) (hl:a.Subs.length≤100000) (he:a.Entries.length≤100000):PFun Tryz.prog none none 77 [.agg a.cells] (·=iv (aF a)):=by
 refine ab Tryz.func77 rfl (by simp[Tryz.f77]) (by kernel_rfl) ?_
 intro E hP hr hs hW hN
 have cA:a.cells=[iv a.Credit,bw a.Subs,cU a.Entries]:=rfl
 by_cases c1:20<a.Subs.length
 ·have d1:decide ((20:Int)<a.Subs.length)=true:=by simp;omega
  have:aF a=3:=by rw[aF,if_pos (.inl c1)]
  simp -dsimp -implicitDefEqProofs [go_sem,hP,cA,d1,this]
 have d1:decide ((20:Int)<a.Subs.length)=false:=by simp;omega
 by_cases c2:400<a.Entries.length
 ·have d2:decide ((400:Int)<a.Entries.length)=true:=by simp;omega
  have:aF a=3:=by rw[aF,if_pos (.inr c2)]
  simp -dsimp -implicitDefEqProofs [go_sem,hP,cA,d1,d2,this]
 have d2:decide ((400:Int)<a.Entries.length)=false:=by simp;omega
 simp -dsimp -implicitDefEqProofs [go_sem,hP,cA,d1,d2]
 have pl:=F9 a hl
 rw[cA]at pl
 refine af pl hP QY (by simp only[zU,forall_eq];rw[←cA];exact cQ a) .sc ?_
 by_cases c3:(vB a.Credit&&iJ (ids a.Subs))=true
 rotate_left
 ·have:aF a=62:=by
   rw[aF,if_neg (by omega),if_pos]
   cases h1:vB a.Credit<;>cases h2:iJ (ids a.Subs)<;>simp[h1,h2]at c3⊢
  have c3:(vB a.Credit&&iJ (ids a.Subs))=false:=by simpa using c3
  simp -dsimp -implicitDefEqProofs [go_sem,hP,c3,this]
 simp only[zG]at c3
 obtain⟨c3,c4⟩:=c3
 have hcr:0≤a.Credit∧a.Credit≤1000000000000:=by simpa[vB,bu]using c3
 obtain⟨hnd,hz0,hhd⟩:=nA c4
 have hchk:aF a=(bD a.Credit 0 0 (cC a.Subs) a.Entries).elim 62 (fun r=>if r.2.2=a.Subs then 0 else 62):=by
  rw[aF,if_neg (by omega),if_neg (by simp[c3,c4])]
  cases bD a.Credit 0 0 (cC a.Subs) a.Entries<;>rfl
 simp -dsimp -implicitDefEqProofs [go_sem,hP,c3,c4]
 obtain⟨I,hI⟩:∃I:Nat→St→Prop,I=fun m s=>∃(k:Nat),k≤a.Entries.length∧m=a.Entries.length-k∧(∀e,e∈a.Entries.take k→bu e.Day 0 36000=true)∧s.t 1= .ref 0 0 0∧s.t 23=cU a.Entries∧s.t 24=iv a.Entries.length∧s.t 25=iv k∧s.H[0]?=some (some ⟨28,3,[a.cells]⟩):=⟨_,rfl⟩
 refine az I (a.Entries.length) (by rw[hN];rfl) ?_ ?_
 ·rw[hI]
  exact⟨0,by omega,by omega,by simp,rfl,rfl,rfl,rfl,by simp -dsimp[-getElem?_pos,go_sem,cA]⟩
 intro m s hs'
 rw[hI]at hs'
 obtain⟨k,hk,hm,hdays,t1,t23,t24,t25,hA⟩:=hs'
 have hlt0:=(gsI hA)
 simp -dsimp -implicitDefEqProofs [go_sem,hP,t24,t25]
 refine aB ?_ ?_<;>intro h
 ·have hk:k<a.Entries.length:=by simpa using h
  obtain⟨e,hee⟩:=gkE hk
  have wk:=ae ((k:Int)+1) (by omega)
  have e1:a.Entries.take (k+1)=a.Entries.take k++[e]:=by rw[wJ,hee];rfl
  simp -dsimp -implicitDefEqProofs [go_sem,hP,t23,t25,hee,TEntry.cells]
  refine ai (FH e.Day) hP PF (ak (by simp -dsimp[go_sem])) .sc ?_
  by_cases c5:bu e.Day 0 36000=true
  ·simp -dsimp -implicitDefEqProofs [go_sem,hP,c5,t25,wk]
   refine⟨a.Entries.length-(k+1),by omega,?_⟩
   rw[hI]
   refine⟨k+1,by omega,rfl,fun x hx=>?_,t1,t23,t24,rfl,by simp -dsimp[-getElem?_pos,go_sem,hlt0,hA]⟩
   rw[e1,wA]at hx
   rcases hx with hx|hx
   ·exact hdays x hx
   ·simp at hx;subst hx;exact c5
  ·have:aF a=62:=by
    rw[hchk]
    cases hr:bD a.Credit 0 0 (cC a.Subs) a.Entries with
    |none=>rfl
    |some r=>exact absurd (jm.2 (sK _ _ _ _ _ _ (Int.le_refl _) hr e (zE hee))) c5
   simp -dsimp -implicitDefEqProofs [go_sem,hP,c5,this]
 have hk:k=a.Entries.length:=by simp at h;omega
 subst hk
 rw[zT]at hdays
 have htw:a.Entries.takeWhile (Bk 36000)=a.Entries:=by
  refine mm _ _ fun e he=>?_
  have:=jm.1 (hdays e he)
  simpa[Bk]using this.2
 have up:=OY a 36000 hl he hcr hnd hz0
 rw[oR,htw,cA]at up
 have tk:([iv a.Credit,bw a.Subs,cU a.Entries]:List AV).take 3=[iv a.Credit,bw a.Subs,cU a.Entries]:=rfl
 simp -dsimp -implicitDefEqProofs [go_sem,hP,t1,hA,cA]
 refine af up hP T6 (by simp only[zO,wC,or_false,forall_eq_or_imp,forall_eq];rw[←cA];exact⟨cQ a,.sc⟩) (aj (aU _) .sc) ?_
 rcases xl a.Credit a.Entries oA (cC a.Subs)with⟨r,hr,hrun⟩|⟨hr,hrun1,hrun2⟩
 rotate_left
 ·rw[show oA.Number=0 from rfl,show oA.Day=0 from rfl]at hr
  have:aF a=62:=by rw[hchk,hr];rfl
  simp -dsimp -implicitDefEqProofs [go_sem,hP,hrun2,this]
 rw[show oA.Number=0 from rfl,show oA.Day=0 from rfl]at hr
 have hids:=(jI a.Credit a.Entries 0 0 (cC a.Subs) r (m8 hcr.1 _) hr).2.1
 rw[qr]at hids
 rw[hr]at hchk
 obtain⟨l,hlr⟩:∃l,l=r.2.2:=⟨_,rfl⟩
 rw[←hlr]at hids
 have hll:l.length=a.Subs.length:=by rw[←fG l,hids,fG]
 have hchk:aF a=if l=a.Subs then 0 else 62:=by rw[hchk,hlr];rfl
 rw[hrun,←hlr]
 simp -dsimp -implicitDefEqProofs [-getElem?_pos,go_sem,hP,hlt0,hA,t1,cA]
 obtain⟨J,hJ⟩:∃I:Nat→St→Prop,I=fun m s=>∃(k:Nat),k≤a.Subs.length∧m=a.Subs.length-k∧l.take k=a.Subs.take k∧s.t 5=bw l∧s.t 42=bw a.Subs∧s.t 43=iv a.Subs.length∧s.t 44=iv k:=⟨_,rfl⟩
 refine az J (a.Subs.length) (by rw[hN];rfl) ?_ ?_
 ·rw[hJ]
  exact⟨0,by omega,by omega,by simp,rfl,rfl,rfl,rfl⟩
 clear t1 t23 t24 t25 hA hlt0
 intro m s hs'
 rw[hJ]at hs'
 obtain⟨k,hk,hm,htk,t5,t42,t43,t44⟩:=hs'
 simp -dsimp -implicitDefEqProofs [go_sem,hP,t43,t44]
 refine aB ?_ ?_<;>intro h
 ·have hk:k<a.Subs.length:=by simpa using h
  obtain⟨x,hx⟩:=gkE hk
  obtain⟨y,hy⟩:∃y,l[k]?=some y:=⟨_,zF (by omega)⟩
  have wk:=ae ((k:Int)+1) (by omega)
  have e1:a.Subs.take (k+1)=a.Subs.take k++[x]:=by rw[wJ,hx];rfl
  have e2:l.take (k+1)=l.take k++[y]:=by rw[wJ,hy];rfl
  simp -dsimp -implicitDefEqProofs [go_sem,hP,t42,t44,hx,TSub.cells]
  refine aq (fun _=>true) [] hP (by kernel_rfl) (by kernel_rfl) ?_
  by_cases hxy:y=x
  ·subst hxy
   simp -dsimp -implicitDefEqProofs [go_sem,hP,t5,hy,TSub.cells,t44,wk]
   refine⟨a.Subs.length-(k+1),by omega,?_⟩
   rw[hJ]
   exact⟨k+1,by omega,rfl,by rw[e1,e2,htk],t5,t42,t43,rfl⟩
  ·have hne:¬l=a.Subs:=fun h=>by
    rw[h,hx]at hy
    exact hxy (wT hy).symm
   rw[if_neg hne]at hchk
   simp -dsimp -implicitDefEqProofs [go_sem,hP,t5,hy,TSub.cells]
   refine aB ?_ ?_<;>intro h
   ·simp -dsimp -implicitDefEqProofs [go_sem,hP,hchk]
   ·exact absurd (by cases x;cases y;simp at h;simp[h]) hxy
 ·have hk:k=a.Subs.length:=by simp at h;omega
  subst hk
  rw[zT,←hll,zT]at htk
  rw[if_pos htk]at hchk
  simp -dsimp -implicitDefEqProofs [go_sem,hP,hchk]
open Go.PA
open Go.RowKit
def Grown (n:Nat) (H:ah) (x:AV) (ty:TypeId) (k:Nat) (es:List (List AV)):Prop:=(x= .nil∧es=[])∨∃id,n≤id∧x= .sref id 0 es.length∧H[id]?=some (some ⟨ty,k,es⟩)
theorem Grown.cw {n:Nat} {H:ah} {x:AV} {ty:TypeId} {k:Nat} {es:List (List AV)} {xs ys:List AV} (h:Grown n H x ty k es) (hi:Imm (.list k es)) (t:CW H xs ys):CW H (x::xs) (.list k es::ys):=by
 rcases h with⟨rfl,rfl⟩|⟨id,_,rfl,h⟩
 ·exact eS t
 ·exact gP h rfl hi t
theorem Grown.cellish {n:Nat} {H:ah} {x:AV} {ty:TypeId} {k:Nat} {es:List (List AV)} (h:Grown n H x ty k es):x.cellish=true:=by
 rcases h with⟨rfl,rfl⟩|⟨id,_,rfl,h⟩<;>rfl
theorem Grown.kept {n:Nat} {H H':ah} {x:AV} {ty:TypeId} {k:Nat} {es:List (List AV)} {X:List Nat} (h:Grown n H x ty k es) (hk:Kept X H H') (hX:∀i,i∈X→i<n):Grown n H' x ty k es:=by
 rcases h with⟨rfl,rfl⟩|⟨id,hn,rfl,h⟩
 ·exact .inl ⟨rfl,rfl⟩
 ·refine .inr ⟨id,hn,rfl,hk _ _ (fun hi=>?_) h⟩
  have:=hX id hi
  omega
open Go.PA
open Go.RowKit
theorem jv {n:Nat} {H l:ah} (h:n≤H.length):Agree (fun id=>decide (id<n)) H (H++l):=fun id hid=>zD (by simp at hid;omega)
theorem yR {a b c:Option AObj} {l l':ah}:Agree (fun id=>decide (id<3)) (a::b::c::l) (a::b::c::l'):=fun id hid=>by
 have:id<3:=by simpa using hid
 rcases id with _|_|_|id
 ·rfl
 ·rfl
 ·rfl
 ·omega
abbrev lF:TAccount:=⟨0,[],[]⟩
def bX (a:TAccount) (e:TEntry):TAccount×Int:=
 if aF a=0 then
  if a.Entries.length=400 then (lF,3)else
  if (aV a.Credit (cu a).Number (cu a).Day a.Subs e).1=0 then (⟨a.Credit,(aV a.Credit (cu a).Number (cu a).Day a.Subs e).2,a.Entries++[e]⟩,0)else (lF,(aV a.Credit (cu a).Number (cu a).Day a.Subs e).1)
 else (lF,aF a)
theorem vt {a:TAccount} (h:a.Entries.length=0):cu a=oA:=by
 rw[cu,wF h]
 rfl
theorem ue {a:TAccount} {k:Nat} {e:TEntry} (h:a.Entries.length=k+1) (he:a.Entries[k]?=some e):cu a=e:=by
 rw[cu,List.getLast?_eq_getElem?,h]
 simp[he]
theorem cA (a:TAccount):a.cells=[iv a.Credit,bw a.Subs,cU a.Entries]:=rfl
theorem cE (e:TEntry):e.cells=[iv e.Number,iv e.Day,iv e.From,iv e.To,iv e.Amount,iv e.Ref]:=rfl
theorem jx {H:ah} {n:Int} {Q:AV→Prop} {b:Bx Q} (h:Q (.tup [.agg lF.cells,iv n])):jh H (.tup [.agg [iv 0,.nil,.nil],iv n]) Q b:=
 dO (xA (eS (eS .nil))) h
theorem C8 (a:TAccount) (he:a.Entries.length≤100000):PFun Tryz.prog none none 140 [.agg a.cells] (·= .agg (cu a).cells):=by
 refine ab Tryz.func140 rfl (by simp[Tryz.f140]) (by kernel_rfl) ?_
 intro E hP hr hs hW hN
 by_cases h0:a.Entries.length=0
 ·have d0:decide (0<a.Entries.length)=false:=zA (by omega)
  have:cu a=oA:=vt h0
  simp -dsimp -implicitDefEqProofs [-getElem?_pos,go_sem,hP,cA,d0]
  refine aw (gR oA) ?_
  rw[this]
  rfl
 ·obtain⟨k,hk⟩:∃k,a.Entries.length=k+1:=⟨a.Entries.length-1,by omega⟩
  obtain⟨e,hee⟩:∃e,a.Entries[k]?=some e:=⟨_,zF (by omega)⟩
  have d0:decide ((0:Int)<(k:Int)+1)=true:=by simp
  have wk:=ae ((k:Int)+1-1) (by omega)
  rw[vC]at wk
  have:cu a=e:=ue hk hee
  simp -dsimp -implicitDefEqProofs [-getElem?_pos,go_sem,hP,cA,hk,d0,vC,wk,hee,cE]
  refine aw (gR e) ?_
  rw[this]
  rfl
set_option maxHeartbeats 1000000 in
theorem uo (a:TAccount) (e:TEntry) (hl:a.Subs.length≤100000) (he:a.Entries.length≤100000):PFun Tryz.prog none none 75 [.agg a.cells,.agg e.cells] (·= .tup [.agg (bX a e).1.cells,iv (bX a e).2]):=by
 refine ab Tryz.func75 rfl (by simp[Tryz.f75]) (by kernel_rfl) ?_
 intro E hP hr hs hW hN
 have ck:=nF a hl he
 have la:=C8 a he
 rw[cA]at ck la
 have ia:Imm (.agg [iv a.Credit,bw a.Subs,cU a.Entries]):=cQ a
 have ie:Imm (.agg [iv e.Number,iv e.Day,iv e.From,iv e.To,iv e.Amount,iv e.Ref]):=gR e
 simp -dsimp -implicitDefEqProofs [go_sem,hP,cA,cE]
 refine af ck hP KR (by simp[ia]) .sc ?_
 by_cases c1:aF a=0
 rotate_left
 ·have:bX a e=(lF,aF a):=by rw[bX,if_neg c1]
  simp -dsimp -implicitDefEqProofs [go_sem,hP,c1]
  refine jx ?_
  rw[this]
 obtain⟨k1,k2,k3,k4,k5⟩:=iI c1
 by_cases c2:a.Entries.length=400
 ·have:bX a e=(lF,3):=by rw[bX,if_pos c1,if_pos c2]
  simp -dsimp -implicitDefEqProofs [go_sem,hP,c1,c2]
  refine jx ?_
  rw[this]
 have d2:decide ((a.Entries.length:Int)=400)=false:=by simp;omega
 obtain⟨hnd,hz0,hhd⟩:=nA k4
 obtain⟨q1,q2,q3,q4⟩:=oQ c1
 have ap:=Rq a.Credit a.Subs (cu a) e (by omega) k3 hnd hz0 q1 (by omega) q3
 rw[cE,cE]at ap
 simp -dsimp -implicitDefEqProofs [go_sem,hP,c1,d2]
 refine aq (fun _=>true) [] hP (by kernel_rfl) (by kernel_rfl) ?_
 simp -dsimp -implicitDefEqProofs [go_sem,hP]
 refine af la hP Oz (by simp[ia]) (gR _) ?_
 simp -dsimp -implicitDefEqProofs [go_sem,hP,cE]
 refine af ap hP Pz (by simp[aU,an,ie];exact gR (cu a)) (aj (aU _) .sc) ?_
 by_cases c3:(aV a.Credit (cu a).Number (cu a).Day a.Subs e).1=0
 ·have pA:bX a e=(⟨a.Credit,(aV a.Credit (cu a).Number (cu a).Day a.Subs e).2,a.Entries++[e]⟩,0):=by rw[bX,if_pos c1,if_neg c2,if_pos c3]
  rw[KT c3]
  simp -dsimp -implicitDefEqProofs [go_sem,hP]
  refine aq (fun id=>decide (id<3)) [7] hP (by kernel_rfl) (by kernel_rfl) ?_
  simp -dsimp -implicitDefEqProofs [go_sem,hP,aS]
  refine⟨by omega,by omega,yR,by omega,by omega,yR,?_⟩
  have en:ao TEntry.cells a.Entries++[[iv e.Number,iv e.Day,iv e.From,iv e.To,iv e.Amount,iv e.Ref]]=ao TEntry.cells (a.Entries++[e]):=aX TEntry.cells a.Entries e
  refine dO (xA (dg (aU _) (gP rfl (by simp[ao]) (by rw[en];exact pz _) .nil))) ?_
  rw[pA,en]
  rfl
 ·have pA:bX a e=(lF,(aV a.Credit (cu a).Number (cu a).Day a.Subs e).1):=by rw[bX,if_pos c1,if_neg c2,if_neg c3]
  rw[FZ c3]
  simp -dsimp -implicitDefEqProofs [go_sem,hP,c3]
  refine jx ?_
  rw[pA]
def fT (a:TAccount) (day from_ to amount ref:Int):TEntry:=⟨IntKind.i64.wrap ((cu a).Number+1),day,from_,to,amount,ref⟩
theorem uR (a:TAccount) (day from_ to amount ref:Int) (he:a.Entries.length≤100000):PFun Tryz.prog none none 76 [.agg a.cells,iv day,iv from_,iv to,iv amount,iv ref] (·= .agg (fT a day from_ to amount ref).cells):=by
 refine ab Tryz.func76 rfl (by simp[Tryz.f76]) (by kernel_rfl) ?_
 intro E hP hr hs hW hN
 have la:=C8 a he
 rw[cA,cE]at la
 have ia:Imm (.agg [iv a.Credit,bw a.Subs,cU a.Entries]):=cQ a
 simp -dsimp -implicitDefEqProofs [go_sem,hP,cA]
 refine af la hP Oz (by simp[ia]) (gR (cu a)) ?_
 simp -dsimp -implicitDefEqProofs [go_sem,hP]
 refine aw (gR (fT a day from_ to amount ref)) ?_
 rfl
def bF (a:TAccount) (id:Int):Int×Bool:=
 if aF a=0 then (match a.Subs.find? (fun s=>decide (s.ID=id))with|some s=>(s.Balance,true)|none=>(0,false))else (0,false)
theorem AL {l:List TSub} {id:Int}:(fO l id= -1∧l.find? (fun s=>decide (s.ID=id))=none)∨∃(i:Nat) (s:TSub),fO l id=i∧l[i]?=some s∧l.find? (fun s=>decide (s.ID=id))=some s:=by
 suffices h:∀(l:List TSub) (k:Nat),(bE (fun s=>decide (s.ID=id)) k l= -1∧l.find? (fun s=>decide (s.ID=id))=none)∨∃(i:Nat) (s:TSub),bE (fun s=>decide (s.ID=id)) k l=((k+i:Nat):Int)∧l[i]?=some s∧l.find? (fun s=>decide (s.ID=id))=some s by
  have:=h l 0
  simpa[fO,fD]using this
 intro l
 induction l with
 |nil=>exact fun k=> .inl ⟨rfl,rfl⟩
 |cons a l ih=>
  intro k
  rw[bE,List.find?_cons]
  by_cases h:a.ID=id
  ·simp only[h,decide_true,if_true]
   exact .inr ⟨0,a,by simp,rfl,rfl⟩
  ·simp only[h,decide_false,wS,if_false]
   rcases ih (k+1)with h|⟨i,s,h1,h2,h3⟩
   ·exact .inl h
   ·exact .inr ⟨i+1,s,by rw[h1];congr 1;omega,h2,h3⟩
theorem tF (a:TAccount) (id:Int) (hl:a.Subs.length≤100000) (he:a.Entries.length≤100000):PFun Tryz.prog none none 145 [.agg a.cells,iv id] (·= .tup [iv (bF a id).1,bv (bF a id).2]):=by
 refine ab Tryz.func145 rfl (by simp[Tryz.f145]) (by kernel_rfl) ?_
 intro E hP hr hs hW hN
 have ck:=nF a hl he
 rw[cA]at ck
 have ia:Imm (.agg [iv a.Credit,bw a.Subs,cU a.Entries]):=cQ a
 simp -dsimp -implicitDefEqProofs [go_sem,hP,cA]
 refine af ck hP KR (by simp[ia]) .sc ?_
 by_cases c1:aF a=0
 rotate_left
 ·have:bF a id=(0,false):=by rw[bF,if_neg c1]
  simp -dsimp -implicitDefEqProofs [go_sem,hP,c1]
  refine aw (aj .sc .sc) ?_
  rw[this]
 simp -dsimp -implicitDefEqProofs [go_sem,hP,c1]
 refine ai (ky a.Subs id hl) hP gU (aL (aU _) (aL .sc (aZ.2 trivial))) .sc ?_
 rcases AL (l:=a.Subs) (id:=id)with⟨h1,h2⟩|⟨i,s,h1,h2,h3⟩
 ·have:bF a id=(0,false):=by rw[bF,if_pos c1,h2]
  simp -dsimp -implicitDefEqProofs [go_sem,hP,h1]
  refine aw (aj .sc .sc) ?_
  rw[this]
 ·have:bF a id=(s.Balance,true):=by rw[bF,if_pos c1,h3]
  have hi:=(gsI h2)
  have d1:decide ((0:Int)≤(i:Int))=true:=by simp
  simp -dsimp -implicitDefEqProofs [go_sem,hP,h1,d1,h2,TSub.cells]
  refine aw (aj .sc .sc) ?_
  rw[this]
def pF (l:List TSub):Int:=(l.map (·.Balance)).sum
theorem CR (l:List TSub) (s:TSub):pF (l++[s])=pF l+s.Balance:=by simp[pF]
def mC (a:TAccount):Int:=if aF a=0 then pF a.Subs else 0
theorem s9 {credit:Int} {s:TSub} (hc:0≤credit∧credit≤1000000000000) (h:fC credit s=true): -1000000000000≤s.Balance∧s.Balance≤1000000000000000:=by
 have:=(fu _ _).1 h
 split at this<;>omega
theorem Aa {credit:Int} (hc:0≤credit∧credit≤1000000000000):∀l:List TSub,jU credit l=true→ -(1000000000000*(l.length:Int))≤pF l∧pF l≤1000000000000000*(l.length:Int)
 |[],_=>by simp[pF]
 |s::l,h=>by
  simp only[jU,List.all_cons,zG]at h
  have h1:=s9 hc h.1
  have h2:=Aa hc l h.2
  have:pF (s::l)=s.Balance+pF l:=by simp[pF]
  rw[this,wI]
  omega
theorem Iy {credit:Int} {l:List TSub} (h:jU credit l=true) (k:Nat):jU credit (l.take k)=true:=zS.2 fun s hs=>zS.1 h s (wV hs)
def yC (f:TEntry→Int) (l:List TEntry):Int:=(l.map f).sum
theorem xX (credit:Int):∀(es:List TEntry) (n d:Int) (l:List TSub) (r:Int×Int×List TSub),bD credit n d l es=some r→∀e,e∈es→0<e.Amount∧e.Amount≤1000000000000∧0≤e.Ref∧e.Ref≤1000000∧e.From≠e.To∧(e.From=0∨e.From∈ids l)∧(e.To=0∨e.To∈ids l)
 |[],n,d,l,r,h,e,he=>by simp at he
 |x::es,n,d,l,r,h,e,he=>by
  rw[bD]at h
  split at h
  ·rename_i hp
   obtain⟨_,_,_,h4,h5,h6,h7,h8,h9,h10,_⟩:=kC hp
   rcases zO.1 he with rfl|he
   ·exact⟨h4,h5,h6,h7,h8,h9,h10⟩
   ·have:=xX credit es _ _ _ r h e he
    rw[kx]at this
    exact this
  ·cases h
theorem CX {a:TAccount} (h:aF a=0):∀e,e∈a.Entries→0<e.Amount∧e.Amount≤1000000000000∧0≤e.Ref∧e.Ref≤1000000∧e.From≠e.To∧(e.From=0∨e.From∈ids a.Subs)∧(e.To=0∨e.To∈ids a.Subs):=by
 obtain⟨_,_,_,_,h5⟩:=iI h
 have:=xX _ _ _ _ _ _ h5
 rw[qr]at this
 exact this
abbrev eQ (l:List Int):AV:= .list 1 (ao eE l)
theorem gK (l:List Int):Imm (eQ l):=aY _ Fw l
def sV (l:List Int):List TSub:=l.map fun i=>⟨i,0⟩
theorem zm (l:List Int):(sV l).length=l.length:=by simp[sV]
def lr (l:List Int) (credit:Int):TAccount:=⟨credit,sV l,[]⟩
theorem Ao (l:List Int):ids (sV l)=l:=by simp[ids,sV,Function.comp_def]
def oC (ids:List Int) (credit:Int):TAccount×Int:=
 if vB credit=true then if 20<ids.length then (lF,3)else if iJ ids=true then (lr ids credit,0)else (lF,60)else (lF,2)
set_option maxHeartbeats 1000000 in
theorem L9 (l:List Int) (credit:Int) (hl:l.length≤100000):PFun Tryz.prog none none 74 [eQ l,iv credit] (·= .tup [.agg (oC l credit).1.cells,iv (oC l credit).2]):=by
 refine ab Tryz.func74 rfl (by simp[Tryz.f74]) (by kernel_rfl) ?_
 intro E hP hr hs hW hN
 simp -dsimp -implicitDefEqProofs [go_sem,hP]
 refine ai (rO credit) hP HZ (ak (by simp -dsimp[go_sem])) .sc ?_
 by_cases c1:vB credit=true
 rotate_left
 ·have:oC l credit=(lF,2):=by rw[oC,if_neg c1]
  simp -dsimp -implicitDefEqProofs [go_sem,hP,c1]
  refine jx ?_
  rw[this]
 by_cases c2:20<l.length
 ·have d2:decide ((20:Int)<l.length)=true:=zC (by omega)
  have:oC l credit=(lF,3):=by rw[oC,if_pos c1,if_pos c2]
  simp -dsimp -implicitDefEqProofs [go_sem,hP,c1,d2]
  refine jx ?_
  rw[this]
 have d2:decide ((20:Int)<l.length)=false:=zA (by omega)
 simp -dsimp -implicitDefEqProofs [go_sem,hP,c1,d2]
 obtain⟨I,hI⟩:∃I:Nat→St→Prop,I=fun m s=>∃(k:Nat) (x:AV),k≤l.length∧m=l.length-k∧s.t 4= .ref 0 0 0∧s.t 6= .ref 1 0 0∧s.t 19=eQ l∧s.t 20=iv l.length∧s.t 21=iv k∧s.H[0]?=some (some ⟨28,3,[[iv 0,.nil,.nil]]⟩)∧s.H[1]?=some (some ⟨28,3,[[iv credit,x,.nil]]⟩)∧Grown 2 s.H x 117 2 (ao TSub.cells (sV (l.take k))):=⟨_,rfl⟩
 refine az I (l.length) (by rw[hN];rfl) ?_ ?_
 ·rw[hI]
  exact⟨0,.nil,by omega,by omega,rfl,rfl,rfl,rfl,rfl,rfl,rfl,.inl ⟨rfl,rfl⟩⟩
 intro m s hs'
 rw[hI]at hs'
 obtain⟨k,x,hk,hm,t4,t6,t19,t20,t21,h0,h1,hg⟩:=hs'
 have lt0:=(gsI h0)
 have lt1:=(gsI h1)
 simp -dsimp -implicitDefEqProofs [go_sem,hP,t20,t21]
 refine aB ?_ ?_<;>intro h
 ·have hk:k<l.length:=by simpa using h
  obtain⟨n,hn⟩:=gkE hk
  have wk:=ae ((k:Int)+1) (by omega)
  have e1:sV (l.take (k+1))=sV (l.take k)++[⟨n,0⟩]:=by rw[wJ,hn];simp[sV]
  have nl:(sV (l.take k)).length=k:=by rw[zm,zY];omega
  rcases hg with⟨rfl,hg⟩|⟨id,h2,rfl,hg⟩
  ·simp -dsimp -implicitDefEqProofs [-getElem?_pos,go_sem,hP,t19,t21,hn,eE,t6,h1,lt1,wk]
   refine⟨l.length-(k+1),by omega,?_⟩
   rw[hI]
   refine⟨k+1,.sref s.H.length 0 1,by omega,rfl,t4,t6,t19,t20,rfl,by simp -dsimp[-getElem?_pos,go_sem,lt0,h0],by simp -dsimp[-getElem?_pos,go_sem,lt1],.inr ⟨s.H.length,by omega,?_,?_⟩⟩
   ·rw[e1,←aX,hg];rfl
   ·rw[e1,←aX,hg]
    simp -dsimp -implicitDefEqProofs [go_sem,TSub.cells]
  ·have ne0:¬id=0:=by omega
   have ne1:¬id=1:=by omega
   have lti:=(gsI hg)
   simp -dsimp -implicitDefEqProofs [-getElem?_pos,go_sem,hP,t19,t21,hn,eE,t6,h1,lt1,hg,ne1,nl,wk]
   refine⟨by omega,by omega,?_⟩
   refine⟨l.length-(k+1),by omega,?_⟩
   rw[hI]
   refine⟨k+1,.sref s.H.length 0 (k+1),by omega,rfl,t4,t6,t19,t20,rfl,by simp -dsimp[-getElem?_pos,go_sem,ne0,lt0,h0],by simp -dsimp[-getElem?_pos,go_sem,ne1,lt1],.inr ⟨s.H.length,by omega,?_,?_⟩⟩
   ·rw[ar,zm,zY]
    congr 1
    omega
   ·rw[e1,←aX]
    simp -dsimp -implicitDefEqProofs [go_sem,TSub.cells]
 ·have hk:k=l.length:=by simp at h;omega
  subst hk
  rw[zT]at hg
  have pl:=F9 ⟨credit,sV l,[]⟩ (by rw[zm];omega)
  have cw:CW s.H [iv credit,x,.nil] [iv credit,bw (sV l),.list 6 []]:=xA (hg.cw (aU _) (eS .nil))
  simp -dsimp -implicitDefEqProofs [-getElem?_pos,go_sem,hP,t6,h1,lt1]
  refine ai pl hP QY (GY cw (aZ.2 trivial)) .sc ?_
  rw[Ao,c1]
  by_cases c3:iJ l=true
  ·have:oC l credit=(lr l credit,0):=by rw[oC,if_pos c1,if_neg c2,if_pos c3]
   have hc:=hg.cellish
   simp -dsimp -implicitDefEqProofs [-getElem?_pos,go_sem,hP,c3,t6,h1,lt1,t4,lt0,h0,hc]
   refine dO (cs':=(lr l credit).cells) (xA ((hg.kept (X:=[0]) (cL _ (by simp) (aD _ _)) (by simp)).cw (aU _) (eS .nil))) ?_
   rw[this]
  ·have:oC l credit=(lF,60):=by rw[oC,if_pos c1,if_neg c2,if_neg c3]
   simp -dsimp -implicitDefEqProofs [-getElem?_pos,go_sem,hP,c3,t4,lt0,h0]
   refine jx ?_
   rw[this]
open Go.PA
open Go.RowKit
abbrev aQ (l:List TPayment):AV:= .list 5 (ao TPayment.cells l)
abbrev cd (l:List TBatch):AV:= .list 3 (ao TBatch.cells l)
theorem cg (l:List TPayment):Imm (aQ l):=aY _ TPayment.imm _
theorem iV (l:List TBatch):Imm (cd l):=aY _ TBatch.imm _
theorem cPy (p:TPayment):p.cells=[iv p.Warrant,iv p.Payee,iv p.Amount,iv p.Due,iv p.Sub]:=rfl
theorem cBt (b:TBatch):b.cells=[iv b.Number,iv b.Day,aQ b.Payments]:=rfl
theorem cQu (q:TQueue):q.cells=[aQ q.Waiting,aA q.Known,cd q.Batches]:=rfl
theorem dX (c:TPayment):Imm (.agg c.cells):=bH.2 c.imm
theorem D4 (c:TBatch):Imm (.agg c.cells):=bH.2 c.imm
theorem df (c:TQueue):Imm (.agg c.cells):=bH.2 c.imm
theorem dt {α:Type} {l:List α} {k:Nat} {e:α} (h:l[k]?=some e):l.drop k=e::l.drop (k+1):=by
 obtain⟨hk,rfl⟩:=zM.1 h
 exact wE hk
theorem ce {α:Type} {l:List α} {k:Nat} {e:α} (h:l[k]?=some e):l.take (k+1)=l.take k++[e]:=by
 rw[wJ,h];rfl
def amg (n lo hi:Int):Bool:=decide (lo≤n)&&decide (n≤hi)
theorem dH {n lo hi:Int}:amg n lo hi=true↔lo≤n∧n≤hi:=by simp[amg]
theorem fp {n lo hi:Int} (h:¬(lo≤n∧n≤hi)):amg n lo hi=false:=Bool.eq_false_iff.2 fun e=>h (dH.1 e)
def gx (p:TPayment):Bool:=amg p.Warrant 1 1000000&&(amg p.Payee 1 1000000&&(amg p.Amount 1 1000000000000&&(amg p.Due 0 35990&&amg p.Sub 1 1000)))
structure PayOk (p:TPayment):Prop where
 warrant:1≤p.Warrant∧p.Warrant≤1000000
 payee:1≤p.Payee∧p.Payee≤1000000
 amount:1≤p.Amount∧p.Amount≤1000000000000
 due:0≤p.Due∧p.Due≤35990
 sub:1≤p.Sub∧p.Sub≤1000
theorem g8 (p:TPayment):gx p=true↔PayOk p:=by
 simp only[gx,zG,dH]
 exact⟨fun⟨a,b,c,d,e⟩=>⟨a,b,c,d,e⟩,fun⟨a,b,c,d,e⟩=>⟨a,b,c,d,e⟩⟩
def Bef (a b:TPayment):Prop:=a.Due<b.Due∨a.Due=b.Due∧a.Warrant<b.Warrant
instance (a b:TPayment):Decidable (Bef a b):=by unfold Bef;infer_instance
def g7 (a b:TPayment):Bool:=decide (Bef a b)
theorem kE {a b:TPayment}:g7 a b=true↔Bef a b:=by simp[g7]
theorem Bef.trans {a b c:TPayment} (h:Bef a b) (k:Bef b c):Bef a c:=by unfold Bef at*;omega
theorem Bef.tot {a b:TPayment} (h:a.Warrant≠b.Warrant):Bef a b∨Bef b a:=by unfold Bef;omega
def yz {α:Type} (o:Option α) (f:α→Bool):Bool:=match o with
 |none=>true
 |some x=>f x
theorem HA {α:Type} {o:Option α} {f:α→Bool}:yz o f=true↔∀x,o=some x→f x=true:=by
 cases o<;>simp[yz]
def eP:Option TPayment→List TPayment→Bool
 |_,[]=>true
 |o,p::l=>gx p&&(yz o (fun x=>g7 x p)&&eP (some p) l)
def dA:List TPayment→List TPayment→Bool
 |_,[]=>true
 |pre,p::l=>!(pre.any fun x=>decide (x.Warrant=p.Warrant))&&dA (pre++[p]) l
def inK (K:List Int) (p:TPayment):Bool:=decide (p.Warrant∈K)
def vn (K:List Int) (l:List TPayment):Bool:=eP none l&&(l.all (inK K)&&dA [] l)
def gW:Option Int→List Int→Bool
 |_,[]=>true
 |o,n::l=>amg n 1 1000000&&(yz o (fun x=>decide (x<n))&&gW (some n) l)
def iG (d:Int):Bool:=amg d 0 36000&&decide (d%7<5)
def Cj (K:List Int) (i d:Int) (b:TBatch):Bool:=decide (b.Number=i+1)&&(decide (d≤b.Day)&&(iG b.Day&&(amg b.Payments.length 1 10&&vn K b.Payments)))
def bM (K:List Int):Int→Int→List TBatch→Bool
 |_,_,[]=>true
 |i,d,b::l=>Cj K i d b&&bM K (i+1) b.Day l
def cH (q:TQueue):Int:=
 if 100<q.Waiting.length∨200<q.Known.length∨200<q.Batches.length then 3 else if (gW none q.Known&&(vn q.Known q.Waiting&&bM q.Known 0 0 q.Batches))=true then 0 else 64
theorem xU:∀(l:List TPayment) (o:Option TPayment),eP o l=true↔(∀p,p∈l→PayOk p)∧(∀x,o=some x→∀p,p∈l→Bef x p)∧l.Pairwise Bef
 |[],o=>by simp[eP]
 |p::l,o=>by
  rw[eP,zG,zG,xU l (some p),g8,HA,vD]
  simp only[kE,zO]
  constructor
  ·rintro⟨h1,h2,h3,h4,h5⟩
   refine⟨?_,?_,h4 p rfl,h5⟩
   ·rintro x (rfl|hx)
    ·exact h1
    ·exact h3 x hx
   ·rintro x hx y (rfl|hy)
    ·exact h2 x hx
    ·exact (h2 x hx).trans (h4 p rfl y hy)
  ·rintro⟨h1,h2,h3,h4⟩
   refine⟨h1 p (.inl rfl),fun x hx=>h2 x hx p (.inl rfl),fun x hx=>h1 x (.inr hx),?_,h4⟩
   rintro x hx y hy
   cases hx
   exact h3 y hy
theorem sG:∀(l pre:List TPayment),dA pre l=true↔(∀p,p∈l→∀x,x∈pre→x.Warrant≠p.Warrant)∧(l.map (·.Warrant)).Nodup
 |[],pre=>by simp[dA]
 |p::l,pre=>by
  rw[dA,zG,vQ,sG l,wD,List.nodup_cons,List.any_eq_false]
  simp only[zI,wA,zO,wC,or_false,zV,not_exists,not_and]
  constructor
  ·rintro⟨h1,h2,h3⟩
   refine⟨?_,fun x hx e=>h2 x hx p (.inr rfl) e.symm,h3⟩
   rintro x (rfl|hx) y hy
   ·exact h1 y hy
   ·exact h2 x hx y (.inl hy)
  ·rintro⟨h1,h2,h3⟩
   refine⟨fun y hy=>h1 p (.inl rfl) y hy,?_,h3⟩
   rintro x hx y (hy|rfl)
   ·exact h1 x (.inr hx) y hy
   ·exact fun e=>h2 x hx e.symm
structure AscOk (K:List Int) (l:List TPayment):Prop where
 pay:∀p,p∈l→PayOk p
 ord:l.Pairwise Bef
 kn:∀p,p∈l→p.Warrant∈K
 nd:(l.map (·.Warrant)).Nodup
theorem pB {K:List Int} {l:List TPayment}:vn K l=true↔AscOk K l:=by
 rw[vn,zG,zG,xU,sG,zS]
 simp only[inK,zI]
 constructor
 ·rintro⟨⟨h1,_,h2⟩,h3,_,h4⟩
  exact⟨h1,h2,h3,h4⟩
 ·rintro⟨h1,h2,h3,h4⟩
  exact⟨⟨h1,by simp,h2⟩,h3,by simp,h4⟩
theorem rR:∀(l:List Int) (o:Option Int),gW o l=true↔(∀p,p∈l→1≤p∧p≤1000000)∧(∀x,o=some x→∀p,p∈l→x<p)∧l.Pairwise (·<·)
 |[],o=>by simp[gW]
 |p::l,o=>by
  rw[gW,zG,zG,rR l (some p),dH,HA,vD]
  simp only[zI,zO]
  constructor
  ·rintro⟨h1,h2,h3,h4,h5⟩
   refine⟨?_,?_,h4 p rfl,h5⟩
   ·rintro x (rfl|hx)
    ·exact h1
    ·exact h3 x hx
   ·rintro x hx y (rfl|hy)
    ·exact h2 x hx
    ·exact Int.lt_trans (h2 x hx) (h4 p rfl y hy)
  ·rintro⟨h1,h2,h3,h4⟩
   refine⟨h1 p (.inl rfl),fun x hx=>h2 x hx p (.inl rfl),fun x hx=>h1 x (.inr hx),?_,h4⟩
   rintro x hx y hy
   cases hx
   exact h3 y hy
structure QOk (q:TQueue):Prop where
 lw:q.Waiting.length≤100
 lk:q.Known.length≤200
 lb:q.Batches.length≤200
 kn:∀w,w∈q.Known→1≤w∧w≤1000000
 ks:q.Known.Pairwise (·<·)
 asc:AscOk q.Known q.Waiting
 bats:bM q.Known 0 0 q.Batches=true
theorem dw {q:TQueue}:cH q=0↔QOk q:=by
 unfold cH
 split
 ·rename_i h
  exact⟨fun e=>absurd e (by decide),fun⟨h1,h2,h3,_,_,_,_⟩=>by omega⟩
 ·rename_i h
  split
  ·rename_i h1
   rw[zG,zG,rR,pB]at h1
   exact⟨fun _=>⟨by omega,by omega,by omega,h1.1.1,h1.1.2.2,h1.2.1,h1.2.2⟩,fun _=>rfl⟩
  ·rename_i h1
   refine⟨fun e=>absurd e (by decide),fun⟨_,_,_,h4,h5,h6,h7⟩=>absurd ?_ h1⟩
   rw[zG,zG,rR,pB]
   exact⟨⟨h4,by simp,h5⟩,h6,h7⟩
structure FitQ (q:TQueue):Prop where
 w:q.Waiting.length≤100000
 k:q.Known.length≤100000
 b:q.Batches.length≤100000
 each:∀b,b∈q.Batches→b.Payments.length≤100000
theorem kd {K:List Int}:∀{l:List TBatch} {i d:Int},bM K i d l=true→∀b,b∈l→1≤b.Payments.length∧b.Payments.length≤10∧AscOk K b.Payments∧iG b.Day=true∧d≤b.Day
 |[],_,_,_,b,hb=>by cases hb
 |a::l,i,d,h,b,hb=>by
  rw[bM,Cj]at h
  simp only[zG,dH,pB,zI]at h
  rcases zO.1 hb with rfl|hb
  ·obtain⟨⟨_,h2,h3,h4,h5⟩,_⟩:=h
   exact⟨by omega,by omega,h5,h3,h2⟩
  ·obtain⟨h1,h2,h3,h4,h5⟩:=kd h.2 b hb
   exact⟨h1,h2,h3,h4,by have:=h.1.2.1;omega⟩
theorem QOk.fit {q:TQueue} (h:QOk q):FitQ q:=⟨by have:=h.lw;omega,by have:=h.lk;omega,by have:=h.lb;omega,fun b hb=>by have:=kd h.bats b hb;omega⟩
abbrev bU:TQueue:=⟨[],[],[]⟩
abbrev dU:TBatch:=⟨0,0,[]⟩
def ins {α:Type} (lt:α→α→Bool) (l:List α) (a:α):List α:=l.takeWhile (fun x=>lt x a)++a::l.dropWhile (fun x=>lt x a)
def ltB (a b:Int):Bool:=decide (a<b)
def fF (q:TQueue) (w:Int):Int:=fD (fun p:TPayment=>decide (p.Warrant=w)) q.Waiting
def j4 (q:TQueue) (p:TPayment):TQueue×Int:=
 if cH q=0 then (if gx p=true then (if p.Warrant∈q.Known then (bU,65)else if q.Waiting.length=100∨q.Known.length=200 then (bU,3)else (⟨ins g7 q.Waiting p,ins ltB q.Known p.Warrant,q.Batches⟩,0))else (bU,64))else (bU,cH q)
def dW (q:TQueue) (p:TPayment):TQueue×Int:=
 if cH q=0 then (if gx p=true then (if p.Warrant∈q.Known then (if 0≤fF q p.Warrant then (bU,65)else if q.Waiting.length=100 then (bU,3)else (⟨ins g7 q.Waiting p,q.Known,q.Batches⟩,0))else (bU,6))else (bU,64))else (bU,cH q)
def gu (q:TQueue) (w:Int):TQueue×Int:=
 if cH q=0 then (if fF q w<0 then (bU,6)else (⟨q.Waiting.eraseIdx (fF q w).toNat,q.Known,q.Batches⟩,0))else (bU,cH q)
def gV (q:TQueue) (day:Int):List TPayment:=if cH q=0 then q.Waiting.filter (fun p=>decide (p.Due≤day))else []
def fU (q:TQueue):Int:=match q.Batches.getLast? with
 |none=>0
 |some b=>b.Day
def bT (ws:List Int) (p:TPayment):Bool:=decide (p.Warrant∈ws)
def EW (q:TQueue) (day:Int) (ws:List Int):Bool:=decide (ws.Nodup)&&ws.all fun w=>q.Waiting.any fun p=>decide (p.Warrant=w)&&decide (p.Due≤day)
def qW (q:TQueue) (day:Int) (ws:List Int):TBatch:=⟨q.Batches.length+1,day,q.Waiting.filter (bT ws)⟩
def cK (q:TQueue) (day:Int) (ws:List Int):TQueue×TBatch×Int:=
 if cH q=0 then (if iG day=true then (if day<fU q then (bU,dU,8)else if ws.length=0 then (bU,dU,10)else if 10<ws.length∨200≤q.Batches.length then (bU,dU,3)else if EW q day ws=true then (⟨q.Waiting.filter (fun p=>!bT ws p),q.Known,q.Batches++[qW q day ws]⟩,qW q day ws,0)else (bU,dU,6))else (bU,dU,66))else (bU,dU,cH q)
open Go.PA
open Go.RowKit
theorem CQ {α:Type} (lt:α→α→Bool) (l:List α) (a:α):∃A B,l=A++B∧ins lt l a=A++a::B∧(∀x,x∈A→lt x a=true)∧∀x,B.head?=some x→lt x a=false:=by
 refine⟨l.takeWhile fun x=>lt x a,l.dropWhile fun x=>lt x a,by rw[List.takeWhile_append_dropWhile],rfl,fun x hx=>?_,fun x hx=>?_⟩
 ·exact zS.1 (List.all_takeWhile (p:=fun x=>lt x a) (l:=l)) x hx
 ·have:=List.head?_dropWhile_not (p:=fun x=>lt x a) (l:=l)
  rw[hx]at this
  simpa using this
theorem BB {α:Type} (lt:α→α→Bool) (l:List α) (a:α):(ins lt l a).Perm (a::l):=by
 obtain⟨A,B,h1,h2,_⟩:=CQ lt l a
 rw[h2,h1]
 exact List.perm_middle
theorem p9 {α:Type} (lt:α→α→Bool) (l:List α) (a:α):(ins lt l a).length=l.length+1:=by
 rw[(BB lt l a).length_eq];rfl
theorem fH {α:Type} {lt:α→α→Bool} {l:List α} {a x:α}:x∈ins lt l a↔x=a∨x∈l:=by
 rw[(BB lt l a).mem_iff,zO]
theorem Ag {α:Type} {lt:α→α→Bool} {R:α→α→Prop} (hR:∀x y,lt x y=true↔R x y) (tr:∀{x y z},R x y→R y z→R x z) {l:List α} {a:α} (hl:l.Pairwise R) (tot:∀x,x∈l→R x a∨R a x):(ins lt l a).Pairwise R:=by
 obtain⟨A,B,rfl,h2,h3,h4⟩:=CQ lt l a
 rw[h2]
 rw[List.pairwise_append]at hl⊢
 obtain⟨p1,p2,p3⟩:=hl
 have ha:∀x,x∈B→R a x:=by
  cases B with
  |nil=>simp
  |cons b B=>
   have hb:R a b:=(tot b (by simp)).resolve_left fun h=>by
    have:=h4 b rfl
    rw[(hR _ _).2 h]at this
    cases this
   intro x hx
   rcases zO.1 hx with rfl|hx
   ·exact hb
   ·exact tr hb (List.rel_of_pairwise_cons p2 hx)
 refine⟨p1,vD.2 ⟨ha,p2⟩,fun x hx y hy=>?_⟩
 rcases zO.1 hy with rfl|hy
 ·exact (hR _ _).1 (h3 x hx)
 ·exact p3 x hx y hy
theorem OW (a b:TPayment):g7 a b=true↔Bef a b:=kE
theorem O4 (a b:Int):ltB a b=true↔a<b:=by simp[ltB]
theorem rX {q:TQueue} {w:Int}:fF q w<0↔∀p,p∈q.Waiting→p.Warrant≠w:=by
 unfold fF
 rcases dF (fun p:TPayment=>decide (p.Warrant=w)) q.Waiting with⟨h1,h2⟩|⟨i,a,h1,h2,h3,h4⟩
 ·rw[h1]
  exact⟨fun _ p hp=>by simpa using h2 p hp,fun _=>by omega⟩
 ·rw[h3]
  exact⟨fun h=>by omega,fun h=>absurd (by simpa using h2) (h a (zE h1))⟩
theorem nk {q:TQueue} {w:Int} (h:¬fF q w<0):∃(i:Nat) (p:TPayment),fF q w=i∧q.Waiting[i]?=some p∧p.Warrant=w∧i<q.Waiting.length:=by
 unfold fF at*
 rcases dF (fun p:TPayment=>decide (p.Warrant=w)) q.Waiting with⟨h1,h2⟩|⟨i,a,h1,h2,h3,h4⟩
 ·omega
 ·exact⟨i,a,h3,h1,by simpa using h2,(gsI h1)⟩
theorem AscOk.mono {K K':List Int} {l:List TPayment} (h:AscOk K l) (hk:∀w,w∈K→w∈K'):AscOk K' l:=⟨h.pay,h.ord,fun p hp=>hk _ (h.kn p hp),h.nd⟩
theorem AscOk.sub {K:List Int} {l l':List TPayment} (h:AscOk K l) (hs:l'.Sublist l):AscOk K l':=⟨fun p hp=>h.pay p (hs.subset hp),h.ord.sublist hs,fun p hp=>h.kn p (hs.subset hp),h.nd.sublist (hs.map _)⟩
theorem MJ {K K':List Int} (hk:∀w,w∈K→w∈K') {i d:Int} {b:TBatch} (h:Cj K i d b=true):Cj K' i d b=true:=by
 unfold Cj at*
 simp only[zG,pB]at h⊢
 exact⟨h.1,h.2.1,h.2.2.1,h.2.2.2.1,h.2.2.2.2.mono hk⟩
theorem qI {K K':List Int} (hk:∀w,w∈K→w∈K'):∀{l:List TBatch} {i d:Int},bM K i d l=true→bM K' i d l=true
 |[],_,_,_=>rfl
 |b::l,i,d,h=>by
  rw[bM,zG]at h⊢
  exact⟨MJ hk h.1,qI hk h.2⟩
def m9 (d:Int) (l:List TBatch):Int:=match l.getLast? with
 |none=>d
 |some b=>b.Day
theorem Ca (d:Int) (b:TBatch) (l:List TBatch):m9 d (b::l)=m9 b.Day l:=by
 unfold m9
 cases l with
 |nil=>rfl
 |cons c l=>rw[List.getLast?_cons_cons];cases h:(c::l).getLast? with
  |none=>simp at h
  |some x=>rfl
theorem qL {K:List Int} {b:TBatch}:∀{l:List TBatch} {i d:Int},bM K i d l=true→Cj K (i+l.length) (m9 d l) b=true→bM K i d (l++[b])=true
 |[],i,d,_,h=>by
  have:Cj K i d b=true:=by simpa[m9]using h
  simp[bM,this]
 |c::l,i,d,h,k=>by
  rw[bM,zG]at h
  rw[vX,bM,zG]
  rw[Ca,wI]at k
  exact⟨h.1,qL h.2 (by rw[show i+1+(l.length:Int)=i+((l.length+1:Nat):Int) by omega];exact k)⟩
theorem QQ:QOk bU:=dw.1 (by decide)
theorem QOk.nod {q:TQueue} (h:QOk q) {w:Int} (hw:w∉q.Known):∀p,p∈q.Waiting→p.Warrant≠w:=fun p hp e=>hw (e▸h.asc.kn p hp)
theorem AscOk.ins {K:List Int} {l:List TPayment} {p:TPayment} (h:AscOk K l) (hp:PayOk p) (hk:p.Warrant∈K) (hn:∀x,x∈l→x.Warrant≠p.Warrant):AscOk K (ins g7 l p):=by
 refine⟨fun x hx=>?_,Ag OW Bef.trans h.ord fun x hx=>Bef.tot (hn x hx),fun x hx=>?_,?_⟩
 ·rcases fH.1 hx with rfl|hx
  ·exact hp
  ·exact h.pay x hx
 ·rcases fH.1 hx with rfl|hx
  ·exact hk
  ·exact h.kn x hx
 ·refine (((BB g7 l p).map (·.Warrant)).nodup_iff).2 ?_
  rw[wD,List.nodup_cons]
  refine⟨fun hm=>?_,h.nd⟩
  obtain⟨x,hx,e⟩:=zV.1 hm
  exact hn x hx e
theorem Sa {q x:TQueue} {p:TPayment} (h:j4 q p=(x,0)):QOk q∧PayOk p∧p.Warrant∉q.Known∧q.Waiting.length<100∧q.Known.length<200∧x=⟨ins g7 q.Waiting p,ins ltB q.Known p.Warrant,q.Batches⟩∧QOk x:=by
 unfold j4 at h
 split at h
 ·rename_i c1
  split at h
  ·rename_i c2
   split at h
   ·simp at h
   ·rename_i c3
    split at h
    ·simp at h
    ·rename_i c4
     have hq:=dw.1 c1
     have hp:=(g8 p).1 c2
     have:=hq.lw
     have:=hq.lk
     have hm:∀w,w∈q.Known→w∈ins ltB q.Known p.Warrant:=fun w hw=>fH.2 (.inr hw)
     simp only[Prod.mk.injEq,and_true]at h
     refine⟨hq,hp,c3,by omega,by omega,h.symm,h▸⟨?_,?_,hq.lb,?_,?_,?_,?_⟩⟩
     ·simp only[p9];omega
     ·simp only[p9];omega
     ·intro w hw
      rcases fH.1 hw with rfl|hw
      ·exact hp.warrant
      ·exact hq.kn w hw
     ·refine Ag O4 Int.lt_trans hq.ks fun x hx=>?_
      have:x≠p.Warrant:=fun e=>c3 (e▸hx)
      omega
     ·exact (hq.asc.mono hm).ins hp (fH.2 (.inl rfl)) (hq.nod c3)
     ·exact qI hm hq.bats
  ·simp at h
 ·rename_i c1
  simp only[Prod.mk.injEq]at h
  exact absurd h.2 c1
theorem MT {q x:TQueue} {p:TPayment} (h:dW q p=(x,0)):QOk q∧PayOk p∧p.Warrant∈q.Known∧(∀y,y∈q.Waiting→y.Warrant≠p.Warrant)∧q.Waiting.length<100∧x=⟨ins g7 q.Waiting p,q.Known,q.Batches⟩∧QOk x:=by
 unfold dW at h
 split at h
 ·rename_i c1
  split at h
  ·rename_i c2
   split at h
   ·rename_i c3
    split at h
    ·simp at h
    ·rename_i c4
     split at h
     ·simp at h
     ·rename_i c5
      have hq:=dw.1 c1
      have hp:=(g8 p).1 c2
      have:=hq.lw
      have hn:=rX.1 (show fF q p.Warrant<0 by omega)
      simp only[Prod.mk.injEq,and_true]at h
      refine⟨hq,hp,c3,hn,by omega,h.symm,h▸⟨?_,hq.lk,hq.lb,hq.kn,hq.ks,?_,hq.bats⟩⟩
      ·simp only[p9];omega
      ·exact hq.asc.ins hp c3 hn
   ·simp at h
  ·simp at h
 ·rename_i c1
  simp only[Prod.mk.injEq]at h
  exact absurd h.2 c1
theorem Rd {q x:TQueue} {w:Int} (h:gu q w=(x,0)):QOk q∧(∃p,p∈q.Waiting∧p.Warrant=w)∧x=⟨q.Waiting.eraseIdx (fF q w).toNat,q.Known,q.Batches⟩∧QOk x:=by
 unfold gu at h
 split at h
 ·rename_i c1
  split at h
  ·simp at h
  ·rename_i c2
   have hq:=dw.1 c1
   obtain⟨i,p,h1,h2,h3,h4⟩:=nk c2
   simp only[Prod.mk.injEq,and_true]at h
   refine⟨hq,⟨p,zE h2,h3⟩,h.symm,h▸⟨?_,hq.lk,hq.lb,hq.kn,hq.ks,hq.asc.sub (List.eraseIdx_sublist _ _),hq.bats⟩⟩
   have:=(List.eraseIdx_sublist q.Waiting (fF q w).toNat).length_le
   have:=hq.lw
   simp only
   omega
 ·rename_i c1
  simp only[Prod.mk.injEq]at h
  exact absurd h.2 c1
theorem Ds:∀(M ws:List Int),M.Nodup→(∀x,x∈M→x∈ws)→M.length≤ws.length∧(M.length=ws.length→ws.Nodup∧∀x,x∈ws→x∈M)
 |[],ws,_,_=>⟨by simp,fun h=>by
   have:ws=[]:=wF h.symm
   subst this
   simp⟩
 |a::M,ws,hn,hs=>by
  have ha:=hs a (by simp)
  have hp:=List.perm_cons_erase ha
  rw[List.nodup_cons]at hn
  have hl:ws.length=(ws.erase a).length+1:=hp.length_eq
  obtain⟨i1,i2⟩:=Ds M (ws.erase a) hn.2 fun x hx=>(List.mem_erase_of_ne (fun e=>hn.1 (by rw[←e];exact hx))).2 (hs x (by simp[hx]))
  refine⟨by simp only[wI];omega,fun h=>?_⟩
  simp only[wI]at h
  obtain⟨j1,j2⟩:=i2 (by omega)
  refine⟨hp.nodup_iff.2 (List.nodup_cons.2 ⟨fun hm=>hn.1 (j2 a hm),j1⟩),fun x hx=>?_⟩
  rcases zO.1 (hp.mem_iff.1 hx)with rfl|hx
  ·simp
  ·exact uC _ (j2 x hx)
theorem y9 {l:List TPayment} (h:(l.map (·.Warrant)).Nodup) {p p':TPayment} (hp:p∈l) (hp':p'∈l) (e:p.Warrant=p'.Warrant):p=p':=by
 induction l with
 |nil=>cases hp
 |cons a l ih=>
  rw[wD,List.nodup_cons]at h
  rcases zO.1 hp with e1|hp
  ·rcases zO.1 hp' with e2|hp'
   ·rw[e1,e2]
   ·exact absurd (zV.2 ⟨p',hp',by rw[←e,e1]⟩) h.1
  ·rcases zO.1 hp' with e2|hp'
   ·exact absurd (zV.2 ⟨p,hp,by rw[e,e2]⟩) h.1
   ·exact ih h.2 hp hp'
theorem mW {q:TQueue} {day:Int} {ws:List Int}:EW q day ws=true↔ws.Nodup∧∀w,w∈ws→∃p,p∈q.Waiting∧p.Warrant=w∧p.Due≤day:=by
 simp[EW]
theorem FD {q:TQueue} {day:Int} {ws:List Int} (hn:(q.Waiting.map (·.Warrant)).Nodup) (h:EW q day ws=true):(q.Waiting.filter fun p=>decide (p.Due≤day)).filter (bT ws)=q.Waiting.filter (bT ws):=by
 obtain⟨_,h⟩:=mW.1 h
 rw[List.filter_filter]
 refine List.filter_congr fun p hp=>?_
 cases ht:bT ws p
 ·rfl
 ·obtain⟨p',h1,h2,h3⟩:=h p.Warrant (by simpa[bT]using ht)
  have:=y9 hn h1 hp h2
  subst this
  simp[h3]
theorem RF {q:TQueue} {day:Int} {ws:List Int} (hn:(q.Waiting.map (·.Warrant)).Nodup):((q.Waiting.filter fun p=>decide (p.Due≤day)).filter (bT ws)).length=ws.length↔EW q day ws=true:=by
 have hM:=hn.sublist (((List.filter_sublist (p:=bT ws)).trans (List.filter_sublist (l:=q.Waiting) (p:=fun p=>decide (p.Due≤day)))).map (·.Warrant))
 have hs:∀x,x∈((q.Waiting.filter fun p=>decide (p.Due≤day)).filter (bT ws)).map (·.Warrant)→x∈ws:=fun x hx=>by
  obtain⟨p,hp,rfl⟩:=zV.1 hx
  simpa[bT]using (vS.1 hp).2
 obtain⟨h1,h2⟩:=Ds _ ws hM hs
 rw[wL]at h1 h2
 rw[mW]
 constructor
 ·intro h
  obtain⟨h3,h4⟩:=h2 h
  refine⟨h3,fun w hw=>?_⟩
  obtain⟨p,hp,e⟩:=zV.1 (h4 w hw)
  obtain⟨hp,_⟩:=vS.1 hp
  obtain⟨hp,hd⟩:=vS.1 hp
  exact⟨p,hp,e,by simpa using hd⟩
 ·rintro⟨h3,h4⟩
  have:=h3.length_le_of_subset (l₂:=((q.Waiting.filter fun p=>decide (p.Due≤day)).filter (bT ws)).map (·.Warrant)) fun w hw=>by
   obtain⟨p,hp,e,hd⟩:=h4 w hw
   exact zV.2 ⟨p,vS.2 ⟨vS.2 ⟨hp,by simpa using hd⟩,by simpa[bT,e]using hw⟩,e⟩
  rw[wL]at this
  omega
theorem Dg {q:TQueue} {day:Int} {ws:List Int} (hn:(q.Waiting.map (·.Warrant)).Nodup) (h:EW q day ws=true):(q.Waiting.filter (bT ws)).length=ws.length:=by
 rw[←FD hn h]
 exact (RF hn).2 h
theorem O9 {q x:TQueue} {b:TBatch} {day:Int} {ws:List Int} (h:cK q day ws=(x,b,0)):QOk q∧iG day=true∧fU q≤day∧1≤ws.length∧ws.length≤10∧EW q day ws=true∧x=⟨q.Waiting.filter (fun p=>!bT ws p),q.Known,q.Batches++[qW q day ws]⟩∧b=qW q day ws∧QOk x:=by
 unfold cK at h
 split at h
 ·rename_i c1
  split at h
  ·rename_i c2
   split at h
   ·simp at h
   ·rename_i c3
    split at h
    ·simp at h
    ·rename_i c4
     split at h
     ·simp at h
     ·rename_i c5
      split at h
      ·rename_i c6
       have hq:=dw.1 c1
       simp only[Prod.mk.injEq,and_true]at h
       refine⟨hq,c2,by omega,by omega,by omega,c6,h.1.symm,h.2.symm,h.1▸⟨?_,hq.lk,?_,hq.kn,hq.ks,hq.asc.sub List.filter_sublist,?_⟩⟩
       ·have:=List.length_filter_le (fun p=>!bT ws p) q.Waiting
        have:=hq.lw
        simp only
        omega
       ·simp only[zK,wI,List.length_nil]
        omega
       ·refine qL hq.bats ?_
        have:=Dg hq.asc.nd c6
        simp only[Cj,qW,zG,pB,dH]
        refine⟨zC (by omega),zC ?_,c2,by omega,hq.asc.sub List.filter_sublist⟩
        have:m9 0 q.Batches=fU q:=rfl
        omega
      ·simp at h
  ·simp at h
 ·rename_i c1
  simp only[Prod.mk.injEq]at h
  exact absurd h.2.2 c1
open Go.PA
open Go.RowKit
abbrev fg (l:List TItem):AV:= .list 7 (ao TItem.cells l)
theorem Di (l:List TItem):Imm (fg l):=aY _ TItem.imm _
theorem cIt (x:TItem):x.cells=[iv x.Payment.Warrant,iv x.Payment.Payee,iv x.Payment.Amount,iv x.Payment.Due,iv x.Payment.Sub,iv x.State,iv x.Attempts]:=rfl
theorem eI (c:TItem):Imm (.agg c.cells):=bH.2 c.imm
theorem ba (c:TDesk):Imm (.agg c.cells):=bH.2 c.imm
abbrev cR:TDesk:=⟨lF,bU,[]⟩
def wrt (x:TItem):Int:=x.Payment.Warrant
structure FitD (d:TDesk):Prop where
 s:d.Account.Subs.length≤100000
 e:d.Account.Entries.length≤100000
 q:FitQ d.Queue
 i:d.Items.length≤100000
def fJ (p:TPayment) (e:TEntry):Bool:=decide (e.Ref=p.Warrant)&&(decide (e.From=p.Sub)&&decide (e.To=0))
def inE (p:TPayment) (e:TEntry):Bool:=decide (e.Ref=p.Warrant)&&(decide (e.From=0)&&decide (e.To=p.Sub))
def okE (p:TPayment) (e:TEntry):Bool:=!decide (e.Ref=p.Warrant)||(decide (e.Amount=p.Amount)&&(decide (e.From=p.Sub)&&decide (e.To=0)||decide (e.From=0)&&decide (e.To=p.Sub)))
def iu (x:TItem):Bool:=decide (x.State=2)||decide (x.State=3)
def dZ (x:TItem):Nat:=if iu x=true then 1 else 0
def mj (a:TAccount) (x:TItem):Bool:=a.Entries.all (okE x.Payment)&&(decide ((a.Entries.countP (fJ x.Payment):Int)=x.Attempts)&&decide ((a.Entries.countP (inE x.Payment):Int)+dZ x=x.Attempts))
def dJ (w:Int) (p:TPayment):Bool:=decide (p.Warrant=w)
def AJ (q:TQueue) (w:Int):Nat:=q.Batches.countP fun b=>b.Payments.any (dJ w)
def oJ (q:TQueue) (w:Int):Nat:=(q.Batches.map fun b=>b.Payments.countP (dJ w)).sum
def j7 (q:TQueue) (w:Int):Option TPayment:=q.Waiting.find? (dJ w)
def pR (q:TQueue) (x:TItem):Bool:=match j7 q x.Payment.Warrant with
 |none=>!decide (x.State=1)
 |some w=>decide (x.State=1)&&decide (w=x.Payment)
def B5 (x:TItem):Bool:=amg x.Attempts 0 5&&(!(decide (x.Attempts=5)&&decide (x.State=1))&&!(decide (x.Attempts=0)&&!(decide (x.State=1)||decide (x.State=5))))
def rn (d:TDesk) (x:TItem):Bool:=gx x.Payment&&((bF d.Account x.Payment.Sub).2&&(amg x.State 1 5&&(B5 x&&(pR d.Queue x&&(decide ((oJ d.Queue x.Payment.Warrant:Int)=x.Attempts)&&mj d.Account x)))))
def Dr (d:TDesk):Bool:=decide (d.Items.map wrt=d.Queue.Known)&&d.Items.all (rn d)
def bS (d:TDesk):Int:=if aF d.Account=0 then (if cH d.Queue=0 then (if Dr d=true then 0 else 68)else cH d.Queue)else aF d.Account
def tL (x:TItem):Int:=if x.State=1 then 4 else 5
def kK (x:TItem):Int:=if x.State=1 then 0 else if x.State=5 then 0 else 1
def mq (d:TDesk) (x:TItem):Bool:=(bF d.Account x.Payment.Sub).2&&(gx x.Payment&&(amg x.State 1 5&&(amg x.Attempts (kK x) (tL x)&&(decide (decide (x.Payment∈d.Queue.Waiting)=decide (x.State=1))&&(decide ((AJ d.Queue x.Payment.Warrant:Int)=x.Attempts)&&mj d.Account x)))))
def cz (x:TItem):Bool:=decide (x.State=1)
def N3 (d:TDesk):Bool:=d.Items.all (mq d)&&(decide (d.Items.map wrt=d.Queue.Known)&&decide (d.Items.countP cz=d.Queue.Waiting.length))
theorem S6 {x:TItem}:amg x.Attempts (kK x) (tL x)=B5 x:=by
 unfold B5 tL kK
 by_cases h1:x.State=1
 ·simp only[h1,if_true,decide_true,Bool.and_true,Bool.true_or,Bool.not_true,vM,Bool.not_false,amg]
  rw[Bool.eq_iff_iff]
  simp only[zG,zI,vQ,wH]
  omega
 ·by_cases h5:x.State=5
  ·simp[h5,amg]
  ·simp only[h1,h5,if_false,decide_false,vM,Bool.not_false,zP,Bool.false_or,Bool.and_true,amg]
   rw[Bool.eq_iff_iff]
   simp only[zG,zI,vQ,wH]
   omega
theorem Se {q:TQueue} (h:QOk q) (w:Int):oJ q w=AJ q w:=by
 have each:∀b,b∈q.Batches→(b.Payments.map (·.Warrant)).Nodup:=fun b hb=>(kd h.bats b hb).2.2.1.nd
 have one:∀l:List TPayment,(l.map (·.Warrant)).Nodup→l.countP (dJ w)=if l.any (dJ w)=true then 1 else 0:=by
  intro l
  induction l with
  |nil=>intro _;rfl
  |cons p l ih=>
   intro hn
   rw[wD,List.nodup_cons]at hn
   rw[uF,List.any_cons,ih hn.2]
   by_cases hp:p.Warrant=w
   ·have:l.any (dJ w)=false:=by
     refine List.any_eq_false.2 fun x hx e=>hn.1 (zV.2 ⟨x,hx,?_⟩)
     have:x.Warrant=w:=by simpa[dJ]using e
     omega
    have hw:dJ w p=true:=by simp[dJ,hp]
    rw[this,hw]
    rfl
   ·have:dJ w p=false:=by simp[dJ,hp]
    rw[this]
    simp
 unfold oJ AJ
 revert each
 generalize q.Batches=l
 intro each
 induction l with
 |nil=>rfl
 |cons b l ih=>
  rw[wD,List.sum_cons,uF,ih fun b hb=>each b (uC _ hb),one _ (each b (by simp))]
  omega
theorem Df {l:List TItem} (h:(l.map wrt).Nodup) {x y:TItem} (hx:x∈l) (hy:y∈l) (e:x.Payment.Warrant=y.Payment.Warrant):x=y:=by
 induction l with
 |nil=>cases hx
 |cons a l ih=>
  rw[wD,List.nodup_cons]at h
  rcases zO.1 hx with e1|hx
  ·rcases zO.1 hy with e2|hy
   ·rw[e1,e2]
   ·exact absurd (zV.2 ⟨y,hy,by rw[wrt,←e,e1];rfl⟩) h.1
  ·rcases zO.1 hy with e2|hy
   ·exact absurd (zV.2 ⟨x,hx,by rw[wrt,e,e2];rfl⟩) h.1
   ·exact ih h.2 hx hy
theorem nJ {q:TQueue} {w:Int}:j7 q w=none↔∀p,p∈q.Waiting→p.Warrant≠w:=by
 simp[j7,dJ]
theorem nu {q:TQueue} {w:Int} {p:TPayment} (h:j7 q w=some p):p∈q.Waiting∧p.Warrant=w:=⟨vU h,by simpa[dJ]using List.find?_some h⟩
theorem L0 {q:TQueue} (hn:(q.Waiting.map (·.Warrant)).Nodup) {p:TPayment} (h:p∈q.Waiting):j7 q p.Warrant=some p:=by
 cases hw:j7 q p.Warrant with
 |none=>exact absurd rfl (nJ.1 hw p h)
 |some x=>
  obtain⟨h1,h2⟩:=nu hw
  rw[y9 hn h1 h h2]
theorem nW {l:List Int} (h:l.Pairwise (·<·)):l.Nodup:=h.imp fun h=>by omega
theorem sr {l:List TItem} (h:(l.map wrt).Nodup):∀f:TItem→Bool,(((l.filter f).map (·.Payment)).map (·.Warrant)).Nodup:=fun f=>by
 rw[List.map_map]
 exact h.sublist (List.filter_sublist.map _)
theorem nX {α β:Type} {f:α→β} {l:List α} (h:(l.map f).Nodup):l.Nodup:=(List.pairwise_map.1 h).imp fun hab e=>hab (congrArg f e)
theorem G2 {q:TQueue} {l:List TItem} (hq:QOk q) (hk:l.map wrt=q.Known) (hw:∀x,x∈l→(x.Payment∈q.Waiting↔x.State=1)) (hc:l.countP cz=q.Waiting.length):∀p,p∈q.Waiting→∃x,x∈l∧x.State=1∧x.Payment=p:=by
 have hnk:(l.map wrt).Nodup:=hk▸nW hq.ks
 intro p hp
 by_cases h:p∈(l.filter cz).map (·.Payment)
 ·obtain⟨x,hx,e⟩:=zV.1 h
  obtain⟨h1,h2⟩:=vS.1 hx
  exact⟨x,h1,by simpa[cz]using h2,e⟩
 ·exfalso
  have hn:(p::(l.filter cz).map (·.Payment)).Nodup:=List.nodup_cons.2 ⟨h,nX (sr hnk cz)⟩
  have:=hn.length_le_of_subset (l₂:=q.Waiting) fun y hy=>by
   rcases zO.1 hy with rfl|hy
   ·exact hp
   ·obtain⟨x,hx,rfl⟩:=zV.1 hy
    obtain⟨h1,h2⟩:=vS.1 hx
    exact (hw x h1).2 (by simpa[cz]using h2)
  rw[wI,wL,←List.countP_eq_length_filter]at this
  omega
theorem uk {q:TQueue} {l:List TItem} (hq:QOk q) (hk:l.map wrt=q.Known):((∀x,x∈l→pR q x=true)↔(∀x,x∈l→(x.Payment∈q.Waiting↔x.State=1))∧l.countP cz=q.Waiting.length):=by
 have hnk:(l.map wrt).Nodup:=hk▸nW hq.ks
 have hnd:=hq.asc.nd
 constructor
 ·intro h
  have h1:∀x,x∈l→(x.Payment∈q.Waiting↔x.State=1):=fun x hx=>by
   have:=h x hx
   unfold pR at this
   cases hw:j7 q x.Payment.Warrant with
   |none=>
    rw[hw]at this
    have h1:=nJ.1 hw
    exact⟨fun hm=>absurd rfl (h1 _ hm),fun e=>by simp[e]at this⟩
   |some w=>
    rw[hw]at this
    simp only[zG,zI]at this
    exact⟨fun _=>this.1,fun _=>this.2▸(nu hw).1⟩
  refine⟨h1,?_⟩
  rw[List.countP_eq_length_filter]
  have a:=(nX (sr hnk cz)).length_le_of_subset (l₂:=q.Waiting) fun y hy=>by
   obtain⟨x,hx,rfl⟩:=zV.1 hy
   obtain⟨h2,h3⟩:=vS.1 hx
   exact (h1 x h2).2 (by simpa[cz]using h3)
  have b:=(nX hnd).length_le_of_subset (l₂:=(l.filter cz).map (·.Payment)) fun p hp=>by
   have hw:=hq.asc.kn p hp
   rw[←hk]at hw
   obtain⟨x,hx,e⟩:=zV.1 hw
   have hb:=h x hx
   have e:x.Payment.Warrant=p.Warrant:=e
   rw[pR,e,L0 hnd hp]at hb
   simp only[zG,zI]at hb
   exact zV.2 ⟨x,vS.2 ⟨hx,by simp[cz,hb.1]⟩,hb.2.symm⟩
  rw[wL]at a b
  omega
 ·rintro⟨h,hc⟩ x hx
  have hall:=G2 hq hk h hc
  unfold pR
  cases hw:j7 q x.Payment.Warrant with
  |none=>
   have h1:=nJ.1 hw
   simp only[vQ,wH]
   exact fun e=>h1 _ ((h x hx).2 e) rfl
  |some w=>
   obtain⟨h1,h2⟩:=nu hw
   obtain⟨y,hy,hs,e⟩:=hall w h1
   have:x=y:=Df hnk hx hy (by rw[←h2,e])
   subst this
   simp[hs,e]
theorem Pg {d:TDesk} (hq:QOk d.Queue):N3 d=Dr d:=by
 rw[Bool.eq_iff_iff]
 unfold N3 Dr mq rn
 simp only[zG,zS,zI,S6,Se hq,decide_eq_decide]
 constructor
 ·rintro⟨h1,h2,h3⟩
  have hw:=(uk hq h2).2 ⟨fun x hx=>(h1 x hx).2.2.2.2.1,h3⟩
  exact⟨h2,fun x hx=>⟨(h1 x hx).2.1,(h1 x hx).1,(h1 x hx).2.2.1,(h1 x hx).2.2.2.1,hw x hx,(h1 x hx).2.2.2.2.2⟩⟩
 ·rintro⟨h2,h1⟩
  obtain⟨hw,hc⟩:=(uk hq h2).1 fun x hx=>(h1 x hx).2.2.2.2.1
  exact⟨fun x hx=>⟨(h1 x hx).2.1,(h1 x hx).1,(h1 x hx).2.2.1,(h1 x hx).2.2.2.1,hw x hx,(h1 x hx).2.2.2.2.2⟩,h2,hc⟩
def lv (w:Int) (e:TEntry):Bool:=decide (e.Ref=w)
def jW (a:TAccount):TDesk×Int:=if aF a=0 then (if (a.Entries.any fun e=>!lv 0 e)=true then (cR,68)else (⟨a,bU,[]⟩,0))else (cR,aF a)
def ltI (x y:TItem):Bool:=decide (x.Payment.Warrant<y.Payment.Warrant)
def sy (l:List TItem) (w:Int):Int:=fD (fun x=>decide (x.Payment.Warrant=w)) l
def fw (d:TDesk) (p:TPayment):TDesk×Int:=
 if bS d=0 then (if (j4 d.Queue p).2=0 then (if (bF d.Account p.Sub).2=true then (if d.Account.Entries.any (lv p.Warrant)=true then (cR,65)else (⟨d.Account,(j4 d.Queue p).1,ins ltI d.Items ⟨p,1,0⟩⟩,0))else (cR,60))else (cR,(j4 d.Queue p).2))else (cR,bS d)
structure Done1 where
 a:TAccount
 q:TQueue
 x:TItem
 e:Int
def gq (d:TDesk) (w st:Int) (f:TDesk→TItem→Done1):TDesk×Int:=
 if bS d=0 then (match d.Items[(sy d.Items w).toNat]? with
  |none=>(cR,6)
  |some x=>if sy d.Items w<0 then (cR,6)else if x.State=st then (if (f d x).e=0 then (⟨(f d x).a,(f d x).q,d.Items.set (sy d.Items w).toNat (f d x).x⟩,0)else (cR,(f d x).e))else (cR,67))else (cR,bS d)
def EZ (w:Int) (d:TDesk) (x:TItem):Done1:=⟨d.Account,(gu d.Queue w).1,⟨x.Payment,5,x.Attempts⟩,(gu d.Queue w).2⟩
def SF (d:TDesk) (x:TItem):Done1:=⟨d.Account,d.Queue,⟨x.Payment,3,x.Attempts⟩,0⟩
def yP (w day:Int) (d:TDesk) (x:TItem):Done1:=⟨(bX d.Account (fT d.Account day 0 x.Payment.Sub x.Payment.Amount w)).1,d.Queue,⟨x.Payment,4,x.Attempts⟩,(bX d.Account (fT d.Account day 0 x.Payment.Sub x.Payment.Amount w)).2⟩
def mF (p:TPayment) (due:Int):TPayment:=⟨p.Warrant,p.Payee,p.Amount,due,p.Sub⟩
def uT (due:Int) (d:TDesk) (x:TItem):Done1:=if x.Attempts=5 then⟨d.Account,d.Queue,x,3⟩else⟨d.Account,(dW d.Queue (mF x.Payment due)).1,⟨mF x.Payment due,1,x.Attempts⟩,(dW d.Queue (mF x.Payment due)).2⟩
def jH (d:TDesk) (w:Int):TDesk×Int:=gq d w 1 (EZ w)
def jJ (d:TDesk) (w:Int):TDesk×Int:=gq d w 2 SF
def jG (d:TDesk) (w day:Int):TDesk×Int:=gq d w 2 (yP w day)
def mf (d:TDesk) (w due:Int):TDesk×Int:=gq d w 4 (uT due)
def fA (day:Int):List TPayment→TAccount→List Int→Bool→TAccount×List Int×Bool
 |[],a,ws,full=>(a,ws,full)
 |p::l,a,ws,full=>if ws.length=10 then (a,ws,full)else
  if (bX a (fT a day p.Sub 0 p.Amount p.Warrant)).2=0 then fA day l (bX a (fT a day p.Sub 0 p.Amount p.Warrant)).1 (ws++[p.Warrant]) full else fA day l a ws (full||decide ((bX a (fT a day p.Sub 0 p.Amount p.Warrant)).2=3))
def fE (ws:List Int) (x:TItem):TItem:=if x.Payment.Warrant∈ws then⟨x.Payment,2,x.Attempts+1⟩else x
def cZ (a:TAccount):Int:=(cu a).Day
def goD (d:TDesk) (day:Int):TAccount×List Int×Bool:=fA day (gV d.Queue day) d.Account [] false
def fI (d:TDesk) (day:Int):TDesk×TBatch×Int:=
 if bS d=0 then (if iG day=true then (if day<fU d.Queue∨day<cZ d.Account then (cR,dU,8)else
  if (goD d day).2.1.length=0 then (cR,dU,if (goD d day).2.2=true then 3 else 10)else
  if (cK d.Queue day (goD d day).2.1).2.2=0 then (⟨(goD d day).1,(cK d.Queue day (goD d day).2.1).1,d.Items.map (fE (goD d day).2.1)⟩,(cK d.Queue day (goD d day).2.1).2.1,0)else (cR,dU,(cK d.Queue day (goD d day).2.1).2.2))else (cR,dU,66))else (cR,dU,bS d)
structure DOk (d:TDesk):Prop where
 a:aF d.Account=0
 q:QOk d.Queue
 k:d.Items.map wrt=d.Queue.Known
 i:∀x,x∈d.Items→rn d x=true
theorem fd {d:TDesk}:bS d=0↔DOk d:=by
 unfold bS
 split
 ·rename_i h1
  split
  ·rename_i h2
   split
   ·rename_i h3
    rw[Dr,zG,zI,zS]at h3
    exact⟨fun _=>⟨h1,dw.1 h2,h3.1,h3.2⟩,fun _=>rfl⟩
   ·rename_i h3
    refine⟨fun e=>absurd e (by decide),fun h=>absurd ?_ h3⟩
    rw[Dr,zG,zI,zS]
    exact⟨h.k,h.i⟩
  ·rename_i h2
   exact⟨fun e=>absurd e h2,fun h=>absurd (dw.2 h.q) h2⟩
 ·rename_i h1
  exact⟨fun e=>absurd e h1,fun h=>absurd h.a h1⟩
open Go.PA
open Go.RowKit
theorem FY (n:Int):PFun Tryz.prog none none 116 [iv n] (·=bv (vB n)):=by
 refine ab Tryz.func116 rfl (by simp[Tryz.f116]) (by kernel_rfl) ?_
 intro E hP hr hs hW hN
 by_cases h1:0≤n<;>by_cases h2:n≤1000000000000<;>simp -dsimp -implicitDefEqProofs [go_sem,hP,h1,h2,vB,bu]
theorem oY (n lo hi:Int):PFun Tryz.prog none none 180 [iv n,iv lo,iv hi] (·=bv (bu n lo hi)):=by
 refine ab Tryz.func180 rfl (by simp[Tryz.f180]) (by kernel_rfl) ?_
 intro E hP hr hs hW hN
 by_cases h1:lo≤n<;>by_cases h2:n≤hi<;>simp -dsimp -implicitDefEqProofs [go_sem,hP,h1,h2,bu]
theorem G1 (n:Int):PFun Tryz.prog none none 253 [iv n] (·=bv (decide (0<n)&&vB n)):=by
 refine ab Tryz.func253 rfl (by simp[Tryz.f253]) (by kernel_rfl) ?_
 intro E hP hr hs hW hN
 by_cases h1:0<n
 ·have d1:decide (0<n)=true:=zC h1
  simp -dsimp -implicitDefEqProofs [go_sem,hP,d1]
  refine ai (FY n) hP jZ (ak (by simp -dsimp[go_sem])) .sc ?_
  simp -dsimp -implicitDefEqProofs [go_sem,hP,d1]
 ·simp -dsimp -implicitDefEqProofs [go_sem,hP,h1]
theorem IV (l:List TSub) (hl:l.length≤100000):PFun Tryz.prog none none 118 [bw l] (·=eQ (ids l)):=by
 refine ab Tryz.func118 rfl (by simp[Tryz.f118]) (by kernel_rfl) ?_
 intro E hP hr hs hW hN
 simp -dsimp -implicitDefEqProofs [go_sem,hP]
 refine cV 3 3 1 rfl ?_
 obtain⟨I,hI⟩:∃I:Nat→St→Prop,I=fun m s=>∃k id:Nat,k≤l.length∧m=l.length-k∧s.t 6=bw l∧s.t 7=iv l.length∧s.t 8=iv k∧s.t 3= .sref id 0 k∧s.H[id]?=some (some ⟨3,1,ao eE (ids (l.take k))⟩):=⟨_,rfl⟩
 refine E4 3 hW I (l.length) (by rw[hN];rfl) ?_ ?_
 ·rw[hI]
  exact⟨0,0,by omega,by omega,rfl,rfl,rfl,rfl,by simp -dsimp[-getElem?_pos,go_sem,ids]⟩
 intro m s hs'
 rw[hI]at hs'
 obtain⟨k,id,hk,hm,t6,t7,t8,t3,hH⟩:=hs'
 have hlt:=(gsI hH)
 have hz:(ids (l.take k)).length=k:=by rw[fG];simp;omega
 simp -dsimp -implicitDefEqProofs [go_sem,hP,t7,t8]
 refine aB ?_ ?_<;>intro h
 ·have hk:k<l.length:=by simpa using h
  obtain⟨a,ha⟩:=gkE hk
  have wk:=ae ((k:Int)+1) (by omega)
  have e1:ids (l.take (k+1))=ids (l.take k)++[a.ID]:=by rw[wJ,ha];simp[ids]
  simp -dsimp -implicitDefEqProofs [-getElem?_pos,go_sem,hP,t6,t8,t3,ha,TSub.cells,hH,hz,hlt,wk]
  refine⟨by omega,by omega,?_⟩
  refine⟨l.length-(k+1),by omega,?_⟩
  rw[hI]
  exact⟨k+1,s.H.length+1,by omega,rfl,t6,t7,rfl,rfl,by rw[e1,←aX];simp -dsimp -implicitDefEqProofs [go_sem,eE]⟩
 ·have hk:k=l.length:=by simp at h;omega
  subst hk
  refine frz id _ 3 1 (ao eE (ids l)) t3 (by rw[hH,zT]) (by rw[ar,fG]) (gK _) ?_
  simp -dsimp -implicitDefEqProofs [go_sem,hP]
  exact aw (gK _) rfl
set_option maxHeartbeats 1000000 in
theorem FP (l:List Int) (hl:l.length≤100000):PFun Tryz.prog none none 117 [eQ l] (·=bv (iJ l)):=by
 refine ab Tryz.func117 rfl (by simp[Tryz.f117]) (by kernel_rfl) ?_
 intro E hP hr hs hW hN
 simp -dsimp -implicitDefEqProofs [-getElem?_pos,go_sem,hP]
 obtain⟨I,hI⟩:∃I:Nat→St→Prop,I=fun m s=>∃(k:Nat) (p:Int),k≤l.length∧m=l.length-k∧yp 0 l=yp p (l.drop k)∧(k=0→p=0)∧(∀j x,k=j+1→l[j]?=some x→p=x)∧s.t 0=eQ l∧s.t 5=eQ l∧s.t 6=iv l.length∧s.t 7=iv k:=⟨_,rfl⟩
 refine az I (l.length) (by rw[hN];rfl) ?_ ?_
 ·rw[hI]
  exact⟨0,0,by omega,by omega,by simp,by simp,by omega,rfl,rfl,rfl,rfl⟩
 intro m s hs'
 rw[hI]at hs'
 obtain⟨k,p,hk,hm,hasc,hp0,hp1,t0,t5,t6,t7⟩:=hs'
 simp -dsimp -implicitDefEqProofs [-getElem?_pos,go_sem,hP,t6,t7]
 refine aB ?_ ?_<;>intro h
 ·have hk:k<l.length:=by simpa using h
  obtain⟨x,hx⟩:=gkE hk
  have wk:=ae ((k:Int)+1) (by omega)
  have hdr:l.drop k=x::l.drop (k+1):=by
   obtain⟨h2,h3⟩:=zM.1 hx
   rw[wE h2,h3]
  rw[hdr,yp]at hasc
  have fin:∀s':St,(bu x 1 1000&&decide (p<x))=true→s'.t 0=s.t 0→s'.t 5=s.t 5→s'.t 6=s.t 6→s'.t 7=iv ((k:Int)+1)→∃n',n'<m∧I n' s':=fun s' hc e0 e5 e6 e7=>by
   refine⟨l.length-(k+1),by omega,?_⟩
   rw[hI]
   simp only[zG]at hc
   refine⟨k+1,x,by omega,rfl,by rw[hasc,hc.1,hc.2];simp,by omega,fun j y hj hy=>?_,by rw[e0,t0],by rw[e5,t5],by rw[e6,t6],by rw[e7];simp⟩
   have:j=k:=by omega
   subst this
   rw[hx]at hy
   exact wT hy
  have bad:(bu x 1 1000&&decide (p<x))=false→iJ l=false:=fun h=>by
   rw[iJ,hasc,←Bool.and_assoc (bu _ _ _),h];simp
  simp -dsimp -implicitDefEqProofs [-getElem?_pos,go_sem,hP,t5,t7,hx,eE]
  refine ai (oY x 1 1000) hP AQ (ak (by simp -dsimp[-getElem?_pos,go_sem])) .sc ?_
  by_cases c1:bu x 1 1000=true
  rotate_left
  ·have:iJ l=false:=bad (by simp[c1])
   simp -dsimp -implicitDefEqProofs [-getElem?_pos,go_sem,hP,c1,this]
  rcases wR k with hk0|hkp
  ·have d1:decide (0<k)=false:=zA (by omega)
   simp -dsimp -implicitDefEqProofs [-getElem?_pos,go_sem,hP,c1,d1,t7,wk]
   exact fin _ (by have:=hp0 hk0;have:=jm.1 c1;simp[c1];omega) rfl rfl rfl rfl
  ·obtain⟨j,rfl⟩:∃j,k=j+1:=⟨k-1,by omega⟩
   obtain⟨y,hy⟩:∃y,l[j]?=some y:=⟨_,zF (by omega)⟩
   have d1:decide ((0:Int)<(j:Int)+1)=true:=zC (by omega)
   have wj:=ae ((j:Int)+1-1) (by omega)
   rw[vC]at wj
   have hpy:=hp1 j y rfl hy
   have wk':=ae ((j:Int)+1+1) (by omega)
   by_cases c3:x≤y
   ·have:iJ l=false:=bad (by simp[c1];omega)
    simp -dsimp -implicitDefEqProofs [-getElem?_pos,go_sem,hP,c1,d1,t0,vC,wj,hy,eE,c3,this]
   ·simp -dsimp -implicitDefEqProofs [-getElem?_pos,go_sem,hP,c1,d1,t0,vC,wj,hy,eE,c3,t7,wk']
    exact fin _ (by simp[c1];omega) rfl rfl rfl rfl
 ·have hk:k=l.length:=by simp at h;omega
  subst hk
  rw[wG]at hasc
  have hasc:yp 0 l=true:=hasc
  cases l with
  |nil=>simp -dsimp -implicitDefEqProofs [-getElem?_pos,go_sem,hP,t0,iJ]
  |cons x l=>
   have:iJ (x::l)=decide (x=1):=by rw[iJ,hasc];simp
   simp -dsimp -implicitDefEqProofs [-getElem?_pos,go_sem,hP,t0,this,eE]
structure Teller (H:ah) (p q:Nat) (credit n d:Int) (l:List TSub):Prop where
 ne:p≠q
 obj:H[p]?=some (some ⟨205,4,[[iv credit,iv n,iv d,.sref q 0 l.length]]⟩)
 subs:H[q]?=some (some ⟨117,2,ao TSub.cells l⟩)
theorem Teller.kept {H H':ah} {p q:Nat} {credit n d:Int} {l:List TSub} {X:List Nat} (h:Teller H p q credit n d l) (hk:Kept X H H') (hp:p∉X) (hq:q∉X):Teller H' p q credit n d l:=
 ⟨h.ne,hk _ _ hp h.obj,hk _ _ hq h.subs⟩
theorem Teller.ltp {H:ah} {p q:Nat} {credit n d:Int} {l:List TSub} (h:Teller H p q credit n d l):p<H.length:=(zM.1 h.obj).1
theorem Teller.ltq {H:ah} {p q:Nat} {credit n d:Int} {l:List TSub} (h:Teller H p q credit n d l):q<H.length:=(zM.1 h.subs).1
theorem U3 {row src:Option Nat} (g:FuncId) (fn:Func) (hg:True) (a:TSub) (H:ah) (b:Nat) (id:Int) (hb:H[b]?=some (some ⟨3,1,[[iv id]]⟩)):
  MFun Tryz.prog row src 340 [.agg a.cells,.ref b 0 0] H (fun r H'=>r=bv (decide (a.ID=id))∧Kept [] H H'):=by
 refine aG Tryz.func340 rfl (by simp[Tryz.f340]) (by kernel_rfl) (⟨_,H,rfl,aD _ _⟩) ?_
 intro E hP hr hs hN
 have hlt:=(gsI hb)
 simp -dsimp -implicitDefEqProofs [-getElem?_pos,go_sem,hP,TSub.cells,hb,hlt]
 exact fB _ (aD _ _)
theorem KV {row src:Option Nat} {H:ah} {p q:Nat} {credit n d:Int} {l:List TSub} (h:Teller H p q credit n d l) (hl:l.length≤100000) (id:Int):
  MFun Tryz.prog row src 300 [.ref p 0 0,iv id] H (fun r H'=>r=iv (fO l id)∧Kept [] H H'):=by
 refine aG Tryz.func300 rfl (by simp[Tryz.f300]) (by kernel_rfl) (⟨_,H,rfl,aD _ _⟩) ?_
 intro E hP hr hs hN
 have ho:=h.obj
 have hlt:=h.ltp
 simp -dsimp -implicitDefEqProofs [-getElem?_pos,go_sem,hP,ho,hlt]
 refine aI (by rw[hr,hs];exact xn l (.sref q 0 l.length) _ 340 [.ref H.length 0 0] (fun s=>decide (s.ID=id)) (.inr (.inr ⟨q,117,by rw[ar],by rw[zD h.ltq];exact h.subs⟩)) (by omega) UC (fun a _ H' hk=>U3 0 default trivial a H' _ id (hk _ _ (by simp) (by simp)))) hP QJ ?_
 rintro r H' ⟨rfl,hk⟩
 simp -dsimp -implicitDefEqProofs [go_sem,hP]
 exact⟨rfl,(fB _ (aD _ _)).trans hk⟩
theorem KY {row src:Option Nat} {H:ah} {p q:Nat} {credit n d:Int} {l:List TSub} (h:Teller H p q credit n d l) (hl:l.length≤100000) (id:Int):
  MFun Tryz.prog row src 254 [.ref p 0 0,iv id] H (fun r H'=>r=bv (jr l id)∧Kept [] H H'):=by
 refine aG Tryz.func254 rfl (by simp[Tryz.f254]) (by kernel_rfl) (⟨_,H,rfl,aD _ _⟩) ?_
 intro E hP hr hs hN
 by_cases h0:id=0
 ·have d0:decide (id=0)=true:=zC h0
  simp -dsimp -implicitDefEqProofs [go_sem,hP,d0,jr]
  exact aD _ _
 ·simp -dsimp -implicitDefEqProofs [go_sem,hP,h0,jr]
  refine aI (by rw[hr,hs];exact KV h hl id) hP OC ?_
  rintro r H' ⟨rfl,hk⟩
  simp -dsimp -implicitDefEqProofs [go_sem,hP,h0,jr]
  exact hk
theorem Dj {H H':ah} {X:List Nat} {p q:Nat} {o o':AObj} (hk:Kept X H H') (hp:H[p]?=some (some o)) (hq:H[q]?=some (some o')) (np:p∉X) (nq:q∉X):Agree (fun i=>decide (i=p)||decide (i=q)) H H':=fun i hi=>by
 simp only[wZ,zI]at hi
 rcases hi with rfl|rfl
 ·rw[hp,hk _ _ np hp]
 ·rw[hq,hk _ _ nq hq]
theorem TS {row src:Option Nat} {H:ah} {p q:Nat} {credit n d:Int} {l:List TSub} (h:Teller H p q credit n d l) (hl:l.length≤100000) (hc:0≤credit∧credit≤1000000000000) (hn:(ids l).Nodup) (h0:0∉ids l) (hok:jU credit l=true)
  (id amt:Int) (hid:id=0∨id∈ids l) (ham: -1000000000000≤amt∧amt≤1000000000000):
  MFun Tryz.prog row src 255 [.ref p 0 0,iv id,iv amt] H (fun r H'=>r=bv (fc credit (adj l id amt) id)∧Teller H' p q credit n d (adj l id amt)∧Kept [q] H H'):=by
 have hadj:(adj l id amt).length=l.length:=bm _ _ _
 refine aG Tryz.func255 rfl (by simp[Tryz.f255]) (by kernel_rfl) (⟨_,H.set q (some ⟨117,2,ao TSub.cells (adj l id amt)⟩),rfl,⟨h.ne,by rw[zH h.ne.symm,hadj];exact h.obj,by rw[wK h.ltq]⟩,cL _ (by simp) (aD _ _)⟩) ?_
 intro E hP hr hs hN
 by_cases hz:id=0
 ·subst hz
  have e1:adj l 0 amt=l:=si h0
  have e2:fc credit l 0=true:=qq h0
  simp -dsimp -implicitDefEqProofs [-getElem?_pos,go_sem,hP,e1,e2]
  exact⟨h,aD _ _⟩
 have hm:id∈ids l:=hid.resolve_left hz
 have ho:=h.obj
 have hlt:=h.ltp
 rcases jK l id with⟨_,h2⟩|⟨i,a,hi,ha,hp,_⟩
 ·exact absurd hm h2
 simp -dsimp -implicitDefEqProofs [-getElem?_pos,go_sem,hP,hz,ho,hlt]
 have hq:=h.subs
 refine aq (fun i=>decide (i=p)||decide (i=q)) [] hP (by kernel_rfl) (by kernel_rfl) ?_
 simp -dsimp -implicitDefEqProofs [-getElem?_pos,go_sem,hP,ho,hlt,aS]
 refine aI (by rw[hr,hs];exact KV h hl id) hP OC ?_
 rintro r H' ⟨rfl,hk⟩
 simp -dsimp -implicitDefEqProofs [-getElem?_pos,go_sem,hP,hp]
 have h':=h.kept hk (by simp) (by simp)
 have ho':=h'.obj
 have hq':=h'.subs
 have hil:=(gsI hi)
 have hlq:=h'.ltq
 have hlp:=h'.ltp
 have hne:¬q=p:=fun e=>h.ne e.symm
 have bnd:=s9 hc (zS.1 hok a (zE hi))
 have wa:=ae (a.Balance+amt) (by omega)
 have set1:(ao TSub.cells l).set i [iv a.ID,iv (a.Balance+amt)]=ao TSub.cells (adj l id amt):=by
  rw[←ha,←sM hn hi,←kR]
  rfl
 have g1:(adj l id amt)[i]?=some ⟨a.ID,a.Balance+amt⟩:=by rw[ka,hi,←ha];simp
 have o1:fc credit (adj l id amt) id=fC credit ⟨a.ID,a.Balance+amt⟩:=by
  rw[←ha]at g1⊢
  exact pQ (by rw[fR];exact hn) g1
 have fin:∀H'',Kept [] (H'.set q (some ⟨117,2,ao TSub.cells (adj l id amt)⟩)) H''→Teller H'' p q credit n d (adj l id amt)∧Kept [q] H H'':=fun H'' hk2=>by
  have t:Teller (H'.set q (some ⟨117,2,ao TSub.cells (adj l id amt)⟩)) p q credit n d (adj l id amt):=⟨h.ne,by rw[zH h.ne.symm,hadj];exact ho',by rw[wK hlq]⟩
  exact⟨t.kept hk2 (by simp) (by simp),(cL _ (by simp) (hk.mono (by simp))).trans (hk2.mono (by simp))⟩
 simp -dsimp -implicitDefEqProofs [-getElem?_pos,go_sem,hP,hz,aS,hq',hil]
 refine⟨Dj hk ho hq (by simp) (by simp),?_⟩
 by_cases h1:id=1
 ·have d1:decide (id=1)=true:=zC h1
  have wn:=ae (-credit) (by omega)
  simp -dsimp -implicitDefEqProofs [-getElem?_pos,go_sem,hP,hp,hil,hq',hi,TSub.cells,wa,hlq,set1,d1,ho',hne,hlp,wn,g1]
  refine ai (oY (a.Balance+amt) (-credit) 1000000000000000) hP AQ (ak (by simp -dsimp[-getElem?_pos,go_sem])) .sc ?_
  simp -dsimp -implicitDefEqProofs [-getElem?_pos,go_sem,hP]
  refine⟨?_,fin _ (aD _ _)⟩
  rw[o1]
  simp[fC,bu,ha,h1]
 ·simp -dsimp -implicitDefEqProofs [-getElem?_pos,go_sem,hP,hp,hil,hq',hi,TSub.cells,wa,hlq,set1,h1,g1]
  refine ai (oY (a.Balance+amt) 0 1000000000000000) hP AQ (ak (by simp -dsimp[-getElem?_pos,go_sem])) .sc ?_
  simp -dsimp -implicitDefEqProofs [-getElem?_pos,go_sem,hP]
  refine⟨?_,fin _ (aD _ _)⟩
  rw[o1]
  simp[fC,bu,ha,h1]
set_option maxHeartbeats 1000000 in
theorem SB {row src:Option Nat} {H:ah} {p q:Nat} {credit n d:Int} {l:List TSub} (h:Teller H p q credit n d l) (hl:l.length≤100000) (hc:0≤credit∧credit≤1000000000000) (hn:(ids l).Nodup) (h0:0∉ids l) (hok:jU credit l=true)
  (hnn:0≤n∧n≤100000) (e:TEntry):
  MFun Tryz.prog row src 182 [.ref p 0 0,.agg e.cells] H (fun r H'=>r=iv (aV credit n d l e).1∧((aV credit n d l e).1=0→Teller H' p q credit e.Number e.Day (aV credit n d l e).2)∧Kept [p,q] H H'):=by
 have post:∃r H',r=iv (aV credit n d l e).1∧((aV credit n d l e).1=0→Teller H' p q credit e.Number e.Day (aV credit n d l e).2)∧Kept [p,q] H H':=
  ⟨_,(H.set q (some ⟨117,2,ao TSub.cells (aV credit n d l e).2⟩)).set p (some ⟨205,4,[[iv credit,iv e.Number,iv e.Day,.sref q 0 (aV credit n d l e).2.length]]⟩),rfl,fun _=>⟨h.ne,by rw[wK (by simp;exact h.ltp)],by rw[zH h.ne,wK h.ltq]⟩,cL _ (by simp) (cL _ (by simp) (aD _ _))⟩
 obtain⟨C,hC⟩:∃C:AV→ah→Prop,C=fun r H'=>r=iv (aV credit n d l e).1∧((aV credit n d l e).1=0→Teller H' p q credit e.Number e.Day (aV credit n d l e).2)∧Kept [p,q] H H':=⟨_,rfl⟩
 rw[←hC]
 have post:∃r H',C r H':=hC▸post
 refine aG Tryz.func182 rfl (by simp[Tryz.f182]) (by kernel_rfl) (post) ?_
 intro E hP hr hs hN
 have ho:=h.obj
 have hlt:=h.ltp
 have wn:=ae (n+1) (by omega)
 have bad:∀(c:Int) (H'':ah),(aV credit n d l e).1=c→c≠0→Kept [p,q] H H''→C (iv c) H'':=fun c H'' h1 h2 h3=>by
  rw[hC]
  exact⟨by rw[h1],fun h4=>absurd (h1.symm.trans h4) h2,h3⟩
 have kb:=fB (X:=[p,q]) (some ⟨79,6,[[iv e.Number,iv e.Day,iv e.From,iv e.To,iv e.Amount,iv e.Ref]]⟩) (aD [p,q] H)
 have hB:Teller (H++[some ⟨79,6,[[iv e.Number,iv e.Day,iv e.From,iv e.To,iv e.Amount,iv e.Ref]]⟩]) p q credit n d l:=h.kept (X:=[]) (fB _ (aD _ _)) (by simp) (by simp)
 simp -dsimp -implicitDefEqProofs [go_sem,hP,cE]
 refine aq (fun _=>true) [] hP (by kernel_rfl) (by kernel_rfl) ?_
 simp -dsimp -implicitDefEqProofs [-getElem?_pos,go_sem,hP,ho,hlt,wn]
 by_cases c1:e.Number=n+1
 rotate_left
 ·have b1:mB n e=true:=by simp[mB,c1]
  simp -dsimp -implicitDefEqProofs [go_sem,hP,c1]
  exact bad 65 _ (by rw[aV,if_pos b1]) (by omega) kb
 have b1:¬mB n e=true:=by simp[mB,c1]
 have d1:decide (e.Number=n+1)=true:=zC c1
 simp -dsimp -implicitDefEqProofs [go_sem,hP,d1]
 refine aq (fun _=>true) [] hP (by kernel_rfl) (by kernel_rfl) ?_
 simp -dsimp -implicitDefEqProofs [-getElem?_pos,go_sem,hP,ho,hlt]
 refine ai (oY e.Day d 36000) hP AQ (ak (by simp -dsimp[go_sem])) .sc ?_
 by_cases c2:bu e.Day d 36000=true
 rotate_left
 ·have b2:j5 d e=true:=by simp[j5,c2]
  simp -dsimp -implicitDefEqProofs [go_sem,hP,c2,rQ]
  exact bad 8 _ (by rw[aV,if_neg b1,if_pos b2]) (by omega) kb
 have b2:¬j5 d e=true:=by simp[j5,c2]
 simp -dsimp -implicitDefEqProofs [go_sem,hP,c2,rQ]
 refine ai (G1 e.Amount) hP Ur (ak (by simp -dsimp[go_sem])) .sc ?_
 by_cases c3:(decide (0<e.Amount)&&vB e.Amount)=true
 rotate_left
 ·have b3:kP e=true:=by simp[kP,c3]
  have c3:(decide (0<e.Amount)&&vB e.Amount)=false:=by simpa using c3
  simp -dsimp -implicitDefEqProofs [go_sem,hP,c3]
  exact bad 2 _ (by rw[aV,if_neg b1,if_neg b2,if_pos b3]) (by omega) kb
 simp -dsimp -implicitDefEqProofs [go_sem,hP,c3]
 refine ai (oY e.Ref 0 1000000) hP AQ (ak (by simp -dsimp[go_sem])) .sc ?_
 by_cases c4:bu e.Ref 0 1000000=true
 rotate_left
 ·have b3:kP e=true:=by simp[kP,c4]
  simp -dsimp -implicitDefEqProofs [go_sem,hP,c3,c4]
  exact bad 2 _ (by rw[aV,if_neg b1,if_neg b2,if_pos b3]) (by omega) kb
 have b3:¬kP e=true:=by simp[kP,c3,c4]
 have am:0<e.Amount∧e.Amount≤1000000000000:=by
  simp only[zG,zI,vB,jm]at c3
  omega
 have p60:eC l e=true→(aV credit n d l e).1=60:=fun h=>by rw[aV,if_neg b1,if_neg b2,if_neg b3,if_pos h]
 simp -dsimp -implicitDefEqProofs [go_sem,hP,c3,c4]
 by_cases c5:e.From=e.To
 ·have d5:decide (e.From=e.To)=true:=zC c5
  simp -dsimp -implicitDefEqProofs [go_sem,hP,d5]
  exact bad 60 _ (p60 (by simp[eC,c5])) (by omega) kb
 simp -dsimp -implicitDefEqProofs [go_sem,hP,c5]
 refine aI (by rw[hr,hs];exact KY hB hl e.From) hP Po ?_
 rintro r H1 ⟨rfl,hk1⟩
 have h1:=hB.kept hk1 (by simp) (by simp)
 have o1:=hk1 H.length ⟨79,6,[[iv e.Number,iv e.Day,iv e.From,iv e.To,iv e.Amount,iv e.Ref]]⟩ (by simp) (by simp)
 have l1:=(gsI o1)
 by_cases c6:jr l e.From=true
 rotate_left
 ·simp -dsimp -implicitDefEqProofs [go_sem,hP,c5,c6]
  exact bad 60 _ (p60 (by simp[eC,c6])) (by omega) (kb.trans (hk1.mono (by simp)))
 simp -dsimp -implicitDefEqProofs [-getElem?_pos,go_sem,hP,c5,c6,o1,l1]
 refine aI (by rw[hr,hs];exact KY h1 hl e.To) hP Po ?_
 rintro r H2 ⟨rfl,hk2⟩
 have h2:=h1.kept hk2 (by simp) (by simp)
 have o2:=hk2 _ _ (by simp) o1
 have l2:=(gsI o2)
 have k2:=kb.trans ((hk1.trans hk2).mono (Y:=[p,q]) (by simp))
 by_cases c7:jr l e.To=true
 rotate_left
 ·simp -dsimp -implicitDefEqProofs [go_sem,hP,c5,c6,c7]
  exact bad 60 _ (p60 (by simp[eC,c7])) (by omega) k2
 have b4:¬eC l e=true:=by simp[eC,c5,c6,c7]
 have pS:aV credit n d l e=if fc credit (adj l e.From (-e.Amount)) e.From=false then (61,adj l e.From (-e.Amount))else
   if fc credit (adj (adj l e.From (-e.Amount)) e.To e.Amount) e.To=false then (61,adj (adj l e.From (-e.Amount)) e.To e.Amount)else (0,adj (adj l e.From (-e.Amount)) e.To e.Amount):=by
  rw[aV,if_neg b1,if_neg b2,if_neg b3,if_neg b4]
 have wa:=ae (-e.Amount) (by omega)
 simp -dsimp -implicitDefEqProofs [-getElem?_pos,go_sem,hP,c5,c6,c7,o2,l2,wa]
 refine aI (by rw[hr,hs];exact TS h2 hl hc hn h0 hok e.From (-e.Amount) ((n8 _ _).1 c6) (by omega)) hP Rf ?_
 rintro r H3 ⟨rfl,h3,hk3⟩
 have nq:¬H.length=q:=by have:=h.ltq;omega
 have np:¬H.length=p:=by have:=h.ltp;omega
 have o3:=hk3 _ _ (by simp[nq]) o2
 have l3:=(gsI o3)
 have k3:=k2.trans (hk3.mono (Y:=[p,q]) (by simp))
 by_cases c8:fc credit (adj l e.From (-e.Amount)) e.From=true
 rotate_left
 ·have c8:fc credit (adj l e.From (-e.Amount)) e.From=false:=by simpa using c8
  simp -dsimp -implicitDefEqProofs [go_sem,hP,c8]
  exact bad 61 _ (by rw[pS,if_pos c8]) (by omega) k3
 rw[if_neg (by simp[c8])]at pS
 simp -dsimp -implicitDefEqProofs [-getElem?_pos,go_sem,hP,c8,o3,l3]
 refine aI (by rw[hr,hs];exact TS h3 (by rw[bm];omega) hc (by rw[fR];exact hn) (by rw[fR];exact h0) (ux hok c8) e.To e.Amount (by rw[fR];exact (n8 _ _).1 c7) (by omega)) hP Rf ?_
 rintro r H4 ⟨rfl,h4,hk4⟩
 have o4:=hk4 _ _ (by simp[nq]) o3
 have l4:=(gsI o4)
 have k4:=k3.trans (hk4.mono (Y:=[p,q]) (by simp))
 by_cases c9:fc credit (adj (adj l e.From (-e.Amount)) e.To e.Amount) e.To=true
 rotate_left
 ·have c9:fc credit (adj (adj l e.From (-e.Amount)) e.To e.Amount) e.To=false:=by simpa using c9
  simp -dsimp -implicitDefEqProofs [go_sem,hP,c8,c9]
  exact bad 61 _ (by rw[pS,if_pos c9]) (by omega) k4
 rw[if_neg (by simp[c9])]at pS
 have ho4:=h4.obj
 have hp4:=h4.ltp
 simp -dsimp -implicitDefEqProofs [go_sem,hP,c8,c9]
 refine aq (fun i=>decide (i=H.length)) [6,7,9,10,11] hP (by kernel_rfl) (by kernel_rfl) ?_
 simp -dsimp -implicitDefEqProofs [-getElem?_pos,go_sem,hP,o4,l4,ho4,hp4]
 refine⟨fun i hi=>?_,?_⟩
 ·simp only[zI]at hi
  subst hi
  rw[zH (Ne.symm np)]
 rw[hC,pS]
 refine⟨rfl,fun _=>⟨h.ne,by rw[wK hp4],by rw[zH h.ne];exact h4.subs⟩,cL _ (by simp) k4⟩
set_option maxHeartbeats 1000000 in
theorem SO {row src:Option Nat} (a:TAccount) (H:ah) (hl:a.Subs.length≤100000) (hne:a.Subs≠[]):
  MFun Tryz.prog row src 181 [.agg a.cells] H (fun r H'=>∃p q,r= .ref p 0 0∧H.length≤p∧H.length≤q∧Teller H' p q a.Credit 0 0 (cC a.Subs)∧Kept [] H H'):=by
 obtain⟨C,hC⟩:∃C:AV→ah→Prop,C=fun r H'=>∃p q,r= .ref p 0 0∧H.length≤p∧H.length≤q∧Teller H' p q a.Credit 0 0 (cC a.Subs)∧Kept [] H H':=⟨_,rfl⟩
 rw[←hC]
 have ex:∃r H',C r H':=⟨.ref H.length 0 0,H++[some ⟨205,4,[[iv a.Credit,iv 0,iv 0,.sref (H.length+1) 0 (cC a.Subs).length]]⟩,some ⟨117,2,ao TSub.cells (cC a.Subs)⟩],by
  rw[hC]
  exact⟨H.length,H.length+1,rfl,zZ _,by omega,⟨by omega,by simp,by rw[zN (by omega)];simp⟩,bN _ _ _⟩⟩
 refine aG Tryz.func181 rfl (by simp[Tryz.f181]) (by kernel_rfl) (ex) ?_
 intro E hP hr hs hN
 simp -dsimp -implicitDefEqProofs [go_sem,hP,cA]
 obtain⟨I,hI⟩:∃I:Nat→St→Prop,I=fun m s=>∃(k:Nat) (x:AV),k≤a.Subs.length∧m=a.Subs.length-k∧s.t 3= .ref (H.length+1) 0 0∧s.t 11=bw a.Subs∧s.t 12=iv a.Subs.length∧s.t 13=iv k∧s.H[H.length+1]?=some (some ⟨205,4,[[iv a.Credit,iv 0,iv 0,x]]⟩)∧Grown (H.length+2) s.H x 117 2 (ao TSub.cells (cC (a.Subs.take k)))∧Kept [] H s.H:=⟨_,rfl⟩
 refine az I (a.Subs.length) (by rw[hN];rfl) ?_ ?_
 ·rw[hI]
  exact⟨0,.nil,by omega,by omega,rfl,rfl,rfl,rfl,by simp -dsimp[-getElem?_pos,go_sem],.inl ⟨rfl,rfl⟩,by simp -dsimp[go_sem];exact bN _ _ _⟩
 intro m s hs'
 rw[hI]at hs'
 obtain⟨k,x,hk,hm,t3,t11,t12,t13,h1,hg,hK⟩:=hs'
 have lt1:=(gsI h1)
 simp -dsimp -implicitDefEqProofs [go_sem,hP,t12,t13]
 refine aB ?_ ?_<;>intro h
 ·have hk:k<a.Subs.length:=by simpa using h
  obtain⟨y,hy⟩:=gkE hk
  have wk:=ae ((k:Int)+1) (by omega)
  have e1:cC (a.Subs.take (k+1))=cC (a.Subs.take k)++[⟨y.ID,0⟩]:=by rw[wJ,hy];simp[cC]
  have nl:(cC (a.Subs.take k)).length=k:=by rw[ng,zY];omega
  simp -dsimp -implicitDefEqProofs [go_sem,hP,t11,t13,hy,TSub.cells]
  rcases hg with⟨rfl,hg⟩|⟨id,h2,rfl,hg⟩
  ·refine aq (fun i=>decide (i=H.length+1)||decide (i=s.H.length)) [12] hP (by kernel_rfl) (by kernel_rfl) ?_
   simp -dsimp -implicitDefEqProofs [-getElem?_pos,go_sem,hP,t3,h1,lt1,t13,wk]
   refine⟨fun i hi=>?_,a.Subs.length-(k+1),by omega,?_⟩
   ·simp only[wZ,zI]at hi
    rcases hi with rfl|rfl<;>simp[-getElem?_pos,List.getElem?_append,lt1]<;>rfl
   rw[hI]
   refine⟨k+1,.sref (s.H.length+1) 0 1,by omega,rfl,t3,t11,t12,rfl,by simp -dsimp[-getElem?_pos,go_sem,lt1],.inr ⟨s.H.length+1,by omega,?_,?_⟩,?_⟩
   ·rw[e1,←aX,hg];rfl
   ·rw[e1,←aX,hg]
    simp -dsimp -implicitDefEqProofs [go_sem,TSub.cells]
   ·simp -dsimp -implicitDefEqProofs [go_sem]
    exact (tJ _ (by omega) hK).trans (bN _ _ _)
  ·have ne1:¬id=H.length+1:=by omega
   have lti:=(gsI hg)
   have ne2:¬id=s.H.length:=by omega
   refine aq (fun i=>decide (i=H.length+1)||decide (i=s.H.length)) [12] hP (by kernel_rfl) (by kernel_rfl) ?_
   simp -dsimp -implicitDefEqProofs [-getElem?_pos,go_sem,hP,t3,h1,lt1,t13,wk,hg,lti,ne1,nl]
   refine⟨by omega,by omega,fun i hi=>?_,a.Subs.length-(k+1),by omega,?_⟩
   ·simp only[wZ,zI]at hi
    rcases hi with rfl|rfl<;>simp[-getElem?_pos,List.getElem?_append,wO,lt1,ne1,ne2]<;>rfl
   rw[hI]
   refine⟨k+1,.sref (s.H.length+1) 0 (k+1),by omega,rfl,t3,t11,t12,rfl,by simp -dsimp[-getElem?_pos,go_sem,lt1,ne1],.inr ⟨s.H.length+1,by omega,?_,?_⟩,?_⟩
   ·rw[ar,ng,zY]
    congr 1
    omega
   ·rw[e1,←aX]
    simp -dsimp -implicitDefEqProofs [go_sem,TSub.cells]
   ·simp -dsimp -implicitDefEqProofs [go_sem]
    exact ((tJ _ (by omega) (tJ _ (by omega) hK)).trans (bN _ _ _))
 ·have hk:k=a.Subs.length:=by simp at h;omega
  subst hk
  rw[zT]at hg
  simp -dsimp -implicitDefEqProofs [go_sem,hP,t3]
  rw[hC]
  rcases hg with⟨rfl,hg⟩|⟨id,h2,rfl,hg⟩
  ·exfalso
   apply hne
   have:=congrArg List.length hg
   rw[ar,ng]at this
   exact wF this
  ·exact⟨H.length+1,id,rfl,by omega,by omega,⟨by omega,by rw[h1,ar],hg⟩,hK⟩
open Go.PA
open Go.RowKit
theorem LZ {H H' H'':ah} {X:List Nat} (h:Kept [] H H') (k:Kept X H' H'') (hX:∀i,i∈X→H.length≤i):Kept [] H H'':=fun j o _ ho=>by
 refine k j o (fun hj=>?_) (h j o (by simp) ho)
 have:=hX j hj
 have:=(gsI ho)
 omega
def kg (a:TAccount) (w:TEntry→Bool):Option (Int×Int×List TSub):=bD a.Credit 0 0 (cC a.Subs) (a.Entries.takeWhile w)
set_option maxHeartbeats 1000000 in
theorem Qh {row src:Option Nat} (a:TAccount) (H:ah) (g:FuncId) (caps:List AV) (w:TEntry→Bool) (hl:a.Subs.length≤100000) (he:a.Entries.length≤100000) (hne:a.Subs≠[]) (hc:0≤a.Credit∧a.Credit≤1000000000000) (hn:(ids a.Subs).Nodup) (h0:0∉ids a.Subs)
  (hen:aa Tryz.prog g=true) (hg:∀e,e∈a.Entries→∀H',Kept [] H H'→MFun Tryz.prog row src g (.agg e.cells::caps) H' (fun r H''=>r=bv (w e)∧Kept [] H' H'')):
  MFun Tryz.prog row src 119 [.agg a.cells,.fn g caps] H (fun r H'=>∃p q,r= .tup [.ref p 0 0,bv (kg a w).isSome]∧H.length≤p∧H.length≤q∧(∀x,kg a w=some x→Teller H' p q a.Credit x.1 x.2.1 x.2.2)∧Kept [] H H'):=by
 obtain⟨C,hC⟩:∃C:AV→ah→Prop,C=fun r H'=>∃p q,r= .tup [.ref p 0 0,bv (kg a w).isSome]∧H.length≤p∧H.length≤q∧(∀x,kg a w=some x→Teller H' p q a.Credit x.1 x.2.1 x.2.2)∧Kept [] H H':=⟨_,rfl⟩
 rw[←hC]
 obtain⟨R,hR⟩:∃R,R=kg a w:=⟨_,rfl⟩
 rw[←hR]at hC
 have ex:∃r H',C r H':=by
  rw[hC]
  cases R with
  |none=>exact⟨_,H,H.length,H.length,rfl,zZ _,zZ _,by simp,aD _ _⟩
  |some x=>exact⟨_,H++[some ⟨205,4,[[iv a.Credit,iv x.1,iv x.2.1,.sref (H.length+1) 0 x.2.2.length]]⟩,some ⟨117,2,ao TSub.cells x.2.2⟩],H.length,H.length+1,rfl,zZ _,by omega,fun y hy=>by
    simp only[zB]at hy
    subst hy
    exact⟨by omega,by simp,by rw[zN (by omega)];simp⟩,bN _ _ _⟩
 refine aG Tryz.func119 rfl (by simp[Tryz.f119]) (by kernel_rfl) (ex) ?_
 intro E hP hr hs hN
 have ia:Imm (.agg [iv a.Credit,bw a.Subs,cU a.Entries]):=cQ a
 have fr:=fun (row src:Option Nat) (H:ah)=>SO (row:=row) (src:=src) a H hl hne
 rw[cA]at fr
 simp -dsimp -implicitDefEqProofs [go_sem,hP,cA]
 refine aI (fr _ _ _) hP VC ?_
 rintro r H1 ⟨p,q,rfl,hp,hq,ht,hk1⟩
 have ob:=hk1 H.length ⟨28,3,[[iv a.Credit,bw a.Subs,cU a.Entries]]⟩ (by simp) (by simp)
 have lb:=(gsI ob)
 rw[zK,vN]at hp hq
 simp -dsimp -implicitDefEqProofs [-getElem?_pos,go_sem,hP,ob,lb]
 obtain⟨I,hI⟩:∃I:Nat→St→Prop,I=fun m s=>∃(k:Nat) (d:Int) (l:List TSub),k≤a.Entries.length∧m=a.Entries.length-k∧R=bD a.Credit k d l ((a.Entries.drop k).takeWhile w)∧jU a.Credit l=true∧ids l=ids a.Subs∧Teller s.H p q a.Credit k d l∧Kept [] H s.H∧s.t 1= .fn g caps∧s.t 6= .ref p 0 0∧s.t 12=cU a.Entries∧s.t 13=iv a.Entries.length∧s.t 14=iv k:=⟨_,rfl⟩
 refine az I (a.Entries.length) (by rw[hN];rfl) ?_ ?_
 ·rw[hI]
  exact⟨0,0,cC a.Subs,by omega,by omega,by rw[hR];simp[kg],m8 hc.1 _,qr _,by simp -dsimp[go_sem];exact ht,by simp -dsimp[go_sem];exact (bN _ _ _).trans hk1,rfl,rfl,rfl,rfl,rfl⟩
 clear ht hk1 ob lb
 intro m s hs'
 rw[hI]at hs'
 obtain⟨k,d,l,hk,hm,hRr,hok,hids,ht,hK,t1,t6,t12,t13,t14⟩:=hs'
 have fin:∀b:Bool,R.isSome=b→(∀x,R=some x→Teller s.H p q a.Credit x.1 x.2.1 x.2.2)→C (.tup [.ref p 0 0,bv b]) s.H:=fun b hb hx=>by
  rw[hC]
  exact⟨p,q,by rw[hb],by omega,by omega,hx,hK⟩
 simp -dsimp -implicitDefEqProofs [go_sem,hP,t13,t14]
 refine aB ?_ ?_<;>intro h
 ·have hk:k<a.Entries.length:=by simpa using h
  obtain⟨e,hee⟩:=gkE hk
  have wk:=ae ((k:Int)+1) (by omega)
  have hd:a.Entries.drop k=e::a.Entries.drop (k+1):=by
   rw[zF hk]at hee
   rw[wE hk,wT hee]
  rw[hd]at hRr
  have hge:=hg e (zE hee) _ (hK.trans (fB (some ⟨79,6,[[iv e.Number,iv e.Day,iv e.From,iv e.To,iv e.Amount,iv e.Ref]]⟩) (aD _ s.H)))
  rw[cE]at hge
  simp -dsimp -implicitDefEqProofs [go_sem,hP,t12,t14,hee,cE,t1]
  refine aI (by rw[hr,hs];exact hge) hP hen ?_
  rintro r H2 ⟨rfl,hk2⟩
  have o2:=hk2 s.H.length ⟨79,6,[[iv e.Number,iv e.Day,iv e.From,iv e.To,iv e.Amount,iv e.Ref]]⟩ (by simp) (by simp)
  have l2:=(gsI o2)
  have k2:Kept [] s.H H2:=(bN _ _ _).trans hk2
  by_cases hw:w e=true
  rotate_left
  ·rw[List.takeWhile_cons_of_neg hw]at hRr
   simp -dsimp -implicitDefEqProofs [go_sem,hP,hw,t6]
   rw[hC]
   have hRr:R=some ((k:Int),d,l):=hRr
   refine⟨p,q,by rw[hRr];rfl,by omega,by omega,fun x hx=>?_,hK.trans k2⟩
   rw[hRr]at hx
   simp only[zB]at hx
   subst hx
   exact ht.kept k2 (by simp) (by simp)
  rw[List.takeWhile_cons_of_pos hw,bD]at hRr
  have tp:=SB (row:=row) (src:=src) (ht.kept k2 (by simp) (by simp)) (by rw[←fG,hids,fG];omega) hc (by rw[hids];exact hn) (by rw[hids];exact h0) hok (by omega) e
  rw[cE]at tp
  simp -dsimp -implicitDefEqProofs [-getElem?_pos,go_sem,hP,hw,t6,o2,l2]
  refine aI (by rw[hr,hs];exact tp) hP Vd ?_
  rintro r H3 ⟨rfl,ht3,hk3⟩
  have K3:Kept [] H H3:=LZ (hK.trans k2) hk3 (fun i hi=>by simp at hi;omega)
  by_cases hp0:(aV a.Credit k d l e).1=0
  ·rw[if_pos hp0]at hRr
   obtain⟨q1,q2,q3,_⟩:=kC hp0
   simp -dsimp -implicitDefEqProofs [go_sem,hP,hp0,t14,wk]
   refine⟨a.Entries.length-(k+1),by omega,?_⟩
   rw[hI]
   rw[q1]at hRr
   refine⟨k+1,e.Day,(aV a.Credit k d l e).2,by omega,rfl,hRr,u6 hp0 hok,(kx _ _ _ _ _).trans hids,?_,by simp -dsimp[go_sem];exact K3,t1,t6,t12,t13,rfl⟩
   simp -dsimp -implicitDefEqProofs [go_sem]
   have:=ht3 hp0
   rw[q1]at this
   exact this
  ·rw[if_neg hp0]at hRr
   simp -dsimp -implicitDefEqProofs [go_sem,hP,hp0,t6]
   rw[hC]
   exact⟨p,q,by rw[hRr];rfl,by omega,by omega,fun x hx=>(by rw[hRr]at hx;cases hx),K3⟩
 ·have hk:k=a.Entries.length:=by simp at h;omega
  subst hk
  rw[wG]at hRr
  have hRr:R=some ((a.Entries.length:Int),d,l):=hRr
  simp -dsimp -implicitDefEqProofs [go_sem,hP,t6]
  refine fin true (by rw[hRr];rfl) fun x hx=>?_
  rw[hRr]at hx
  simp only[zB]at hx
  subst hx
  exact ht
theorem Xw {row src:Option Nat} (e:TEntry) (H:ah):MFun Tryz.prog row src 120 [.agg e.cells] H (fun r H'=>r=bv true∧Kept [] H H'):=by
 refine aG Tryz.func120 rfl (by simp[Tryz.f120]) (by kernel_rfl) (⟨_,H,rfl,aD _ _⟩) ?_
 intro E hP hr hs hN
 simp -dsimp[go_sem,hP,TEntry.cells]
 exact bN _ _ _
theorem BE {α:Type} (l:List α):l.takeWhile (fun _=>true)=l:=mm _ _ fun _ _=>rfl
theorem Jc {a:TAccount} (h1:¬(20<a.Subs.length∨400<a.Entries.length)) (h2:(vB a.Credit&&iJ (ids a.Subs))=true):
  aF a=(kg a fun _=>true).elim 62 (fun r=>if r.2.2=a.Subs then 0 else 62):=by
 have h3:¬(!vB a.Credit||!iJ (ids a.Subs))=true:=by
  simp only[zG]at h2
  simp[h2.1,h2.2]
 rw[aF,if_neg h1,if_neg h3,kg,BE]
 cases bD a.Credit 0 0 (cC a.Subs) a.Entries<;>rfl
set_option maxHeartbeats 1000000 in
theorem yX (a:TAccount) (hl:a.Subs.length≤100000) (he:a.Entries.length≤100000):PFun Tryz.prog none none 50 [.agg a.cells] (·=iv (aF a)):=by
 refine ab Tryz.func50 rfl (by simp[Tryz.f50]) (by kernel_rfl) ?_
 intro E hP hr hs hW hN
 by_cases c1:20<a.Subs.length
 ·have d1:decide ((20:Int)<a.Subs.length)=true:=zC (by omega)
  have:aF a=3:=by rw[aF,if_pos (.inl c1)]
  simp -dsimp -implicitDefEqProofs [go_sem,hP,cA,d1,this]
 have d1:decide ((20:Int)<a.Subs.length)=false:=zA (by omega)
 by_cases c2:400<a.Entries.length
 ·have d2:decide ((400:Int)<a.Entries.length)=true:=zC (by omega)
  have:aF a=3:=by rw[aF,if_pos (.inr c2)]
  simp -dsimp -implicitDefEqProofs [go_sem,hP,cA,d1,d2,this]
 have d2:decide ((400:Int)<a.Entries.length)=false:=zA (by omega)
 simp -dsimp -implicitDefEqProofs [go_sem,hP,cA,d1,d2]
 refine ai (FY a.Credit) hP jZ (ak (by simp -dsimp[go_sem])) .sc ?_
 by_cases c3:vB a.Credit=true
 rotate_left
 ·have:aF a=62:=by rw[aF,if_neg (by omega),if_pos (by simp[c3])]
  simp -dsimp -implicitDefEqProofs [go_sem,hP,c3,this]
 simp -dsimp -implicitDefEqProofs [go_sem,hP,c3]
 refine aJ ((IV a.Subs hl).lift _ _) hP UY (by simp[aU]) (gK _) ?_
 simp -dsimp -implicitDefEqProofs [go_sem,hP,c3]
 refine ai (FP (ids a.Subs) (by rw[fG];omega)) hP Uu (aL (gK _) (aZ.2 trivial)) .sc ?_
 by_cases c4:iJ (ids a.Subs)=true
 rotate_left
 ·have:aF a=62:=by rw[aF,if_neg (by omega),if_pos (by simp[c4])]
  simp -dsimp -implicitDefEqProofs [go_sem,hP,c3,c4,this]
 obtain⟨hnd,hz0,hhd⟩:=nA c4
 have hcr:0≤a.Credit∧a.Credit≤1000000000000:=by simpa[vB,bu]using c3
 have hchk:=Jc (a:=a) (by omega) (by simp[c3,c4])
 have hne:a.Subs≠[]:=fun h=>by rw[h]at hhd;simp[ids]at hhd
 have rp:=fun (H:ah)=>Qh (row:=none) (src:=none) a H 120 [] (fun _=>true) hl he hne hcr hnd hz0 UG (fun e _ H' _=>Xw e H')
 rw[cA]at rp
 simp -dsimp -implicitDefEqProofs [go_sem,hP,c3,c4]
 refine aI (by rw[hr,hs];exact rp _) hP UK ?_
 rintro r H1 ⟨p,q,rfl,hp,hq,ht,hk⟩
 have ob:=hk 0 ⟨28,3,[[iv a.Credit,bw a.Subs,cU a.Entries]]⟩ (by simp) (by simp)
 have lb:=(gsI ob)
 cases hR:kg a fun _=>true with
 |none=>
  rw[hR]at hchk
  have hchk:aF a=62:=hchk
  simp -dsimp -implicitDefEqProofs [go_sem,hP,hchk]
  refine aq (fun _=>true) [] hP (by kernel_rfl) (by kernel_rfl) ?_
  simp -dsimp -implicitDefEqProofs [go_sem,hP]
  exact hchk.symm
 |some x=>
  rw[hR]at hchk
  have hchk:aF a=if x.2.2=a.Subs then 0 else 62:=hchk
  have t:=ht x hR
  have t1:=t.obj
  have t2:=t.ltp
  have t3:=t.subs
  have il:x.2.2.length=a.Subs.length:=by
   have:=(jI a.Credit _ 0 0 (cC a.Subs) x (m8 hcr.1 _) hR).2.1
   rw[←fG x.2.2,this,fG,ng]
  simp -dsimp -implicitDefEqProofs [go_sem,hP]
  refine aq (fun _=>true) [] hP (by kernel_rfl) (by kernel_rfl) ?_
  simp -dsimp -implicitDefEqProofs [-getElem?_pos,go_sem,hP,t1,t2,ob,lb]
  refine ai (zd x.2.2 a.Subs (by omega) hl) hP Vp (ez t3 (by rw[ar]) (aU _) (aL (aU _) (aZ.2 trivial))) .sc ?_
  by_cases c5:x.2.2=a.Subs
  ·rw[if_pos c5]at hchk
   have d5:decide (x.2.2=a.Subs)=true:=zC c5
   simp -dsimp -implicitDefEqProofs [go_sem,hP,d5,hchk]
  ·rw[if_neg c5]at hchk
   simp -dsimp -implicitDefEqProofs [go_sem,hP,c5,hchk]
open Go.PA
open Go.RowKit
theorem Rv (a:TAccount) (hl:a.Subs.length≤100000) (he:a.Entries.length≤100000):PFun Tryz.prog none none 13 [.agg a.cells] (·=iv (mC a)):=by
 refine ab Tryz.func13 rfl (by simp[Tryz.f13]) (by kernel_rfl) ?_
 intro E hP hr hs hW hN
 have ck:=yX a hl he
 rw[cA]at ck
 have ia:Imm (.agg [iv a.Credit,bw a.Subs,cU a.Entries]):=cQ a
 simp -dsimp -implicitDefEqProofs [go_sem,hP,cA]
 refine af ck hP PY (by simp[ia]) .sc ?_
 by_cases c1:aF a=0
 rotate_left
 ·have:mC a=0:=by rw[mC,if_neg c1]
  simp -dsimp -implicitDefEqProofs [go_sem,hP,c1,this]
 have tA:mC a=pF a.Subs:=by rw[mC,if_pos c1]
 obtain⟨k1,k2,k3,k4,k5⟩:=iI c1
 obtain⟨q1,q2,q3,q4⟩:=oQ c1
 simp -dsimp -implicitDefEqProofs [go_sem,hP,c1]
 obtain⟨I,hI⟩:∃I:Nat→St→Prop,I=fun m s=>∃k:Nat,k≤a.Subs.length∧m=a.Subs.length-k∧s.t 3=iv (pF (a.Subs.take k))∧s.t 10=bw a.Subs∧s.t 11=iv a.Subs.length∧s.t 12=iv k:=⟨_,rfl⟩
 refine az I (a.Subs.length) (by rw[hN];rfl) ?_ ?_
 ·rw[hI]
  exact⟨0,by omega,by omega,by simp -dsimp[-getElem?_pos,go_sem,pF],rfl,rfl,rfl⟩
 intro m s hs'
 rw[hI]at hs'
 obtain⟨k,hk,hm,t3,t10,t11,t12⟩:=hs'
 simp -dsimp -implicitDefEqProofs [go_sem,hP,t11,t12]
 refine aB ?_ ?_<;>intro h
 ·have hk:k<a.Subs.length:=by simpa using h
  obtain⟨x,hx⟩:=gkE hk
  have wk:=ae ((k:Int)+1) (by omega)
  have e1:a.Subs.take (k+1)=a.Subs.take k++[x]:=by rw[wJ,hx];rfl
  have b1:=Aa k3 _ (Iy q1 (k+1))
  have b2:(a.Subs.take (k+1)).length≤20:=by rw[zY];omega
  rw[e1,CR,←e1]at b1
  have ws:=ae (pF (a.Subs.take k)+x.Balance) (by omega)
  simp -dsimp -implicitDefEqProofs [go_sem,hP,t10,t12,hx,TSub.cells,t3,ws,wk]
  refine⟨a.Subs.length-(k+1),by omega,?_⟩
  rw[hI]
  exact⟨k+1,by omega,rfl,by simp -dsimp[go_sem];rw[e1,CR],t10,t11,rfl⟩
 ·have hk:k=a.Subs.length:=by simp at h;omega
  subst hk
  rw[zT]at t3
  simp -dsimp -implicitDefEqProofs [go_sem,hP,t3,tA]
theorem RP {row src:Option Nat} (a:TSub) (H:ah) (b:Nat) (id:Int) (hb:H[b]?=some (some ⟨3,1,[[iv id]]⟩)):
  MFun Tryz.prog row src 250 [.agg a.cells,.ref b 0 0] H (fun r H'=>r=bv (decide (a.ID=id))∧Kept [] H H'):=by
 refine aG Tryz.func250 rfl (by simp[Tryz.f250]) (by kernel_rfl) (⟨_,H,rfl,aD _ _⟩) ?_
 intro E hP hr hs hN
 have hlt:=(gsI hb)
 simp -dsimp -implicitDefEqProofs [-getElem?_pos,go_sem,hP,TSub.cells,hb,hlt]
 exact fB _ (aD _ _)
theorem Km (a:TAccount) (id:Int) (hl:a.Subs.length≤100000) (he:a.Entries.length≤100000):PFun Tryz.prog none none 176 [.agg a.cells,iv id] (·= .tup [iv (bF a id).1,bv (bF a id).2]):=by
 refine ab Tryz.func176 rfl (by simp[Tryz.f176]) (by kernel_rfl) ?_
 intro E hP hr hs hW hN
 have ck:=yX a hl he
 rw[cA]at ck
 have ia:Imm (.agg [iv a.Credit,bw a.Subs,cU a.Entries]):=cQ a
 simp -dsimp -implicitDefEqProofs [go_sem,hP,cA]
 refine aI (by rw[hr,hs];exact xn a.Subs (bw a.Subs) _ 250 [.ref 1 0 0] (fun s=>decide (s.ID=id)) (.inl rfl) (by omega) Ui (fun a _ H' hk=>RP a H' 1 id (hk _ _ (by simp) (by simp)))) hP QJ ?_
 rintro r H1 ⟨rfl,hk⟩
 have ob:=hk 0 ⟨28,3,[[iv a.Credit,bw a.Subs,cU a.Entries]]⟩ (by simp) (by simp)
 have lb:=(gsI ob)
 rcases AL (l:=a.Subs) (id:=id)with⟨h1,h2⟩|⟨i,s,h1,h2,h3⟩
 ·have:bF a id=(0,false):=by
   rw[bF,h2]
   split<;>rfl
  have h1:fD (fun s:TSub=>decide (s.ID=id)) a.Subs= -1:=h1
  simp -dsimp -implicitDefEqProofs [go_sem,hP,h1]
  refine aw (aj .sc .sc) ?_
  rw[this]
 ·have h1:fD (fun s:TSub=>decide (s.ID=id)) a.Subs=(i:Int):=h1
  have hi:=(gsI h2)
  have d1:decide ((i:Int)<0)=false:=zA (by omega)
  simp -dsimp -implicitDefEqProofs [-getElem?_pos,go_sem,hP,h1,d1,ob,lb]
  refine af ck hP PY (by simp[ia]) .sc ?_
  by_cases c1:aF a=0
  ·have:bF a id=(s.Balance,true):=by rw[bF,if_pos c1,h3]
   simp -dsimp -implicitDefEqProofs [-getElem?_pos,go_sem,hP,h1,d1,c1,h2,TSub.cells,ob,lb]
   refine aw (aj .sc .sc) ?_
   rw[this]
  ·have:bF a id=(0,false):=by rw[bF,if_neg c1]
   simp -dsimp -implicitDefEqProofs [go_sem,hP,h1,d1,c1]
   refine aw (aj .sc .sc) ?_
   rw[this]
open Go.PA
open Go.RowKit
theorem Eu (l:List TPayment) (g:FuncId) (caps:List AV) (p:TPayment→Bool) (hl:l.length≤1000000) (hen:aa Tryz.prog g=true) (hcap:∀a,a∈caps→Imm a)
  (hg:∀a,a∈l→PFun Tryz.prog none none g (.agg (TPayment.cells a)::caps) (·=bv (p a))):
  PFun Tryz.prog none none 299 [.list 5 (ao TPayment.cells l),.fn g caps] (·=iv (fD p l)):=by
 refine ab Tryz.func299 rfl (by simp[Tryz.f299]) (by kernel_rfl) ?_
 intro E hP hr hs hW hN
 simp -dsimp -implicitDefEqProofs [go_sem,hP]
 obtain⟨I,hI⟩:∃I:Nat→St→Prop,I=fun m s=>∃k:Nat,k≤l.length∧m=l.length-k∧fD p l=bE p k (l.drop k)∧s.t 0= .list 5 (ao TPayment.cells l)∧s.t 1= .fn g caps∧s.t 7=iv l.length∧s.t 8=iv k:=⟨_,rfl⟩
 refine az I (l.length) (by rw[hN];rfl) ?_ ?_
 ·rw[hI]
  exact⟨0,by omega,by omega,by simp[fD],rfl,rfl,rfl,rfl⟩
 intro m s hs'
 rw[hI]at hs'
 obtain⟨k,hk,hm,hi,t0,t1,t7,t8⟩:=hs'
 simp -dsimp -implicitDefEqProofs [go_sem,hP,t7,t8]
 refine aB ?_ ?_<;>intro h
 ·have hk:k<l.length:=by simpa using h
  obtain⟨a,ha⟩:=gkE hk
  have wk:=ae ((k:Int)+1) (by omega)
  have hz:(TPayment.cells a).take 5=TPayment.cells a:=zQ (by rw[TPayment.len];omega)
  have hd:l.drop k=a::l.drop (k+1):=by
   rw[zF hk]at ha
   rw[wE hk,wT ha]
  simp -dsimp -implicitDefEqProofs [go_sem,hP,t8,t1,t0,ha,TPayment.len,hz]
  refine aJ ((hg a (zE ha)).lift _ _) hP hen (fun x hx=>?_) .sc ?_
  ·rcases zO.1 hx with rfl|hx
   ·exact bH.2 (TPayment.imm a)
   ·exact hcap x hx
  rw[hd]at hi
  simp only[bE]at hi
  simp -dsimp -implicitDefEqProofs [go_sem,hP]
  refine aB ?_ ?_<;>intro hp
  ·rw[if_pos hp]at hi
   simp -dsimp -implicitDefEqProofs [go_sem,hP]
   exact hi.symm
  ·rw[hp,if_neg (by simp)]at hi
   simp -dsimp -implicitDefEqProofs [go_sem,hP,t8,wk]
   refine⟨l.length-(k+1),by omega,?_⟩
   rw[hI]
   exact⟨k+1,by omega,rfl,hi,t0,t1,t7,rfl⟩
 ·have hk:k=l.length:=by simp at h;omega
  subst hk
  rw[wG]at hi
  simp -dsimp -implicitDefEqProofs [go_sem,hP]
  exact hi.symm
theorem oG (l:List TPayment) (g:FuncId) (caps:List AV) (p:TPayment→Bool) (hl:l.length≤1000000) (hen:aa Tryz.prog g=true) (hcap:∀a,a∈caps→Imm a)
  (hg:∀a,a∈l→PFun Tryz.prog none none g (.agg (TPayment.cells a)::caps) (·=bv (p a))):
  PFun Tryz.prog none none 246 [.list 5 (ao TPayment.cells l),.fn g caps] (·=bv (l.any p)):=by
 refine ab Tryz.func246 rfl (by simp[Tryz.f246]) (by kernel_rfl) ?_
 intro E hP hr hs hW hN
 obtain⟨w,hw⟩:∃w,w=l.any p:=⟨_,rfl⟩
 rw[←hw]
 have hi:∀a,a∈[AV.list 5 (ao TPayment.cells l),.fn g caps]→Imm a:=fun a ha=>by
  simp only[zO,wC,or_false]at ha
  rcases ha with rfl|rfl
  ·exact aY _ TPayment.imm _
  ·exact gz.2 hcap
 simp -dsimp[go_sem,hP]
 refine aJ ((Eu l g caps p hl hen hcap hg).lift _ _) hP U2 hi .sc ?_
 rcases dF p l with⟨h1,h2⟩|⟨i,a,h1,h2,h3,_⟩
 ·have:w=false:=by rw[hw];exact List.any_eq_false.2 fun a ha=>by simp[h2 a ha]
  simp -dsimp[go_sem,hP,h1,this]
 ·have d:decide ((0:Int)≤(i:Int))=true:=zC (by omega)
  have:w=true:=by rw[hw];exact vL.2 ⟨a,zE h1,h2⟩
  simp -dsimp[go_sem,hP,h3,d,this]
open Go.PA
open Go.RowKit
open Go.PA
open Go.RowKit
theorem Hw (l:List Int) (v:Int) (hl:l.length≤1000000):PFun Tryz.prog none none 293 [aA l,iv v] (·=iv (fD (fun x=>decide (v=x)) l)):=by
 refine ab Tryz.func293 rfl (by simp[Tryz.f293]) (by kernel_rfl) ?_
 intro E hP hr hs hW hN
 simp -dsimp -implicitDefEqProofs [go_sem,hP,aA]
 obtain⟨I,hI⟩:∃I:Nat→St→Prop,I=fun m s=>∃k:Nat,k≤l.length∧m=l.length-k∧fD (fun x=>decide (v=x)) l=bE (fun x=>decide (v=x)) k (l.drop k)∧s.t 0=aA l∧s.t 1=iv v∧s.t 7=iv l.length∧s.t 8=iv k:=⟨_,rfl⟩
 refine az I (l.length) (by rw[hN];rfl) ?_ ?_
 ·rw[hI]
  exact⟨0,by omega,by omega,by simp[fD],by simp -dsimp[-getElem?_pos,go_sem,aA],rfl,rfl,rfl⟩
 intro m s hs'
 rw[hI]at hs'
 obtain⟨k,hk,hm,hi,t0,t1,t7,t8⟩:=hs'
 simp -dsimp -implicitDefEqProofs [go_sem,hP,t7,t8]
 refine aB ?_ ?_<;>intro h
 ·have hk:k<l.length:=by simpa using h
  obtain⟨a,ha⟩:=gkE hk
  have wk:=ae ((k:Int)+1) (by omega)
  have hd:l.drop k=a::l.drop (k+1):=by
   rw[zF hk]at ha
   rw[wE hk,wT ha]
  rw[hd]at hi
  simp only[bE]at hi
  simp -dsimp -implicitDefEqProofs [go_sem,hP,t8,t1,t0,ha,aA]
  by_cases hp:v=a
  ·rw[if_pos (by simpa using hp)]at hi
   simp -dsimp -implicitDefEqProofs [go_sem,hP,hp]
   rw[hp]at hi
   exact hi.symm
  ·rw[if_neg (by simpa using hp)]at hi
   simp -dsimp -implicitDefEqProofs [go_sem,hP,t8,wk,hp]
   refine⟨l.length-(k+1),by omega,?_⟩
   rw[hI]
   exact⟨k+1,by omega,rfl,hi,t0,t1,t7,rfl⟩
 ·have hk:k=l.length:=by simp at h;omega
  subst hk
  rw[wG]at hi
  simp -dsimp -implicitDefEqProofs [go_sem,hP]
  exact hi.symm
theorem gk (l:List Int):Imm (aA l):=by simp[go_sem,aA]
theorem An (l:List Int) (v:Int) (hl:l.length≤1000000):PFun Tryz.prog none none 235 [aA l,iv v] (·=bv (decide (v∈l))):=by
 refine ab Tryz.func235 rfl (by simp[Tryz.f235]) (by kernel_rfl) ?_
 intro E hP hr hs hW hN
 simp -dsimp -implicitDefEqProofs [go_sem,hP]
 refine aJ ((Hw l v hl).lift _ _) hP Qu (by simp[gk,an]) .sc ?_
 rcases dF (fun x=>decide (v=x)) l with⟨h1,h2⟩|⟨i,a,h1,h2,h3,_⟩
 ·have:decide (v∈l)=false:=zA fun hv=>by simpa using h2 v hv
  simp -dsimp -implicitDefEqProofs [go_sem,hP,h1,this]
 ·have d:decide ((0:Int)≤(i:Int))=true:=zC (by omega)
  have hva:v=a:=by simpa using h2
  have:decide (v∈l)=true:=zC (hva▸zE h1)
  simp -dsimp -implicitDefEqProofs [go_sem,hP,h3,d,this]
open Go.PA
open Go.RowKit
theorem lz {α β:Type} {f:α→β} {l:List α} {k:Nat} {p:α} (hp:l[k]?=some p):∀j x,k+1=j+1→l[j]?=some x→f p=f x:=fun j x hj hx=>by
 cases (show k=j by omega)
 rw[hp]at hx
 cases hx
 rfl
theorem js (n lo hi:Int):PFun Tryz.prog none none 245 [iv n,iv lo,iv hi] (·=bv (amg n lo hi)):=by
 refine ab Tryz.func245 rfl (by simp[Tryz.f245]) (by kernel_rfl) ?_
 intro E hP hr hs hW hN
 by_cases h1:lo≤n<;>by_cases h2:n≤hi<;>simp -dsimp[go_sem,hP,h1,h2,amg]
theorem KS (p:TPayment):PFun Tryz.prog none none 177 [.agg p.cells] (·=bv (gx p)):=by
 refine ab Tryz.func177 rfl (by simp[Tryz.f177]) (by kernel_rfl) ?_
 intro E hP hr hs hW hN
 simp -dsimp -implicitDefEqProofs [go_sem,hP,cPy]
 refine ai (js p.Warrant 1 1000000) hP rS (ak (by simp -dsimp[go_sem])) .sc ?_
 cases h1:amg p.Warrant 1 1000000
 ·simp -dsimp -implicitDefEqProofs [go_sem,hP,gx,h1]
 simp -dsimp -implicitDefEqProofs [go_sem,hP]
 refine ai (js p.Payee 1 1000000) hP rS (ak (by simp -dsimp[go_sem])) .sc ?_
 cases h2:amg p.Payee 1 1000000
 ·simp -dsimp -implicitDefEqProofs [go_sem,hP,gx,h1,h2]
 simp -dsimp -implicitDefEqProofs [go_sem,hP]
 refine ai (js p.Amount 1 1000000000000) hP rS (ak (by simp -dsimp[go_sem])) .sc ?_
 cases h3:amg p.Amount 1 1000000000000
 ·simp -dsimp -implicitDefEqProofs [go_sem,hP,gx,h1,h2,h3]
 simp -dsimp -implicitDefEqProofs [go_sem,hP]
 refine ai (js p.Due 0 35990) hP rS (ak (by simp -dsimp[go_sem])) .sc ?_
 cases h4:amg p.Due 0 35990
 ·simp -dsimp -implicitDefEqProofs [go_sem,hP,gx,h1,h2,h3,h4]
 simp -dsimp -implicitDefEqProofs [go_sem,hP]
 refine ai (js p.Sub 1 1000) hP rS (ak (by simp -dsimp[go_sem])) .sc ?_
 simp -dsimp -implicitDefEqProofs [go_sem,hP,gx,h1,h2,h3,h4]
def IF (a b:TPayment):Int:=orI [jg a.Due b.Due,jg a.Warrant b.Warrant]
theorem KN {a b:TPayment}:IF a b<0↔Bef a b:=by
 simp only[IF,orI,jg,Bef]
 repeat' split
 all_goals omega
theorem Sw {a b:TPayment} (h:¬Bef a b):0≤IF a b:=by
 have:=mt KN.1 h
 omega
theorem Gn (a b:TPayment):PFun Tryz.prog none none 244 [.agg a.cells,.agg b.cells] (·=iv (IF a b)):=by
 refine ab Tryz.func244 rfl (by simp[Tryz.f244]) (by kernel_rfl) ?_
 intro E hP hr hs hW hN
 simp -dsimp -implicitDefEqProofs [go_sem,hP,cPy]
 refine aq (fun _=>true) [] hP (by kernel_rfl) (by kernel_rfl) ?_
 simp -dsimp -implicitDefEqProofs [go_sem,hP]
 refine ai (fe a.Due b.Due) hP rj (ak (by simp -dsimp[go_sem])) .sc ?_
 simp -dsimp -implicitDefEqProofs [go_sem,hP]
 refine ai (fe a.Warrant b.Warrant) hP rj (ak (by simp -dsimp[go_sem])) .sc ?_
 simp -dsimp -implicitDefEqProofs [go_sem,hP]
 refine ai (K0 [jg a.Due b.Due,jg a.Warrant b.Warrant] (by simp)) hP Kw (ak (by simp -dsimp[go_sem])) .sc ?_
 simp -dsimp -implicitDefEqProofs [go_sem,hP,IF]
theorem xv (l:List TPayment) (hl:l.length≤1000000):PFun Tryz.prog none none 170 [aQ l] (·=bv (eP none l)):=by
 refine ab Tryz.func170 rfl (by simp[Tryz.f170]) (by kernel_rfl) ?_
 intro E hP hr hs hW hN
 obtain⟨R,hR⟩:∃R,R=eP none l:=⟨_,rfl⟩
 rw[←hR]
 simp -dsimp -implicitDefEqProofs [go_sem,hP]
 obtain⟨I,hI⟩:∃I:Nat→St→Prop,I=fun m s=>∃(k:Nat) (o:Option TPayment),k≤l.length∧m=l.length-k∧R=eP o (l.drop k)∧(k=0→o=none)∧(∀j x,k=j+1→l[j]?=some x→o=some x)∧s.t 0=aQ l∧s.t 5=aQ l∧s.t 6=iv l.length∧s.t 7=iv k:=⟨_,rfl⟩
 refine az I (l.length) (by rw[hN];rfl) ?_ ?_
 ·rw[hI]
  exact⟨0,none,by omega,by omega,by rw[hR];rfl,by simp,by omega,rfl,rfl,rfl,rfl⟩
 intro m s hs'
 rw[hI]at hs'
 obtain⟨k,o,hk,hm,hq,ho0,ho1,t0,t5,t6,t7⟩:=hs'
 simp -dsimp -implicitDefEqProofs [go_sem,hP,t6,t7]
 refine aB ?_ ?_<;>intro h
 ·have hk:k<l.length:=by simpa using h
  obtain⟨p,hp⟩:=gkE hk
  have wk:=ae ((k:Int)+1) (by omega)
  have ip:=dX p
  have py:=KS p
  rw[cPy]at py ip
  rw[dt hp,eP]at hq
  simp -dsimp -implicitDefEqProofs [go_sem,hP,t5,t7,hp,cPy]
  refine aq (fun _=>true) [] hP (by kernel_rfl) (by kernel_rfl) ?_
  simp -dsimp -implicitDefEqProofs [go_sem,hP]
  refine af py hP Oh (by simpa using ip) .sc ?_
  cases h1:gx p
  ·rw[h1,zJ]at hq
   simp -dsimp -implicitDefEqProofs [go_sem,hP,h1,hq]
  rw[h1,zP]at hq
  rcases wR k with k0|k0
  ·rw[ho0 k0,yz,zP]at hq
   have k0':¬0<k:=by omega
   have hjk:decide ((0:Int)<(k:Int))=false:=zA (by omega)
   simp -dsimp -implicitDefEqProofs [go_sem,hP,h1,t7,k0',hjk,wk]
   refine⟨l.length-(k+1),by omega,?_⟩
   rw[hI]
   exact⟨k+1,some p,by omega,rfl,hq,by omega,lz (f:=some) hp,t0,t5,t6,rfl⟩
  ·obtain⟨j,hj⟩:∃j,k=j+1:=⟨k-1,by omega⟩
   obtain⟨x,hx⟩:∃x,l[j]?=some x:=⟨_,zF (by omega)⟩
   have hox:=ho1 j x hj hx
   have hjk:decide ((0:Int)<(k:Int))=true:=zC (by omega)
   have wj:IntKind.i64.wrap ((k:Int)-1)=(j:Int):=by rw[ae _ (by omega)];omega
   have cm:=Gn x p
   have ix:=dX x
   rw[cPy,cPy]at cm
   rw[cPy]at ix
   rw[hox,yz]at hq
   simp -dsimp -implicitDefEqProofs [go_sem,hP,h1,t7,k0,hjk,wj,t0,hx,cPy]
   refine af cm hP UE (by simpa using⟨ix,ip⟩) .sc ?_
   by_cases c:Bef x p
   ·have c1:=KN.2 c
    have d1:decide (0≤IF x p)=false:=zA (by omega)
    rw[kE.2 c,zP]at hq
    simp -dsimp -implicitDefEqProofs [go_sem,hP,h1,t7,k0,hjk,wj,t0,hx,cPy,d1,wk]
    refine⟨l.length-(k+1),by omega,?_⟩
    rw[hI]
    exact⟨k+1,some p,by omega,rfl,hq,by omega,lz (f:=some) hp,t0,t5,t6,rfl⟩
   ·have c1:=Sw c
    have d1:decide (0≤IF x p)=true:=zC c1
    have cb:g7 x p=false:=by simpa[g7]using c
    rw[cb,zJ]at hq
    simp -dsimp -implicitDefEqProofs [go_sem,hP,h1,t7,k0,hjk,wj,t0,hx,cPy,d1,hq]
 ·have hk:k=l.length:=by simp at h;omega
  subst hk
  rw[wG,eP]at hq
  simp -dsimp -implicitDefEqProofs [go_sem,hP,hq]
theorem La (l:List Int) (hl:l.length≤1000000):PFun Tryz.prog none none 171 [aA l] (·=bv (gW none l)):=by
 refine ab Tryz.func171 rfl (by simp[Tryz.f171]) (by kernel_rfl) ?_
 intro E hP hr hs hW hN
 obtain⟨R,hR⟩:∃R,R=gW none l:=⟨_,rfl⟩
 rw[←hR]
 simp -dsimp -implicitDefEqProofs [go_sem,hP,aA]
 obtain⟨I,hI⟩:∃I:Nat→St→Prop,I=fun m s=>∃(k:Nat) (o:Option Int),k≤l.length∧m=l.length-k∧R=gW o (l.drop k)∧(k=0→o=none)∧(∀j x,k=j+1→l[j]?=some x→o=some x)∧s.t 0=aA l∧s.t 5=aA l∧s.t 6=iv l.length∧s.t 7=iv k:=⟨_,rfl⟩
 refine az I (l.length) (by rw[hN];rfl) ?_ ?_
 ·rw[hI]
  exact⟨0,none,by omega,by omega,by rw[hR];rfl,by simp,by omega,by simp -dsimp[-getElem?_pos,go_sem,aA],by simp -dsimp[-getElem?_pos,go_sem,aA],rfl,rfl⟩
 intro m s hs'
 rw[hI]at hs'
 obtain⟨k,o,hk,hm,hq,ho0,ho1,t0,t5,t6,t7⟩:=hs'
 simp -dsimp -implicitDefEqProofs [go_sem,hP,t6,t7]
 refine aB ?_ ?_<;>intro h
 ·have hk:k<l.length:=by simpa using h
  obtain⟨p,hp⟩:=gkE hk
  have wk:=ae ((k:Int)+1) (by omega)
  rw[dt hp,gW]at hq
  simp -dsimp -implicitDefEqProofs [go_sem,hP,t5,t7,aA,hp]
  refine ai (js p 1 1000000) hP rS (ak (by simp -dsimp[go_sem])) .sc ?_
  cases h1:amg p 1 1000000
  ·rw[h1,zJ]at hq
   simp -dsimp -implicitDefEqProofs [go_sem,hP,h1,hq]
  rw[h1,zP]at hq
  rcases wR k with k0|k0
  ·rw[ho0 k0,yz,zP]at hq
   have k0':¬0<k:=by omega
   have hjk:decide ((0:Int)<(k:Int))=false:=zA (by omega)
   simp -dsimp -implicitDefEqProofs [go_sem,hP,h1,t7,k0',hjk,wk]
   refine⟨l.length-(k+1),by omega,?_⟩
   rw[hI]
   exact⟨k+1,some p,by omega,rfl,hq,by omega,lz (f:=some) hp,t0,t5,t6,rfl⟩
  ·obtain⟨j,hj⟩:∃j,k=j+1:=⟨k-1,by omega⟩
   obtain⟨x,hx⟩:∃x,l[j]?=some x:=⟨_,zF (by omega)⟩
   have hox:=ho1 j x hj hx
   have hjk:decide ((0:Int)<(k:Int))=true:=zC (by omega)
   have wj:IntKind.i64.wrap ((k:Int)-1)=(j:Int):=by rw[ae _ (by omega)];omega
   rw[hox,yz]at hq
   by_cases c:x<p
   ·have d1:decide (p≤x)=false:=zA (by omega)
    rw[zC c,zP]at hq
    simp -dsimp -implicitDefEqProofs [go_sem,hP,h1,t7,k0,hjk,wj,t0,aA,hx,d1,wk]
    refine⟨l.length-(k+1),by omega,?_⟩
    rw[hI]
    exact⟨k+1,some p,by omega,rfl,hq,by omega,lz (f:=some) hp,t0,t5,t6,rfl⟩
   ·have d1:decide (p≤x)=true:=zC (by omega)
    rw[zA c,zJ]at hq
    simp -dsimp -implicitDefEqProofs [go_sem,hP,h1,t7,k0,hjk,wj,t0,aA,hx,d1,hq]
 ·have hk:k=l.length:=by simp at h;omega
  subst hk
  rw[wG,gW]at hq
  simp -dsimp -implicitDefEqProofs [go_sem,hP,hq]
open Go.PA
open Go.RowKit
theorem FA (p:TPayment) (q:TQueue) (hl:q.Known.length≤1000000):PFun Tryz.prog none none 247 [.agg p.cells,.iref q.cells] (·=bv (!inK q.Known p)):=by
 refine ab Tryz.func247 rfl (by simp[Tryz.f247]) (by kernel_rfl) ?_
 intro E hP hr hs hW hN
 simp -dsimp[go_sem,hP,cPy,cQu]
 refine aJ ((An q.Known p.Warrant hl).lift _ _) hP Qo (by simp[gk,an]) .sc ?_
 simp -dsimp[go_sem,hP,inK]
theorem wz (q:TQueue) (l:List TPayment) (hq:q.Known.length≤1000000) (hl:l.length≤1000000):PFun Tryz.prog none none 172 [.agg q.cells,aQ l] (·=bv (!l.all (inK q.Known))):=by
 refine ab Tryz.func172 rfl (by simp[Tryz.f172]) (by kernel_rfl) ?_
 intro E hP hr hs hW hN
 have iq:=q.imm
 have ip:=cg l
 simp -dsimp[go_sem,hP,cQu,aA]
 refine ai (oG l 247 [.iref q.cells] (fun p=>!inK q.Known p) hl Um (by simp[cY];exact q.imm) fun p _=>FA p q hq) hP Pn (aL ip (jO (cs:=[.ref 0 0 0]) (by simp -dsimp[go_sem,ij,cQu,aA]) (by simp[cY];exact q.imm) (aZ.2 trivial))) .sc ?_
 have e:l.any (fun p=>!inK q.Known p)=!l.all (inK q.Known):=by rw[List.not_all_eq_any_not]
 simp -dsimp[go_sem,hP,e]
theorem Of {β:Type} (l:List (Int×β)) (k a:Int) (v:β):j6 (yj l k v) a=if a=k then some v else j6 l a:=by
 induction l with
 |nil=>
  simp only[yj,j6]
  by_cases h:a=k
  ·subst h;simp
  ·rw[if_neg (fun e=>h e.symm),if_neg h]
 |cons e l ih=>
  simp only[yj]
  by_cases h:e.1=k
  ·rw[if_pos h]
   simp only[j6]
   by_cases h':a=k
   ·subst h';simp
   ·rw[if_neg (fun e=>h' e.symm),if_neg h',if_neg (fun e'=>h' (e'.symm.trans h))]
  ·rw[if_neg h]
   simp only[j6,ih]
   by_cases h':e.1=a
   ·rw[if_pos h',if_pos h',if_neg (fun e'=>h (h'.trans e'))]
   ·rw[if_neg h',if_neg h']
def xa (l:List TPayment):List (Int×Bool):=l.foldl (fun m p=>yj m p.Warrant true) []
theorem C7 (w:Int):∀(l:List TPayment) (m:List (Int×Bool)),(j6 (l.foldl (fun m p=>yj m p.Warrant true) m) w).getD false=((j6 m w).getD false||l.any fun x=>decide (x.Warrant=w))
 |[],m=>by simp
 |p::l,m=>by
  rw[List.foldl_cons,C7 w l,Of,List.any_cons]
  by_cases h:w=p.Warrant
  ·simp[h]
  ·have h':¬p.Warrant=w:=fun e=>h e.symm
   simp[h,h']
theorem Rn (l:List TPayment) (w:Int):(j6 (xa l) w).getD false=l.any fun x=>decide (x.Warrant=w):=by
 rw[xa,C7]
 simp[j6]
theorem NJ (l:List TPayment) (p:TPayment):yj (xa l) p.Warrant true=xa (l++[p]):=by
 rw[xa,xa,List.foldl_append]
 rfl
theorem C1 (l:List TPayment) (hl:l.length≤1000000):PFun Tryz.prog none none 173 [aQ l] (·=bv (!dA [] l)):=by
 refine ab Tryz.func173 rfl (by simp[Tryz.f173]) (by kernel_rfl) ?_
 intro E hP hr hs hW hN
 obtain⟨R,hR⟩:∃R,R=dA [] l:=⟨_,rfl⟩
 rw[←hR]
 simp -dsimp -implicitDefEqProofs [go_sem,hP]
 obtain⟨I,hI⟩:∃I:Nat→St→Prop,I=fun m s=>∃k:Nat,k≤l.length∧m=l.length-k∧R=dA (l.take k) (l.drop k)∧s.t 3= .mref 0∧s.t 7=aQ l∧s.t 8=iv l.length∧s.t 9=iv k∧s.H[0]?=some (some ⟨0,2,oK Ir (xa (l.take k))⟩):=⟨_,rfl⟩
 refine az I (l.length) (by rw[hN];rfl) ?_ ?_
 ·rw[hI]
  exact⟨0,by omega,by omega,by rw[hR];rfl,rfl,rfl,rfl,rfl,by simp -dsimp[go_sem];rfl⟩
 intro m s hs'
 rw[hI]at hs'
 obtain⟨k,hk,hm,hq,t3,t7,t8,t9,hH⟩:=hs'
 have lt0:=(gsI hH)
 simp -dsimp -implicitDefEqProofs [go_sem,hP,t8,t9]
 refine aB ?_ ?_<;>intro h
 ·have hk:k<l.length:=by simpa using h
  obtain⟨p,hp⟩:=gkE hk
  have wk:=ae ((k:Int)+1) (by omega)
  rw[dt hp,dA]at hq
  have sg:=Rn (l.take k) p.Warrant
  have ss:=NJ (l.take k) p
  rw[←ce hp]at ss hq
  generalize xa (l.take k)=M at sg ss hH
  generalize (l.take k).any (fun x=>decide (x.Warrant=p.Warrant))=y at sg hq
  cases y
  ·rw[Bool.not_false,zP]at hq
   simp -dsimp -implicitDefEqProofs [-getElem?_pos,go_sem,hP,t7,t9,hp,cPy,t3,lt0,hH,sg]
   simp -dsimp -implicitDefEqProofs [-getElem?_pos,go_sem,hP,t3,lt0,hH,wk,t9,ss]
   refine⟨l.length-(k+1),by omega,?_⟩
   rw[hI]
   exact⟨k+1,by omega,rfl,hq,t3,t7,t8,rfl,by simp -dsimp[-getElem?_pos,go_sem,lt0]⟩
  ·rw[Bool.not_true,zJ]at hq
   simp -dsimp -implicitDefEqProofs [-getElem?_pos,go_sem,hP,t7,t9,hp,cPy,t3,lt0,hH,sg,hq]
 ·have hk:k=l.length:=by simp at h;omega
  subst hk
  rw[wG,dA]at hq
  simp -dsimp -implicitDefEqProofs [go_sem,hP,hq]
theorem DM (d:Int):PFun Tryz.prog none none 49 [iv d] (·=bv (amg d 0 36000)):=by
 refine ab Tryz.func49 rfl (by simp[Tryz.f49]) (by kernel_rfl) ?_
 intro E hP hr hs hW hN
 by_cases h1:0≤d<;>by_cases h2:d≤36000<;>simp -dsimp[go_sem,hP,h1,h2,amg]
theorem Fo (d:Int):PFun Tryz.prog none none 226 [iv d] (·=bv (amg d 0 36000)):=by
 refine ab Tryz.func226 rfl (by simp[Tryz.f226]) (by kernel_rfl) ?_
 intro E hP hr hs hW hN
 by_cases h1:0≤d<;>by_cases h2:d≤36000<;>simp -dsimp[go_sem,hP,h1,h2,amg]
theorem th (d:Int):PFun Tryz.prog none none 97 [iv d] (·=bv (iG d)):=by
 refine ab Tryz.func97 rfl (by simp[Tryz.f97]) (by kernel_rfl) ?_
 intro E hP hr hs hW hN
 simp -dsimp[go_sem,hP]
 refine ai (DM d) hP s8 (ak (by simp -dsimp[go_sem])) .sc ?_
 cases h:amg d 0 36000
 ·simp -dsimp[go_sem,hP,h,iG]
 have hd:=dH.1 h
 have e:d.tmod 7=d%7:=wB (by omega)
 have w:=ae (d%7) (by omega)
 simp -dsimp[go_sem,hP,h,iG,e,w]
theorem kL (d:Int):PFun Tryz.prog none none 146 [iv d] (·=bv (iG d)):=by
 refine ab Tryz.func146 rfl (by simp[Tryz.f146]) (by kernel_rfl) ?_
 intro E hP hr hs hW hN
 simp -dsimp[go_sem,hP]
 refine ai (Fo d) hP Ut (ak (by simp -dsimp[go_sem])) .sc ?_
 cases h:amg d 0 36000
 ·simp -dsimp[go_sem,hP,h,iG]
 have hd:=dH.1 h
 have e:d.tmod 7=d%7:=wB (by omega)
 have w:=ae (d%7) (by omega)
 simp -dsimp[go_sem,hP,h,iG,e,w]
open Go.PA
open Go.RowKit
set_option maxHeartbeats 1000000 in
theorem OJ (q:TQueue) (hf:FitQ q):PFun Tryz.prog none none 174 [.agg q.cells] (·=bv (bM q.Known 0 0 q.Batches)):=by
 refine ab Tryz.func174 rfl (by simp[Tryz.f174]) (by kernel_rfl) ?_
 intro E hP hr hs hW hN
 have iq:=df q
 obtain⟨R,hR⟩:∃R,R=bM q.Known 0 0 q.Batches:=⟨_,rfl⟩
 rw[←hR]
 have str:=wz q
 rw[cQu]at iq str
 simp only[aA]at iq str
 have hk9:=hf.k
 have hb9:=hf.b
 obtain⟨l,hl⟩:∃l,l=q.Batches:=⟨_,rfl⟩
 have each:∀b,b∈l→b.Payments.length≤100000:=hl▸hf.each
 rw[←hl]at hR hb9 str iq
 simp -dsimp -implicitDefEqProofs [go_sem,hP,cQu,aA,←hl]
 obtain⟨I,hI⟩:∃I:Nat→St→Prop,I=fun m s=>∃(k:Nat) (d:Int),k≤l.length∧m=l.length-k∧R=bM q.Known k d (l.drop k)∧s.t 1= .ref 0 0 0∧s.t 3=iv d∧s.t 7=cd l∧s.t 8=iv l.length∧s.t 9=iv k∧s.H[0]?=some (some ⟨32,3,[[aQ q.Waiting,.list 1 (q.Known.map fun x=>[iv x]),cd l]]⟩):=⟨_,rfl⟩
 refine az I (l.length) (by rw[hN];rfl) ?_ ?_
 ·rw[hI]
  exact⟨0,0,by omega,by omega,by rw[hR];rfl,rfl,rfl,rfl,rfl,rfl,rfl⟩
 intro m s hs'
 rw[hI]at hs'
 obtain⟨k,d,hk,hm,hq,t1,t3,t7,t8,t9,h0⟩:=hs'
 have lt0:=(gsI h0)
 simp -dsimp -implicitDefEqProofs [go_sem,hP,t8,t9]
 refine aB ?_ ?_<;>intro h
 ·have hk:k<l.length:=by simpa using h
  obtain⟨b,hb⟩:=gkE hk
  have hbl:=each b (zE hb)
  have wk:=ae ((k:Int)+1) (by omega)
  have ip:=cg b.Payments
  rw[dt hb,bM,Cj]at hq
  simp -dsimp -implicitDefEqProofs [go_sem,hP,t7,t9,hb,cBt]
  by_cases c1:b.Number=(k:Int)+1
  rotate_left
  ·rw[zA c1,zJ,zJ]at hq
   have d1:=zA c1
   simp -dsimp -implicitDefEqProofs [go_sem,hP,wk,c1,d1,hq]
  rw[zC c1,zP]at hq
  by_cases c2:d≤b.Day
  rotate_left
  ·rw[zA c2,zJ,zJ]at hq
   have d2:decide (b.Day<d)=true:=zC (by omega)
   simp -dsimp -implicitDefEqProofs [go_sem,hP,wk,c1,t3,d2,hq]
  rw[zC c2,zP]at hq
  have d2:decide (b.Day<d)=false:=zA (by omega)
  simp -dsimp -implicitDefEqProofs [go_sem,hP,wk,c1,t3,d2]
  refine ai (th b.Day) hP PW (ak (by simp -dsimp[go_sem])) .sc ?_
  cases c3:iG b.Day
  ·rw[c3,zJ,zJ]at hq
   simp -dsimp -implicitDefEqProofs [go_sem,hP,c3,hq]
  rw[c3,zP]at hq
  simp -dsimp -implicitDefEqProofs [go_sem,hP,c3]
  refine ai (js b.Payments.length 1 10) hP rS (ak (by simp -dsimp[go_sem])) .sc ?_
  cases c4:amg b.Payments.length 1 10
  ·rw[c4,zJ,zJ]at hq
   simp -dsimp -implicitDefEqProofs [go_sem,hP,c4,hq]
  rw[c4,zP,vn]at hq
  simp -dsimp -implicitDefEqProofs [go_sem,hP,c4]
  refine aJ ((xv b.Payments (by omega)).lift _ _) hP Qz (by simpa using ip) .sc ?_
  cases c5:eP none b.Payments
  ·rw[c5,zJ,zJ]at hq
   simp -dsimp -implicitDefEqProofs [go_sem,hP,c5,hq]
  rw[c5,zP]at hq
  simp -dsimp -implicitDefEqProofs [-getElem?_pos,go_sem,hP,c5,t1,h0,lt0]
  refine aJ ((str b.Payments (by omega) (by omega)).lift _ _) hP Ow (by simpa using⟨iq,ip⟩) .sc ?_
  cases c6:b.Payments.all (inK q.Known)
  ·rw[c6,zJ,zJ]at hq
   simp -dsimp -implicitDefEqProofs [go_sem,hP,c6,hq]
  rw[c6,zP]at hq
  simp -dsimp -implicitDefEqProofs [go_sem,hP,c6]
  refine aJ ((C1 b.Payments (by omega)).lift _ _) hP QA (by simpa using ip) .sc ?_
  cases c7:dA [] b.Payments
  ·rw[c7,zJ]at hq
   simp -dsimp -implicitDefEqProofs [go_sem,hP,c7,hq]
  rw[c7,zP]at hq
  simp -dsimp -implicitDefEqProofs [go_sem,hP,c7,t9,wk]
  refine⟨l.length-(k+1),by omega,?_⟩
  rw[hI]
  exact⟨k+1,b.Day,by omega,rfl,hq,t1,rfl,t7,t8,rfl,by simp -dsimp[-getElem?_pos,go_sem,lt0,h0]⟩
 ·have hk:k=l.length:=by simp at h;omega
  subst hk
  rw[wG,bM]at hq
  simp -dsimp -implicitDefEqProofs [go_sem,hP,hq]
set_option maxHeartbeats 1000000 in
theorem MD (q:TQueue) (hf:FitQ q):PFun Tryz.prog none none 113 [.agg q.cells] (·=iv (cH q)):=by
 refine ab Tryz.func113 rfl (by simp[Tryz.f113]) (by kernel_rfl) ?_
 intro E hP hr hs hW hN
 have iq:=df q
 have iw:=cg q.Waiting
 have ik:=gk q.Known
 obtain⟨R,hR⟩:∃R,R=cH q:=⟨_,rfl⟩
 rw[←hR]
 have str:=wz q
 have sen:=OJ q hf
 have knn:=La q.Known (by have:=hf.k;omega)
 rw[cQu]at iq str sen
 simp only[aA]at iq str sen knn ik
 have hk9:=hf.k
 have hb9:=hf.b
 have hw9:=hf.w
 rw[cH]at hR
 by_cases c1:100<q.Waiting.length
 ·have d1:decide ((100:Int)<(q.Waiting.length:Int))=true:=zC (by omega)
  rw[if_pos (.inl c1)]at hR
  simp -dsimp -implicitDefEqProofs [go_sem,hP,cQu,aA,c1,d1,hR]
 have d1:decide ((100:Int)<(q.Waiting.length:Int))=false:=zA (by omega)
 by_cases c2:200<q.Known.length
 ·have d2:decide ((200:Int)<(q.Known.length:Int))=true:=zC (by omega)
  rw[if_pos (.inr (.inl c2))]at hR
  simp -dsimp -implicitDefEqProofs [go_sem,hP,cQu,aA,c1,d1,c2,d2,hR]
 have d2:decide ((200:Int)<(q.Known.length:Int))=false:=zA (by omega)
 by_cases c3:200<q.Batches.length
 ·have d3:decide ((200:Int)<(q.Batches.length:Int))=true:=zC (by omega)
  rw[if_pos (.inr (.inr c3))]at hR
  simp -dsimp -implicitDefEqProofs [go_sem,hP,cQu,aA,c1,d1,c2,d2,c3,d3,hR]
 have d3:decide ((200:Int)<(q.Batches.length:Int))=false:=zA (by omega)
 rw[if_neg (by omega),vn]at hR
 simp -dsimp -implicitDefEqProofs [go_sem,hP,cQu,aA,d1,d2,d3]
 refine aJ ((xv q.Waiting (by omega)).lift _ _) hP Qz (by simpa using iw) .sc ?_
 cases c5:eP none q.Waiting
 ·rw[c5,zJ,zJ,vM,if_neg (by simp)]at hR
  simp -dsimp -implicitDefEqProofs [go_sem,hP,c5,hR]
 rw[c5,zP]at hR
 simp -dsimp -implicitDefEqProofs [go_sem,hP,c5]
 refine af knn hP U9 (by simpa using ik) .sc ?_
 cases c4:gW none q.Known
 ·rw[c4,zJ,if_neg (by simp)]at hR
  simp -dsimp -implicitDefEqProofs [go_sem,hP,c4,hR]
 rw[c4,zP]at hR
 simp -dsimp -implicitDefEqProofs [go_sem,hP,c4]
 refine aJ ((str q.Waiting (by omega) (by omega)).lift _ _) hP Ow (by simpa using⟨iq,iw⟩) .sc ?_
 cases c6:q.Waiting.all (inK q.Known)
 ·rw[c6,zJ,zJ,if_neg (by simp)]at hR
  simp -dsimp -implicitDefEqProofs [go_sem,hP,c6,hR]
 rw[c6,zP]at hR
 simp -dsimp -implicitDefEqProofs [go_sem,hP,c6]
 refine aJ ((C1 q.Waiting (by omega)).lift _ _) hP QA (by simpa using iw) .sc ?_
 cases c7:dA [] q.Waiting
 ·rw[c7,zJ,if_neg (by simp)]at hR
  simp -dsimp -implicitDefEqProofs [go_sem,hP,c7,hR]
 rw[c7,zP]at hR
 simp -dsimp -implicitDefEqProofs [go_sem,hP,c7]
 refine af sen hP T3 (by simpa using iq) .sc ?_
 cases c8:bM q.Known 0 0 q.Batches
 ·rw[c8,if_neg (by simp)]at hR
  simp -dsimp -implicitDefEqProofs [go_sem,hP,c8,hR]
 rw[c8,if_pos rfl]at hR
 simp -dsimp -implicitDefEqProofs [go_sem,hP,c8,hR]
open Go.PA
open Go.RowKit
theorem yM (p:TPayment):PFun Tryz.prog none none 220 [.agg p.cells] (·=bv (gx p)):=by
 refine ab Tryz.func220 rfl (by simp[Tryz.f220]) (by kernel_rfl) ?_
 intro E hP hr hs hW hN
 obtain⟨R,hR⟩:∃R,R=gx p:=⟨_,rfl⟩
 rw[←hR]
 have hiff:=g8 p
 rw[←hR]at hiff
 have no:¬PayOk p→R=false:=fun h=>Bool.eq_false_iff.2 fun e=>h (hiff.1 e)
 have yes:PayOk p→R=true:=hiff.2
 by_cases c1:1≤p.Warrant
 rotate_left
 ·have:=no fun h=>c1 h.warrant.1
  simp -dsimp -implicitDefEqProofs [go_sem,hP,cPy,c1,this]
 by_cases c2:p.Warrant≤1000000
 rotate_left
 ·have:=no fun h=>c2 h.warrant.2
  simp -dsimp -implicitDefEqProofs [go_sem,hP,cPy,c1,c2,this]
 by_cases c3:1≤p.Payee
 rotate_left
 ·have:=no fun h=>c3 h.payee.1
  simp -dsimp -implicitDefEqProofs [go_sem,hP,cPy,c1,c2,c3,this]
 by_cases c4:p.Payee≤1000000
 rotate_left
 ·have:=no fun h=>c4 h.payee.2
  simp -dsimp -implicitDefEqProofs [go_sem,hP,cPy,c1,c2,c3,c4,this]
 by_cases c5:1≤p.Amount
 rotate_left
 ·have:=no fun h=>c5 h.amount.1
  simp -dsimp -implicitDefEqProofs [go_sem,hP,cPy,c1,c2,c3,c4,c5,this]
 by_cases c6:p.Amount≤1000000000000
 rotate_left
 ·have:=no fun h=>c6 h.amount.2
  simp -dsimp -implicitDefEqProofs [go_sem,hP,cPy,c1,c2,c3,c4,c5,c6,this]
 by_cases c7:0≤p.Due
 rotate_left
 ·have:=no fun h=>c7 h.due.1
  simp -dsimp -implicitDefEqProofs [go_sem,hP,cPy,c1,c2,c3,c4,c5,c6,c7,this]
 by_cases c8:p.Due≤35990
 rotate_left
 ·have:=no fun h=>c8 h.due.2
  simp -dsimp -implicitDefEqProofs [go_sem,hP,cPy,c1,c2,c3,c4,c5,c6,c7,c8,this]
 by_cases c9:1≤p.Sub
 rotate_left
 ·have:=no fun h=>c9 h.sub.1
  simp -dsimp -implicitDefEqProofs [go_sem,hP,cPy,c1,c2,c3,c4,c5,c6,c7,c8,c9,this]
 by_cases c10:p.Sub≤1000
 rotate_left
 ·have:=no fun h=>c10 h.sub.2
  simp -dsimp -implicitDefEqProofs [go_sem,hP,cPy,c1,c2,c3,c4,c5,c6,c7,c8,c9,c10,this]
 have:=yes ⟨⟨c1,c2⟩,⟨c3,c4⟩,⟨c5,c6⟩,⟨c7,c8⟩,c9,c10⟩
 simp -dsimp -implicitDefEqProofs [go_sem,hP,cPy,c1,c2,c3,c4,c5,c6,c7,c8,c9,c10,this]
theorem Am (a b:TPayment):PFun Tryz.prog none none 282 [.agg a.cells,.agg b.cells] (·=bv (g7 a b)):=by
 refine ab Tryz.func282 rfl (by simp[Tryz.f282]) (by kernel_rfl) ?_
 intro E hP hr hs hW hN
 by_cases c1:a.Due<b.Due
 ·have:g7 a b=true:=kE.2 (.inl c1)
  simp -dsimp -implicitDefEqProofs [go_sem,hP,cPy,c1,this]
 by_cases c2:a.Due=b.Due
 rotate_left
 ·have:g7 a b=false:=Bool.eq_false_iff.2 fun e=>by have:=kE.1 e;unfold Bef at this;omega
  simp -dsimp -implicitDefEqProofs [go_sem,hP,cPy,c1,c2,this]
 have d1:decide (b.Due<b.Due)=false:=zA (by omega)
 by_cases c3:a.Warrant<b.Warrant
 ·have:g7 a b=true:=kE.2 (.inr ⟨c2,c3⟩)
  simp -dsimp -implicitDefEqProofs [go_sem,hP,cPy,c1,c2,c3,d1,this]
 ·have:g7 a b=false:=Bool.eq_false_iff.2 fun e=>by have:=kE.1 e;unfold Bef at this;omega
  simp -dsimp -implicitDefEqProofs [go_sem,hP,cPy,c1,c2,c3,d1,this]
theorem uP (q:TQueue) (w:Int) (hl:q.Known.length≤1000000):PFun Tryz.prog none none 224 [.agg q.cells,iv w] (·=bv (decide (w∈q.Known))):=by
 refine ab Tryz.func224 rfl (by simp[Tryz.f224]) (by kernel_rfl) ?_
 intro E hP hr hs hW hN
 obtain⟨R,hR⟩:∃R,R=decide (w∈q.Known):=⟨_,rfl⟩
 rw[←hR]
 obtain⟨l,hll⟩:∃l,l=q.Known:=⟨_,rfl⟩
 rw[←hll]at hR hl
 simp -dsimp -implicitDefEqProofs [go_sem,hP,cQu,aA,←hll]
 obtain⟨I,hI⟩:∃I:Nat→St→Prop,I=fun m s=>∃k:Nat,k≤l.length∧m=l.length-k∧R=decide (w∈l.drop k)∧s.t 1=iv w∧s.t 8=aA l∧s.t 9=iv l.length∧s.t 10=iv k:=⟨_,rfl⟩
 refine az I (l.length) (by rw[hN];rfl) ?_ ?_
 ·rw[hI]
  exact⟨0,by omega,by omega,by rw[hR];rfl,rfl,by simp -dsimp[-getElem?_pos,go_sem,aA],rfl,rfl⟩
 intro m s hs'
 rw[hI]at hs'
 obtain⟨k,hk,hm,hq,t1,t8,t9,t10⟩:=hs'
 simp -dsimp -implicitDefEqProofs [go_sem,hP,t9,t10]
 refine aB ?_ ?_<;>intro h
 ·have hk:k<l.length:=by simpa using h
  obtain⟨a,ha⟩:=gkE hk
  have wk:=ae ((k:Int)+1) (by omega)
  rw[dt ha]at hq
  simp only[zO]at hq
  by_cases c:a=w
  ·have:R=true:=by rw[hq];simp[c]
   simp -dsimp -implicitDefEqProofs [go_sem,hP,t8,t10,aA,ha,t1,c,this]
  ·have c':¬w=a:=fun e=>c e.symm
   have d:=zA c
   simp only[c',false_or]at hq
   simp -dsimp -implicitDefEqProofs [go_sem,hP,t8,t10,aA,ha,t1,c,d,wk]
   refine⟨l.length-(k+1),by omega,?_⟩
   rw[hI]
   exact⟨k+1,by omega,rfl,hq,t1,t8,t9,rfl⟩
 ·have hk:k=l.length:=by simp at h;omega
  subst hk
  rw[wG]at hq
  have:R=false:=by rw[hq];simp
  simp -dsimp -implicitDefEqProofs [go_sem,hP,this]
theorem uj (q:TQueue) (w:Int) (hl:q.Waiting.length≤1000000):PFun Tryz.prog none none 227 [.agg q.cells,iv w] (·=iv (fF q w)):=by
 refine ab Tryz.func227 rfl (by simp[Tryz.f227]) (by kernel_rfl) ?_
 intro E hP hr hs hW hN
 obtain⟨R,hR⟩:∃R,R=fF q w:=⟨_,rfl⟩
 rw[←hR]
 rw[fF]at hR
 obtain⟨l,hll⟩:∃l,l=q.Waiting:=⟨_,rfl⟩
 rw[←hll]at hR hl
 simp -dsimp -implicitDefEqProofs [go_sem,hP,cQu,aA,←hll]
 obtain⟨I,hI⟩:∃I:Nat→St→Prop,I=fun m s=>∃k:Nat,k≤l.length∧m=l.length-k∧R=bE (fun p:TPayment=>decide (p.Warrant=w)) k (l.drop k)∧s.t 1=iv w∧s.t 8=aQ l∧s.t 9=iv l.length∧s.t 10=iv k:=⟨_,rfl⟩
 refine az I (l.length) (by rw[hN];rfl) ?_ ?_
 ·rw[hI]
  exact⟨0,by omega,by omega,by rw[hR];rfl,rfl,rfl,rfl,rfl⟩
 intro m s hs'
 rw[hI]at hs'
 obtain⟨k,hk,hm,hq,t1,t8,t9,t10⟩:=hs'
 simp -dsimp -implicitDefEqProofs [go_sem,hP,t9,t10]
 refine aB ?_ ?_<;>intro h
 ·have hk:k<l.length:=by simpa using h
  obtain⟨a,ha⟩:=gkE hk
  have wk:=ae ((k:Int)+1) (by omega)
  rw[dt ha,bE]at hq
  by_cases c:a.Warrant=w
  ·rw[if_pos (by simpa using c)]at hq
   simp -dsimp -implicitDefEqProofs [go_sem,hP,t8,t10,ha,cPy,t1,c,hq]
  ·rw[if_neg (by simpa using c)]at hq
   have d:=zA c
   simp -dsimp -implicitDefEqProofs [go_sem,hP,t8,t10,ha,cPy,t1,c,d,wk]
   refine⟨l.length-(k+1),by omega,?_⟩
   rw[hI]
   exact⟨k+1,by omega,rfl,hq,t1,t8,t9,rfl⟩
 ·have hk:k=l.length:=by simp at h;omega
  subst hk
  rw[wG,bE]at hq
  simp -dsimp -implicitDefEqProofs [go_sem,hP,hq]
set_option maxHeartbeats 1000000 in
theorem CD (q:TQueue) (l:List TPayment) (hk9:q.Known.length≤1000000) (hl:l.length≤1000000):PFun Tryz.prog none none 281 [.agg q.cells,aQ l] (·=bv (vn q.Known l)):=by
 refine ab Tryz.func281 rfl (by simp[Tryz.f281]) (by kernel_rfl) ?_
 intro E hP hr hs hW hN
 have iq:=df q
 have knn:=fun w=>uP q w hk9
 rw[cQu]at iq
 simp only[cQu]at knn
 simp only[aA]at iq knn
 obtain⟨R,hR⟩:∃R,R=vn q.Known l:=⟨_,rfl⟩
 rw[←hR]
 simp -dsimp -implicitDefEqProofs [go_sem,hP,cQu,aA]
 obtain⟨I,hI⟩:∃I:Nat→St→Prop,I=fun m s=>∃(k:Nat) (o:Option TPayment),k≤l.length∧m=l.length-k∧R=(eP o (l.drop k)&&((l.drop k).all (inK q.Known)&&dA (l.take k) (l.drop k)))∧(k=0→o=none)∧(∀j x,k=j+1→l[j]?=some x→o=some x)∧s.t 1=aQ l∧s.t 2= .ref 0 0 0∧s.t 9=aQ l∧s.t 10=iv l.length∧s.t 11=iv k∧s.H[0]?=some (some ⟨32,3,[[aQ q.Waiting,.list 1 (q.Known.map fun x=>[iv x]),cd q.Batches]]⟩):=⟨_,rfl⟩
 refine az I (l.length) (by rw[hN];rfl) ?_ ?_
 ·rw[hI]
  exact⟨0,none,by omega,by omega,by rw[hR];rfl,by simp,by omega,rfl,rfl,rfl,rfl,rfl,rfl⟩
 intro m s hs'
 rw[hI]at hs'
 obtain⟨k,o,hk,hm,hq,ho0,ho1,t1,t2,t9,t10,t11,h0⟩:=hs'
 have lt0:=(gsI h0)
 simp -dsimp -implicitDefEqProofs [go_sem,hP,t10,t11]
 refine aB ?_ ?_<;>intro h
 rotate_left
 ·have hk:k=l.length:=by simp at h;omega
  subst hk
  rw[wG,eP,dA]at hq
  have:R=true:=by rw[hq];rfl
  simp -dsimp -implicitDefEqProofs [go_sem,hP,this]
 have hk:k<l.length:=by simpa using h
 obtain⟨p,hp⟩:=gkE hk
 have wk:=ae ((k:Int)+1) (by omega)
 have ip:=dX p
 have py:=yM p
 rw[cPy]at py ip
 rw[dt hp,eP,List.all_cons,dA,←ce hp]at hq
 have g0:∀x:Option AObj,(s.H++[x])[0]?=some (some ⟨32,3,[[aQ q.Waiting,.list 1 (q.Known.map fun x=>[iv x]),cd q.Batches]]⟩):=fun x=>by rw[zD lt0];exact h0
 obtain⟨n,hn⟩:∃n,n=s.H.length:=⟨_,rfl⟩
 obtain⟨Inv,hInv⟩:∃Inv:St→Prop,Inv=fun s'=>(R=false∧s'.t 39=bv true∨s'.t 39=bv false∧R=(eP (some p) (l.drop (k+1))&&(((l.drop (k+1)).all (inK q.Known))&&(!((l.take k).any fun x=>decide (x.Warrant=p.Warrant))&&dA (l.take (k+1)) (l.drop (k+1))))))∧s'.t 1=aQ l∧s'.t 2= .ref 0 0 0∧s'.t 5=iv k∧s'.t 6= .ref n 0 0∧s'.t 9=aQ l∧s'.t 10=iv l.length∧s'.t 11=iv k∧s'.H[0]?=some (some ⟨32,3,[[aQ q.Waiting,.list 1 (q.Known.map fun x=>[iv x]),cd q.Batches]]⟩)∧s'.H[n]?=some (some ⟨111,5,[[iv p.Warrant,iv p.Payee,iv p.Amount,iv p.Due,iv p.Sub]]⟩):=⟨_,rfl⟩
 have fin:∀s':St,(R=false∧s'.t 39=bv true∨s'.t 39=bv false∧R=(eP (some p) (l.drop (k+1))&&(((l.drop (k+1)).all (inK q.Known))&&(!((l.take k).any fun x=>decide (x.Warrant=p.Warrant))&&dA (l.take (k+1)) (l.drop (k+1))))))→s'.t 1=aQ l→s'.t 2= .ref 0 0 0→s'.t 5=iv k→s'.t 6= .ref n 0 0→s'.t 9=aQ l→s'.t 10=iv l.length→s'.t 11=iv k→s'.H[0]?=some (some ⟨32,3,[[aQ q.Waiting,.list 1 (q.Known.map fun x=>[iv x]),cd q.Batches]]⟩)→s'.H[n]?=some (some ⟨111,5,[[iv p.Warrant,iv p.Payee,iv p.Amount,iv p.Due,iv p.Sub]]⟩)→Inv s':=fun s' a b c d e f g h i j=>by
  rw[hInv]
  exact⟨a,b,c,d,e,f,g,h,i,j⟩
 simp -dsimp -implicitDefEqProofs [go_sem,hP,t9,t11,hp,cPy]
 refine uy Inv ?_ ?_
 ·refine aq (fun _=>true) [] hP (by kernel_rfl) (by kernel_rfl) ?_
  simp -dsimp -implicitDefEqProofs [go_sem,hP]
  refine af py hP D7 (by simpa using ip) .sc ?_
  cases h1:gx p
  ·rw[h1,zJ,zJ]at hq
   simp -dsimp -implicitDefEqProofs [go_sem,hP,h1]
   exact fin _ (.inl ⟨hq,rfl⟩) t1 t2 rfl (by simp -dsimp[-getElem?_pos,go_sem,hn]) t9 t10 t11 (by simp -dsimp[-getElem?_pos,go_sem,g0]) (by simp -dsimp[-getElem?_pos,go_sem,hn])
  rw[h1,zP]at hq
  simp -dsimp -implicitDefEqProofs [-getElem?_pos,go_sem,hP,h1,t2,g0,lt0,h0]
  refine aJ ((knn p.Warrant).lift _ _) hP Ib (by simpa[an]using iq) .sc ?_
  cases h2:decide (p.Warrant∈q.Known)
  ·have hq:R=false:=by rw[hq,inK,h2,zJ,zJ,vM]
   simp -dsimp -implicitDefEqProofs [go_sem,hP,h2]
   exact fin _ (.inl ⟨hq,rfl⟩) t1 t2 rfl (by simp -dsimp[-getElem?_pos,go_sem,hn]) t9 t10 t11 (by simp -dsimp[-getElem?_pos,go_sem,g0]) (by simp -dsimp[-getElem?_pos,go_sem,hn])
  rw[inK,h2,zP]at hq
  rcases wR k with k0|k0
  ·rw[ho0 k0,yz,zP]at hq
   have k0':¬0<k:=by omega
   have hjk:decide ((0:Int)<(k:Int))=false:=zA (by omega)
   simp -dsimp -implicitDefEqProofs [go_sem,hP,h2,k0',hjk]
   exact fin _ (.inr ⟨rfl,hq⟩) t1 t2 rfl (by simp -dsimp[-getElem?_pos,go_sem,hn]) t9 t10 t11 (by simp -dsimp[-getElem?_pos,go_sem,g0]) (by simp -dsimp[-getElem?_pos,go_sem,hn])
  obtain⟨j,hj⟩:∃j,k=j+1:=⟨k-1,by omega⟩
  obtain⟨x,hx⟩:∃x,l[j]?=some x:=⟨_,zF (by omega)⟩
  have hox:=ho1 j x hj hx
  have hjk:decide ((0:Int)<(k:Int))=true:=zC (by omega)
  have wj:IntKind.i64.wrap ((k:Int)-1)=(j:Int):=by rw[ae _ (by omega)];omega
  have cm:=Am x p
  have ix:=dX x
  rw[cPy,cPy]at cm
  rw[cPy]at ix
  rw[hox,yz]at hq
  simp -dsimp -implicitDefEqProofs [go_sem,hP,h2,k0,hjk,wj,t1,hx,cPy]
  refine af cm hP Ol (by simpa using⟨ix,ip⟩) .sc ?_
  cases c:g7 x p
  ·rw[c,zJ,zJ]at hq
   simp -dsimp -implicitDefEqProofs [go_sem,hP,c]
   exact fin _ (.inl ⟨hq,rfl⟩) t1 t2 rfl (by simp -dsimp[-getElem?_pos,go_sem,hn]) t9 t10 t11 (by simp -dsimp[-getElem?_pos,go_sem,g0]) (by simp -dsimp[-getElem?_pos,go_sem,hn])
  ·rw[c,zP]at hq
   simp -dsimp -implicitDefEqProofs [go_sem,hP,c]
   exact fin _ (.inr ⟨rfl,hq⟩) t1 t2 rfl (by simp -dsimp[-getElem?_pos,go_sem,hn]) t9 t10 t11 (by simp -dsimp[-getElem?_pos,go_sem,g0]) (by simp -dsimp[-getElem?_pos,go_sem,hn])
 clear hq ho0 ho1 t1 t2 t9 t10 t11 h0 lt0 g0 fin
 rw[hInv]
 rintro s ⟨hR'|⟨t39,hq⟩,t1,t2,t5,t6,t9,t10,t11,h0,hN'⟩
 ·simp -dsimp -implicitDefEqProofs [go_sem,hP,hR'.1,hR'.2]
 have lt0:=(gsI h0)
 have ltn:=(zM.1 hN').1
 have e1:(ao TPayment.cells l).take k=ao TPayment.cells (l.take k):=gS _ _ _
 have e2:(l.take k).length=k:=by simp;omega
 obtain⟨T,hT⟩:∃T,T=l.take k:=⟨_,rfl⟩
 rw[←hT]at e1 e2 hq
 clear hT
 have c1:(0:Int)≤(k:Int)∧(k:Int)≤(l.length:Int):=by omega
 simp -dsimp -implicitDefEqProofs [go_sem,hP,t39,t1,t5,bL,dL,dD,c1,e1]
 obtain⟨J,hJ⟩:∃I:Nat→St→Prop,I=fun m s=>∃(j:Nat),j≤k∧m=k-j∧R=(eP (some p) (l.drop (k+1))&&(((l.drop (k+1)).all (inK q.Known))&&(!((T.drop j).any fun x=>decide (x.Warrant=p.Warrant))&&dA (l.take (k+1)) (l.drop (k+1)))))∧s.t 1=aQ l∧s.t 2= .ref 0 0 0∧s.t 6= .ref n 0 0∧s.t 9=aQ l∧s.t 10=iv l.length∧s.t 11=iv k∧s.t 42=aQ T∧s.t 43=iv k∧s.t 44=iv j∧s.H[0]?=some (some ⟨32,3,[[aQ q.Waiting,.list 1 (q.Known.map fun x=>[iv x]),cd q.Batches]]⟩)∧s.H[n]?=some (some ⟨111,5,[[iv p.Warrant,iv p.Payee,iv p.Amount,iv p.Due,iv p.Sub]]⟩):=⟨_,rfl⟩
 refine az J (k) (by rw[hN];rfl) ?_ ?_
 ·rw[hJ]
  exact⟨0,by omega,by omega,hq,t1,t2,t6,t9,t10,t11,rfl,by simp -dsimp[-getElem?_pos,go_sem,e2],rfl,h0,by simp -dsimp[go_sem,hN']⟩
 clear t1 t2 t5 t6 t9 t10 t11 t39 h0 lt0 hN' ltn hq hn
 intro m s hs'
 rw[hJ]at hs'
 obtain⟨j,hj,hm2,hq,t1,t2,t6,t9,t10,t11,t42,t43,t44,h0,hN'⟩:=hs'
 have lt0:=(gsI h0)
 have ltn:=(zM.1 hN').1
 simp -dsimp -implicitDefEqProofs [go_sem,hP,t43,t44]
 refine aB ?_ ?_<;>intro hh
 ·have hj:j<k:=by simpa using hh
  obtain⟨x,hx⟩:∃x,T[j]?=some x:=⟨_,zF (by omega)⟩
  have wj:=ae ((j:Int)+1) (by omega)
  have gn:∀x:Option AObj,(s.H++[x])[n]?=some (some ⟨111,5,[[iv p.Warrant,iv p.Payee,iv p.Amount,iv p.Due,iv p.Sub]]⟩):=fun x=>by rw[zD ltn];exact hN'
  rw[dt hx,List.any_cons]at hq
  by_cases c:x.Warrant=p.Warrant
  ·have:R=false:=by rw[hq,zC c];simp
   simp -dsimp -implicitDefEqProofs [-getElem?_pos,go_sem,hP,t42,t44,hx,cPy,t6,gn,ltn,hN',c,this]
  ·have d:=zA c
   rw[d,Bool.false_or]at hq
   simp -dsimp -implicitDefEqProofs [-getElem?_pos,go_sem,hP,t42,t44,hx,cPy,t6,gn,ltn,hN',d,wj]
   refine⟨k-(j+1),by omega,?_⟩
   rw[hJ]
   exact⟨j+1,by omega,rfl,hq,t1,t2,t6,t9,t10,t11,t42,t43,rfl,by simp -dsimp[-getElem?_pos,go_sem,lt0,h0],by simp -dsimp[-getElem?_pos,go_sem,gn]⟩
 ·have hj:j=k:=by simp at hh;omega
  subst hj
  have e3:T.drop j=[]:=vH (by omega)
  rw[e3,List.any_nil,Bool.not_false,zP]at hq
  simp -dsimp -implicitDefEqProofs [go_sem,hP,t11,wk]
  refine⟨l.length-(j+1),by omega,?_⟩
  rw[hI]
  exact⟨j+1,some p,by omega,rfl,hq,by omega,lz (f:=some) hp,t1,t2,t9,t10,rfl,h0⟩
set_option maxHeartbeats 2000000 in
theorem iE (q:TQueue) (hf:FitQ q):PFun Tryz.prog none none 219 [.agg q.cells] (·=iv (cH q)):=by
 refine ab Tryz.func219 rfl (by simp[Tryz.f219]) (by kernel_rfl) ?_
 intro E hP hr hs hW hN
 have iq:=df q
 have iw:=cg q.Waiting
 obtain⟨R,hR⟩:∃R,R=cH q:=⟨_,rfl⟩
 rw[←hR]
 have hk9:=hf.k
 have hb9:=hf.b
 have hw9:=hf.w
 have asc:=fun l hl=>CD q l (by omega) hl
 rw[cQu]at iq
 simp only[cQu]at asc
 simp only[aA]at iq asc
 rw[cH]at hR
 by_cases c1:100<q.Waiting.length
 ·have d1:decide ((100:Int)<(q.Waiting.length:Int))=true:=zC (by omega)
  rw[if_pos (.inl c1)]at hR
  simp -dsimp -implicitDefEqProofs [go_sem,hP,cQu,aA,c1,d1,hR]
 have d1:decide ((100:Int)<(q.Waiting.length:Int))=false:=zA (by omega)
 by_cases c2:200<q.Known.length
 ·have d2:decide ((200:Int)<(q.Known.length:Int))=true:=zC (by omega)
  rw[if_pos (.inr (.inl c2))]at hR
  simp -dsimp -implicitDefEqProofs [go_sem,hP,cQu,aA,c1,d1,c2,d2,hR]
 have d2:decide ((200:Int)<(q.Known.length:Int))=false:=zA (by omega)
 by_cases c3:200<q.Batches.length
 ·have d3:decide ((200:Int)<(q.Batches.length:Int))=true:=zC (by omega)
  rw[if_pos (.inr (.inr c3))]at hR
  simp -dsimp -implicitDefEqProofs [go_sem,hP,cQu,aA,c1,d1,c2,d2,c3,d3,hR]
 have d3:decide ((200:Int)<(q.Batches.length:Int))=false:=zA (by omega)
 rw[if_neg (by omega)]at hR
 obtain⟨K,hK⟩:∃K,K=q.Known:=⟨_,rfl⟩
 obtain⟨W,hWt⟩:∃W,W=q.Waiting:=⟨_,rfl⟩
 obtain⟨l,hl⟩:∃l,l=q.Batches:=⟨_,rfl⟩
 have each:∀b,b∈l→b.Payments.length≤100000:=hl▸hf.each
 rw[←hK,←hWt,←hl]at hR iq asc
 rw[←hK]at hk9 d2
 rw[←hWt]at hw9 d1 iw
 rw[←hl]at hb9 d3
 have h0I:∀(H:ah),H[0]?=some (some ⟨32,3,[[aQ W,.list 1 (K.map fun x=>[iv x]),cd l]]⟩)→0<H.length:=fun H h=>(gsI h)
 have bad:∀a b:Bool,R=(if (a&&b)=true then 0 else 64)→(a=false∨b=false)→R=64:=fun a b h e=>by
  rw[h,if_neg]
  rcases e with e|e<;>simp[e]
 simp -dsimp -implicitDefEqProofs [go_sem,hP,cQu,aA,←hK,←hWt,←hl,d1,d2,d3]
 obtain⟨I,hI⟩:∃I:Nat→St→Prop,I=fun m s=>∃(k:Nat) (o:Option Int),k≤K.length∧m=K.length-k∧gW none K=gW o (K.drop k)∧(k=0→o=none)∧(∀j x,k=j+1→K[j]?=some x→o=some x)∧s.t 1= .ref 0 0 0∧s.t 24=aA K∧s.t 25=iv K.length∧s.t 26=iv k∧s.H[0]?=some (some ⟨32,3,[[aQ W,.list 1 (K.map fun x=>[iv x]),cd l]]⟩):=⟨_,rfl⟩
 refine az I (K.length) (by rw[hN];rfl) ?_ ?_
 ·rw[hI]
  exact⟨0,none,by omega,by omega,by rfl,by simp,by omega,rfl,by simp -dsimp[-getElem?_pos,go_sem,aA],rfl,rfl,rfl⟩
 intro m s hs'
 rw[hI]at hs'
 obtain⟨k,o,hk,hm,hq,ho0,ho1,t1,t24,t25,t26,h0⟩:=hs'
 have lt0:=h0I _ h0
 simp -dsimp -implicitDefEqProofs [go_sem,hP,t25,t26]
 refine aB ?_ ?_<;>intro hh
 ·have hk:k<K.length:=by simpa using hh
  obtain⟨p,hp⟩:=gkE hk
  have wk:=ae ((k:Int)+1) (by omega)
  rw[dt hp,gW]at hq
  by_cases e1:p<1
  ·rw[fp (by omega),zJ]at hq
   have:=bad _ _ hR (.inl hq)
   simp -dsimp -implicitDefEqProofs [go_sem,hP,t24,t26,aA,hp,e1,this]
  have f1:decide (p<1)=false:=zA e1
  by_cases e2:1000000<p
  ·rw[fp (by omega),zJ]at hq
   have:=bad _ _ hR (.inl hq)
   simp -dsimp -implicitDefEqProofs [go_sem,hP,t24,t26,aA,hp,f1,e2,this]
  have f2:decide (1000000<p)=false:=zA e2
  rw[dH.2 (by omega),zP]at hq
  rcases wR k with k0|k0
  ·rw[ho0 k0,yz,zP]at hq
   have k0':¬0<k:=by omega
   have hjk:decide ((0:Int)<(k:Int))=false:=zA (by omega)
   simp -dsimp -implicitDefEqProofs [go_sem,hP,t24,t26,aA,hp,f1,f2,k0',hjk,wk]
   refine⟨K.length-(k+1),by omega,?_⟩
   rw[hI]
   exact⟨k+1,some p,by omega,rfl,hq,by omega,lz (f:=some) hp,t1,t24,t25,rfl,h0⟩
  ·obtain⟨j,hj⟩:∃j,k=j+1:=⟨k-1,by omega⟩
   obtain⟨x,hx⟩:∃x,K[j]?=some x:=⟨_,zF (by omega)⟩
   have hox:=ho1 j x hj hx
   have hjk:decide ((0:Int)<(k:Int))=true:=zC (by omega)
   have wj:IntKind.i64.wrap ((k:Int)-1)=(j:Int):=by rw[ae _ (by omega)];omega
   rw[hox,yz]at hq
   by_cases c:x<p
   ·have f3:decide (p≤x)=false:=zA (by omega)
    rw[zC c,zP]at hq
    simp -dsimp -implicitDefEqProofs [-getElem?_pos,go_sem,hP,t24,t26,aA,hp,f1,f2,k0,hjk,wj,t1,lt0,h0,hx,f3,wk]
    refine⟨K.length-(k+1),by omega,?_⟩
    rw[hI]
    exact⟨k+1,some p,by omega,rfl,hq,by omega,lz (f:=some) hp,t1,t24,t25,rfl,h0⟩
   ·have f3:decide (p≤x)=true:=zC (by omega)
    rw[zA c,zJ]at hq
    have:=bad _ _ hR (.inl hq)
    simp -dsimp -implicitDefEqProofs [-getElem?_pos,go_sem,hP,t24,t26,aA,hp,f1,f2,k0,hjk,wj,t1,lt0,h0,hx,f3,this]
 have hk:k=K.length:=by simp at hh;omega
 subst hk
 rw[wG,gW]at hq
 rw[hq,zP]at hR
 clear hq ho0 ho1 t24 t25 t26 hh hI
 simp -dsimp -implicitDefEqProofs [-getElem?_pos,go_sem,hP,t1,h0,lt0]
 refine aJ ((asc W (by omega)).lift _ _) hP Jf (by simpa using⟨iq,iw⟩) .sc ?_
 cases b1:vn K W
 ·have:=bad _ _ hR (.inl b1)
  simp -dsimp -implicitDefEqProofs [go_sem,hP,b1,this]
 rw[b1,zP]at hR
 have bad:bM K 0 0 l=false→R=64:=fun e=>by rw[hR,e];rfl
 simp -dsimp -implicitDefEqProofs [-getElem?_pos,go_sem,hP,b1,t1,h0,lt0]
 obtain⟨J,hJ⟩:∃I:Nat→St→Prop,I=fun m s=>∃(k:Nat) (d:Int),k≤l.length∧m=l.length-k∧bM K 0 0 l=bM K k d (l.drop k)∧(k=0→d=0)∧(∀j x,k=j+1→l[j]?=some x→d=x.Day)∧s.t 1= .ref 0 0 0∧s.t 58=cd l∧s.t 59=iv l.length∧s.t 60=iv k∧s.H[0]?=some (some ⟨32,3,[[aQ W,.list 1 (K.map fun x=>[iv x]),cd l]]⟩):=⟨_,rfl⟩
 refine az J (l.length) (by rw[hN];rfl) ?_ ?_
 ·rw[hJ]
  exact⟨0,0,by omega,by omega,by rfl,by simp,by omega,t1,rfl,rfl,rfl,h0⟩
 clear t1 h0 lt0 hk hm
 intro m s hs'
 rw[hJ]at hs'
 obtain⟨k,d,hk,hm,hq,hd0,hd1,t1,t58,t59,t60,h0⟩:=hs'
 have lt0:=h0I _ h0
 simp -dsimp -implicitDefEqProofs [go_sem,hP,t59,t60]
 refine aB ?_ ?_<;>intro hh
 rotate_left
 ·have hk:k=l.length:=by simp at hh;omega
  subst hk
  rw[wG,bM]at hq
  rw[hq,if_pos rfl]at hR
  simp -dsimp -implicitDefEqProofs [go_sem,hP,hR]
 have hk:k<l.length:=by simpa using hh
 obtain⟨b,hb⟩:=gkE hk
 have hbl:=each b (zE hb)
 have wk:=ae ((k:Int)+1) (by omega)
 have ip:=cg b.Payments
 have g0:∀x:Option AObj,(s.H++[x])[0]?=some (some ⟨32,3,[[aQ W,.list 1 (K.map fun x=>[iv x]),cd l]]⟩):=fun x=>by rw[zD lt0];exact h0
 rw[dt hb,bM,Cj]at hq
 simp -dsimp -implicitDefEqProofs [go_sem,hP,t58,t60,hb,cBt]
 refine aq (fun _=>true) [] hP (by kernel_rfl) (by kernel_rfl) ?_
 by_cases e1:b.Number=(k:Int)+1
 rotate_left
 ·rw[zA e1,zJ,zJ]at hq
  have f1:=zA e1
  simp -dsimp -implicitDefEqProofs [go_sem,hP,wk,e1,f1,bad hq]
 rw[zC e1,zP]at hq
 have f1:decide (b.Number=(k:Int)+1)=true:=zC e1
 by_cases e2:b.Day<0
 ·have:iG b.Day=false:=by rw[iG,fp (by omega),zJ]
  rw[this,zJ,vM,zJ]at hq
  simp -dsimp -implicitDefEqProofs [go_sem,hP,wk,f1,e2,bad hq]
 have f2:decide (b.Day<0)=false:=zA e2
 by_cases e3:36000<b.Day
 ·have:iG b.Day=false:=by rw[iG,fp (by omega),zJ]
  rw[this,zJ,vM,zJ]at hq
  simp -dsimp -implicitDefEqProofs [go_sem,hP,wk,f1,f2,e3,bad hq]
 have f3:decide (36000<b.Day)=false:=zA e3
 simp -dsimp -implicitDefEqProofs [go_sem,hP,wk,f1,f2,f3]
 refine ai (kL b.Day) hP Kf (ak (by simp -dsimp[go_sem])) .sc ?_
 cases c3:iG b.Day
 ·rw[c3,zJ,vM,zJ]at hq
  simp -dsimp -implicitDefEqProofs [go_sem,hP,c3,bad hq]
 rw[c3,zP]at hq
 have rest:d≤b.Day→bM K 0 0 l=(amg b.Payments.length 1 10&&vn K b.Payments&&bM K (k+1) b.Day (l.drop (k+1))):=fun h=>by
  rw[hq,zC h,zP]
 have done:d≤b.Day→∀s':St,(amg b.Payments.length 1 10&&vn K b.Payments)=true→s'.t 1= .ref 0 0 0→s'.t 58=cd l→s'.t 59=iv l.length→s'.t 60=iv (k+1)→s'.H[0]?=some (some ⟨32,3,[[aQ W,.list 1 (K.map fun x=>[iv x]),cd l]]⟩)→∃m',m'<m∧J m' s':=fun h s' h1 h2 h3 h4 h5 h6=>by
  refine⟨l.length-(k+1),by omega,?_⟩
  rw[hJ]
  exact⟨k+1,b.Day,by omega,rfl,by rw[rest h,h1,zP];rfl,by omega,lz (f:=fun b:TBatch=>b.Day) hb,h2,h3,h4,h5,h6⟩
 rcases wR k with k0|k0
 ·have hdd:d≤b.Day:=by rw[hd0 k0];omega
  have k0':¬0<k:=by omega
  have hjk:decide ((0:Int)<(k:Int))=false:=zA (by omega)
  simp -dsimp -implicitDefEqProofs [go_sem,hP,c3,k0',hjk]
  have rest':=rest hdd
  by_cases e4:b.Payments.length<1
  ·have f4:decide ((b.Payments.length:Int)<1)=true:=zC (by omega)
   rw[fp (n:=(b.Payments.length:Int)) (by omega),zJ,zJ]at rest'
   simp -dsimp -implicitDefEqProofs [go_sem,hP,k0',hjk,e4,f4,bad rest']
  have f4:decide ((b.Payments.length:Int)<1)=false:=zA (by omega)
  by_cases e5:10<b.Payments.length
  ·have f5:decide ((10:Int)<(b.Payments.length:Int))=true:=zC (by omega)
   rw[fp (n:=(b.Payments.length:Int)) (by omega),zJ,zJ]at rest'
   simp -dsimp -implicitDefEqProofs [go_sem,hP,k0',hjk,f4,f5,bad rest']
  have f5:decide ((10:Int)<(b.Payments.length:Int))=false:=zA (by omega)
  have f45:amg b.Payments.length 1 10=true:=dH.2 (by omega)
  simp -dsimp -implicitDefEqProofs [-getElem?_pos,go_sem,hP,k0',hjk,f4,f5,t1,g0,lt0,h0]
  refine aJ ((asc b.Payments (by omega)).lift _ _) hP Jf (by simpa using⟨iq,ip⟩) .sc ?_
  cases c6:vn K b.Payments
  ·rw[f45,c6,zP,zJ]at rest'
   simp -dsimp -implicitDefEqProofs [go_sem,hP,k0',hjk,c6,bad rest']
  simp -dsimp -implicitDefEqProofs [go_sem,hP,k0',hjk,c6,t60,wk]
  exact done hdd _ (by rw[f45,c6];rfl) t1 t58 t59 rfl (by simp -dsimp[-getElem?_pos,go_sem,lt0,h0])
 ·obtain⟨j,hj⟩:∃j,k=j+1:=⟨k-1,by omega⟩
  obtain⟨x,hx⟩:∃x,l[j]?=some x:=⟨_,zF (by omega)⟩
  have hdx:=hd1 j x hj hx
  have hjk:decide ((0:Int)<(k:Int))=true:=zC (by omega)
  have wj:IntKind.i64.wrap ((k:Int)-1)=(j:Int):=by rw[ae _ (by omega)];omega
  by_cases c:x.Day≤b.Day
  rotate_left
  ·rw[zA (show¬d≤b.Day by omega),zJ,zJ]at hq
   have f6:decide (b.Day<x.Day)=true:=zC (by omega)
   simp -dsimp -implicitDefEqProofs [-getElem?_pos,go_sem,hP,c3,k0,hjk,wj,t1,g0,lt0,h0,hx,cBt,f6,bad hq]
  have hdd:d≤b.Day:=by omega
  have f6:decide (b.Day<x.Day)=false:=zA (by omega)
  simp -dsimp -implicitDefEqProofs [-getElem?_pos,go_sem,hP,c3,k0,hjk,wj,t1,g0,lt0,h0,hx,cBt,f6]
  have rest':=rest hdd
  by_cases e4:b.Payments.length<1
  ·have f4:decide ((b.Payments.length:Int)<1)=true:=zC (by omega)
   rw[fp (n:=(b.Payments.length:Int)) (by omega),zJ,zJ]at rest'
   simp -dsimp -implicitDefEqProofs [go_sem,hP,k0,hjk,f6,e4,f4,bad rest']
  have f4:decide ((b.Payments.length:Int)<1)=false:=zA (by omega)
  by_cases e5:10<b.Payments.length
  ·have f5:decide ((10:Int)<(b.Payments.length:Int))=true:=zC (by omega)
   rw[fp (n:=(b.Payments.length:Int)) (by omega),zJ,zJ]at rest'
   simp -dsimp -implicitDefEqProofs [go_sem,hP,k0,hjk,f6,f4,f5,bad rest']
  have f5:decide ((10:Int)<(b.Payments.length:Int))=false:=zA (by omega)
  have f45:amg b.Payments.length 1 10=true:=dH.2 (by omega)
  simp -dsimp -implicitDefEqProofs [-getElem?_pos,go_sem,hP,k0,hjk,f6,f4,f5,t1,g0,lt0,h0]
  refine aJ ((asc b.Payments (by omega)).lift _ _) hP Jf (by simpa using⟨iq,ip⟩) .sc ?_
  cases c6:vn K b.Payments
  ·rw[f45,c6,zP,zJ]at rest'
   simp -dsimp -implicitDefEqProofs [go_sem,hP,k0,hjk,f6,c6,bad rest']
  simp -dsimp -implicitDefEqProofs [go_sem,hP,k0,hjk,f6,c6,t60,wk]
  exact done hdd _ (by rw[f45,c6];rfl) t1 t58 t59 rfl (by simp -dsimp[-getElem?_pos,go_sem,lt0,h0])
open Go.PA
open Go.RowKit
abbrev qm (l:List Int):List (List AV):=l.map fun x=>[iv x]
theorem HE (l:List Int):(qm l).length=l.length:=by simp[qm]
open Go.PA
open Go.RowKit
open Go.PA
open Go.RowKit
end Go.Proofs.YtfbogibogkbhmaaGreatDoor
